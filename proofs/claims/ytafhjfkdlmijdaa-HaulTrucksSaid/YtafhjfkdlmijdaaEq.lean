/- Contracts: slices.Equal at int, int64, plan.Stop. -/
import Derived.Test.YtafhjfkdlmijdaaFacts
import Derived.Laws.StructEq
namespace Go.Proofs.Ytafhjfkdlmijdaa
open Go.RowKit
theorem take_eq_succ {α : Type} {xs ys : List α} {k : Nat} (h1 : k < xs.length) (h2 : k < ys.length) (h : xs.take k = ys.take k) (he : xs[k] = ys[k]) : xs.take (k + 1) = ys.take (k + 1) := by
  rw [List.take_succ_eq_append_getElem h1, List.take_succ_eq_append_getElem h2, h, he]
theorem ne_of_get {α : Type} {xs ys : List α} {k : Nat} (h1 : k < xs.length) (h2 : k < ys.length) (he : xs[k] ≠ ys[k]) : xs ≠ ys := by
  rintro rfl; exact he rfl
theorem eq_of_take {α : Type} {xs ys : List α} (hl : xs.length = ys.length) (h : xs.take xs.length = ys.take xs.length) : xs = ys := by
  rw [List.take_length] at h; rw [h, hl, List.take_length]

set_option maxHeartbeats 400000 in
theorem eqInts_c {w : World} {F G : Nat → Prop} {xs ys : List Int} {u v : Value} (h : (sliceS intS).rep w F xs [u]) (h' : (sliceS intS).rep w G ys [v]) :
    Calls Try.prog 26 #[u, v] w fun e w' => e = .returned (.bool (decide (xs = ys))) ∧ ∃ n, w' = w.drewN n := by
  obtain ⟨a, b, off, c, hs, hlc, hc, ha, -, hcell, -⟩ := ints_open h
  obtain ⟨a', b', off', c', hs', hlc', hc', ha', -, hcell', -⟩ := ints_open h'
  obtain rfl := List.cons.inj hs |>.1
  obtain rfl := List.cons.inj hs' |>.1
  clear hs hs' h h'
  by_cases hl : xs.length = ys.length
  · have hl2 : ((xs.length : Int) == (ys.length : Int)) = true := by simp [hl]
    have hl3 : ((xs.length : Int) != (ys.length : Int)) = false := by simp [hl]
    have HL := hid hl
    clear hl
    go_enter Try.func26, Try.ntmps26
    go_wp2
    go_loopw [5, 13] (fun t i wr => ∃ k : Nat, k ≤ xs.length ∧ i = .int .i64 k ∧ xs.take k = ys.take k ∧ ∃ n, wr = w.drewN n)
      (fun _ i _ => xs.length - (intOf i).toNat)
    case atStart => exact ⟨0, Nat.zero_le _, rfl, rfl, 0, rfl⟩
    case round =>
      obtain ⟨k, hk, rfl, ht, nd, rfl⟩ := hrel
      by_cases hlt : k < xs.length
      · have hlt' : k < ys.length := by have := HL.out; omega
        have g0 := hcell k hlt
        have g1 := hcell' k hlt'
        have hx := idx_at1 (c := c) Try.underlying49 sz_int (ha (by omega)) hlt
        have hx' := idx_at1 (c := c') Try.underlying49 sz_int (ha' (by omega)) hlt'
        have HT := hid ht
        clear hcell hcell' ha ha' ht
        by_cases he : xs[k] = ys[k]
        · have he2 : (xs[k] != ys[k]) = false := by simp [he]
          have HE := hid he
          clear he
          go_wp2
          go_quiet (fail)
          go_wp2
          go_roundw
          case rel => exact ⟨k + 1, by omega, by go_num, take_eq_succ hlt hlt' HT.out HE.out, _, by first | rfl | exact World.drewN_drewN _ _ _⟩
          case measure => simp [intOf]; omega
        · have he2 : (xs[k] != ys[k]) = true := by simp [he]
          have HE := hid he
          clear he
          go_wp2
          go_quiet (fail)
          go_wp2
          go_ret
          exact ⟨ret_bool (decide_eq_false (ne_of_get hlt hlt' HE.out)).symm, _, by first | rfl | exact World.drewN_drewN _ _ _⟩
      · have hke : k = xs.length := by omega
        subst hke
        have HT := hid ht
        clear hcell hcell' ha ha' ht
        go_wp2
        go_ret
        exact ⟨ret_bool (decide_eq_true (eq_of_take HL.out HT.out)).symm, nd, rfl⟩
  · have hl2 : ((xs.length : Int) == (ys.length : Int)) = false := by simp; omega
    have hl3 : ((xs.length : Int) != (ys.length : Int)) = true := by simp; omega
    have HL := hid hl
    clear hl hcell hcell' ha ha'
    go_enter Try.func26, Try.ntmps26
    go_wp2
    go_ret
    exact ⟨ret_bool (decide_eq_false (fun e => HL.out (by rw [e]))).symm, 0, rfl⟩

set_option maxHeartbeats 400000 in
theorem eqI64s_c {w : World} {F G : Nat → Prop} {xs ys : List Int} {u v : Value} (h : (sliceS intS).rep w F xs [u]) (h' : (sliceS intS).rep w G ys [v]) :
    Calls Try.prog 68 #[u, v] w fun e w' => e = .returned (.bool (decide (xs = ys))) ∧ ∃ n, w' = w.drewN n := by
  obtain ⟨a, b, off, c, hs, hlc, hc, ha, -, hcell, -⟩ := ints_open h
  obtain ⟨a', b', off', c', hs', hlc', hc', ha', -, hcell', -⟩ := ints_open h'
  obtain rfl := List.cons.inj hs |>.1
  obtain rfl := List.cons.inj hs' |>.1
  clear hs hs' h h'
  by_cases hl : xs.length = ys.length
  · have hl2 : ((xs.length : Int) == (ys.length : Int)) = true := by simp [hl]
    have hl3 : ((xs.length : Int) != (ys.length : Int)) = false := by simp [hl]
    have HL := hid hl
    clear hl
    go_enter Try.func68, Try.ntmps68
    go_wp2
    go_loopw [5, 13] (fun t i wr => ∃ k : Nat, k ≤ xs.length ∧ i = .int .i64 k ∧ xs.take k = ys.take k ∧ ∃ n, wr = w.drewN n)
      (fun _ i _ => xs.length - (intOf i).toNat)
    case atStart => exact ⟨0, Nat.zero_le _, rfl, rfl, 0, rfl⟩
    case round =>
      obtain ⟨k, hk, rfl, ht, nd, rfl⟩ := hrel
      by_cases hlt : k < xs.length
      · have hlt' : k < ys.length := by have := HL.out; omega
        have g0 := hcell k hlt
        have g1 := hcell' k hlt'
        have hx := idx_at1 (c := c) Try.underlying34 sz_i64 (ha (by omega)) hlt
        have hx' := idx_at1 (c := c') Try.underlying34 sz_i64 (ha' (by omega)) hlt'
        have HT := hid ht
        clear hcell hcell' ha ha' ht
        by_cases he : xs[k] = ys[k]
        · have he2 : (xs[k] != ys[k]) = false := by simp [he]
          have HE := hid he
          clear he
          go_wp2
          go_quiet (fail)
          go_wp2
          go_roundw
          case rel => exact ⟨k + 1, by omega, by go_num, take_eq_succ hlt hlt' HT.out HE.out, _, by first | rfl | exact World.drewN_drewN _ _ _⟩
          case measure => simp [intOf]; omega
        · have he2 : (xs[k] != ys[k]) = true := by simp [he]
          have HE := hid he
          clear he
          go_wp2
          go_quiet (fail)
          go_wp2
          go_ret
          exact ⟨ret_bool (decide_eq_false (ne_of_get hlt hlt' HE.out)).symm, _, by first | rfl | exact World.drewN_drewN _ _ _⟩
      · have hke : k = xs.length := by omega
        subst hke
        have HT := hid ht
        clear hcell hcell' ha ha' ht
        go_wp2
        go_ret
        exact ⟨ret_bool (decide_eq_true (eq_of_take HL.out HT.out)).symm, nd, rfl⟩
  · have hl2 : ((xs.length : Int) == (ys.length : Int)) = false := by simp; omega
    have hl3 : ((xs.length : Int) != (ys.length : Int)) = true := by simp; omega
    have HL := hid hl
    clear hl hcell hcell' ha ha'
    go_enter Try.func68, Try.ntmps68
    go_wp2
    go_ret
    exact ⟨ret_bool (decide_eq_false (fun e => HL.out (by rw [e]))).symm, 0, rfl⟩

set_option maxHeartbeats 400000 in
theorem eqStops_c {w : World} {F G : Nat → Prop} {xs ys : List StopD} {u v : Value} (h : (sliceS stopS).rep w F xs [u]) (h' : (sliceS stopS).rep w G ys [v]) :
    Calls Try.prog 65 #[u, v] w fun e w' => e = .returned (.bool (decide (xs = ys))) ∧ ∃ n, w' = w.drewN n := by
  obtain ⟨a, b, off, c, hs, hlc, hc, ha, -, hcell, -⟩ := stops_open h
  obtain ⟨a', b', off', c', hs', hlc', hc', ha', -, hcell', -⟩ := stops_open h'
  obtain rfl := List.cons.inj hs |>.1
  obtain rfl := List.cons.inj hs' |>.1
  clear hs hs' h h'
  by_cases hl : xs.length = ys.length
  · have hl2 : ((xs.length : Int) == (ys.length : Int)) = true := by simp [hl]
    have hl3 : ((xs.length : Int) != (ys.length : Int)) = false := by simp [hl]
    have HL := hid hl
    clear hl
    go_enter Try.func65, Try.ntmps65
    go_wp2
    go_loopw [5, 13] (fun t i wr => ∃ k : Nat, k ≤ xs.length ∧ i = .int .i64 k ∧ xs.take k = ys.take k ∧ ∃ n, wr = w.drewN n)
      (fun _ i _ => xs.length - (intOf i).toNat)
    case atStart => exact ⟨0, Nat.zero_le _, rfl, rfl, 0, rfl⟩
    case round =>
      obtain ⟨k, hk, rfl, ht, nd, rfl⟩ := hrel
      by_cases hlt : k < xs.length
      · have hlt' : k < ys.length := by have := HL.out; omega
        have g0 := (hcell k hlt).1
        have g1 := (hcell k hlt).2
        have g2 := (hcell' k hlt').1
        have g3 := (hcell' k hlt').2
        have hx := idx_at (c := c) Try.underlying106 sz_stop (ha (by omega)) hlt
        have hx' := idx_at (c := c') Try.underlying106 sz_stop (ha' (by omega)) hlt'
        have HT := hid ht
        clear hcell hcell' ha ha' ht
        cases h1 : (xs[k].sat == ys[k].sat) <;> cases h2 : (xs[k].load == ys[k].load)
        case true.true =>
          have HE := hid (show xs[k] = ys[k] from by
            have e1 := eq_of_beq h1
            have e2 := eq_of_beq h2
            cases h3 : xs[k]; cases h4 : ys[k]; simp_all)
          go_wp2
          go_quiet (fail)
          go_wp2
          go_roundw
          case rel => exact ⟨k + 1, by omega, by go_num, take_eq_succ hlt hlt' HT.out HE.out, _, by first | rfl | exact World.drewN_drewN _ _ _⟩
          case measure => simp [intOf]; omega
        all_goals
          have HE := hid (show ¬ xs[k] = ys[k] from by intro e; rw [e] at h1 h2; simp at h1 h2)
          go_wp2
          go_quiet (fail)
          go_wp2
          go_ret
          exact ⟨ret_bool (decide_eq_false (ne_of_get hlt hlt' HE.out)).symm, _, by first | rfl | exact World.drewN_drewN _ _ _⟩
      · have hke : k = xs.length := by omega
        subst hke
        have HT := hid ht
        clear hcell hcell' ha ha' ht
        go_wp2
        go_ret
        exact ⟨ret_bool (decide_eq_true (eq_of_take HL.out HT.out)).symm, nd, rfl⟩
  · have hl2 : ((xs.length : Int) == (ys.length : Int)) = false := by simp; omega
    have hl3 : ((xs.length : Int) != (ys.length : Int)) = true := by simp; omega
    have HL := hid hl
    clear hl hcell hcell' ha ha'
    go_enter Try.func65, Try.ntmps65
    go_wp2
    go_ret
    exact ⟨ret_bool (decide_eq_false (fun e => HL.out (by rw [e]))).symm, 0, rfl⟩
end Go.Proofs.Ytafhjfkdlmijdaa
