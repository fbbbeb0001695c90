/- Contract: wharfagelaw17.Same: two plans, stop by stop. -/
import Derived.Test.YtafhjfkdlmijdaaEq
namespace Go.Proofs.Ytafhjfkdlmijdaa
open Go.RowKit

theorem trucks_open {w : World} {F : Nat → Prop} {xs : List (List StopD)} {cs : List Value} (h : trucksS.rep w F xs cs) :
    ∃ (a : Option Addr) (b off c : Nat), cs = [.slice a xs.length c] ∧ xs.length ≤ c ∧ c ≤ 9223372036854775807 ∧ (0 < xs.length → a = some ⟨b, off, none⟩) ∧ (0 < xs.length → F b) ∧
      ∀ k (h : k < xs.length), ∃ v, w.cell? ⟨b, off + k, none⟩ = some v ∧ (sliceS stopS).rep w F xs[k] [v] := rows_open h

theorem bike_eq {a b : BikeD} (h1 : a.sat = b.sat) (h2 : a.stops = b.stops) : a = b := by cases a; cases b; simp_all

/-- Where the two boxes lie. -/
def SameAt (w wr : World) (t b t' b' : Value) : Prop :=
  Below w.heap.size w wr ∧ wr.cell? ⟨w.heap.size, 0, none⟩ = some t ∧ wr.cell? ⟨w.heap.size, 1, none⟩ = some b ∧ wr.cell? ⟨w.heap.size + 1, 0, none⟩ = some t' ∧ wr.cell? ⟨w.heap.size + 1, 1, none⟩ = some b'
theorem SameAt.drewN {w wr : World} {t b t' b' : Value} (h : SameAt w wr t b t' b') (n : Nat) : SameAt w (wr.drewN n) t b t' b' := ⟨below_drewN h.1 n, h.2⟩

set_option maxRecDepth 100000 in
set_option maxHeartbeats 1000000 in
theorem same17_c {w : World} {F G : Nat → Prop} {p q : PlanD} {cs ds : List Value} (h : planS.rep w F p cs) (h' : planS.rep w G q ds) :
    Calls Try.prog 30 #[.agg cs.toArray, .agg ds.toArray] w fun e w' => e = .returned (.bool (decide (p = q))) ∧ Below w.heap.size w w' := by
  obtain ⟨t, b, rfl, h1, h2⟩ := h
  obtain ⟨t', b', rfl, h3, h4⟩ := h'
  obtain ⟨a1, b1, off1, c1, hs, hl1, hc1, ha1, -, hcell1⟩ := trucks_open h1
  obtain ⟨a2, b2, off2, c2, hs2, hl2, hc2, ha2, -, hcell2⟩ := bikes_open h2
  obtain ⟨a3, b3, off3, c3, hs3, hl3, hc3, ha3, -, hcell3⟩ := trucks_open h3
  obtain ⟨a4, b4, off4, c4, hs4, hl4, hc4, ha4, -, hcell4⟩ := bikes_open h4
  obtain rfl := List.cons.inj hs |>.1
  obtain rfl := List.cons.inj hs2 |>.1
  obtain rfl := List.cons.inj hs3 |>.1
  obtain rfl := List.cons.inj hs4 |>.1
  clear hs hs2 hs3 hs4 h1 h2 h3 h4
  by_cases e1 : p.trucks.length = q.trucks.length
  case neg =>
    have hn : ((p.trucks.length : Int) != (q.trucks.length : Int)) = true := by simp; omega
    have HE := hid (show ¬ p = q from by rintro rfl; exact e1 rfl)
    clear e1 hcell1 hcell2 hcell3 hcell4 ha1 ha2 ha3 ha4
    go_enter Try.func30, Try.ntmps30
    go_wp2
    go_ret
    exact ⟨ret_bool (decide_eq_false HE.out).symm, ((Below.refl _ _).alloc (Nat.le_refl _) _).alloc (by simp) _⟩
  by_cases e2 : p.bikes.length = q.bikes.length
  case neg =>
    have hn0 : ((p.trucks.length : Int) != (q.trucks.length : Int)) = false := by simp [e1]
    have hn : ((p.bikes.length : Int) != (q.bikes.length : Int)) = true := by simp; omega
    have HE := hid (show ¬ p = q from by rintro rfl; exact e2 rfl)
    clear e1 e2 hcell1 hcell2 hcell3 hcell4 ha1 ha2 ha3 ha4
    go_enter Try.func30, Try.ntmps30
    go_wp2
    go_ret
    exact ⟨ret_bool (decide_eq_false HE.out).symm, ((Below.refl _ _).alloc (Nat.le_refl _) _).alloc (by simp) _⟩
  have hn0 : ((p.trucks.length : Int) != (q.trucks.length : Int)) = false := by simp [e1]
  have hn1 : ((p.bikes.length : Int) != (q.bikes.length : Int)) = false := by simp [e2]
  have E1 := hid e1
  have E2 := hid e2
  clear e1 e2
  go_enter Try.func30, Try.ntmps30
  go_wp2
  go_loopw [5, 26] (fun _ i wr => ∃ k : Nat, k ≤ p.trucks.length ∧ i = .int .i64 k ∧ p.trucks.take k = q.trucks.take k ∧ SameAt w wr (.slice a1 p.trucks.length c1) (.slice a2 p.bikes.length c2) (.slice a3 q.trucks.length c3) (.slice a4 q.bikes.length c4))
    (fun _ i _ => p.trucks.length - (intOf i).toNat)
  case atStart => exact ⟨0, Nat.zero_le _, rfl, rfl, ((Below.refl _ _).alloc (Nat.le_refl _) _).alloc (by simp) _, by simp, by simp, by simp, by simp⟩
  case round =>
    obtain ⟨k, hk, rfl, ht, hat⟩ := hrel
    have HT := hid ht
    have HA := hid hat
    obtain ⟨hb, q0, q1, q2, q3⟩ := hat
    clear ht
    by_cases hlt : k < p.trucks.length
    · have hlt' : k < q.trucks.length := by have := E1.out; omega
      have hx := idx_at1 (c := c1) Try.underlying39 sz_truck (ha1 (by omega)) hlt
      have hx' := idx_at1 (c := c3) Try.underlying39 sz_truck (ha3 (by omega)) hlt'
      obtain ⟨v1, g1, r1⟩ := hcell1 k hlt
      obtain ⟨v2, g2, r2⟩ := hcell3 k hlt'
      have g1' := below_cell hb g1
      have g2' := below_cell hb g2
      have r1' := (sliceS stopS).below r1 hb
      have r2' := (sliceS stopS).below r2 hb
      clear hcell1 hcell2 hcell3 hcell4 ha1 ha2 ha3 ha4 g1 g2 r1 r2
      by_cases he : p.trucks[k] = q.trucks[k]
      · have HD := hid (decide_eq_true he)
        have HE := hid he
        clear he
        go_wp2
        go_quiet ((go_at_call 65; exact Calls.quiet_of (Calls.bool (eqStops_c ((sliceS stopS).keep r1' (fun _ _ => rfl)) ((sliceS stopS).keep r2' (fun _ _ => rfl))) HD.out)))
        go_wp2
        go_roundw
        case rel => exact ⟨k + 1, by omega, by go_num, take_eq_succ hlt hlt' HT.out HE.out, HA.out.drewN _⟩
        case measure => simp [intOf]; omega
      · have HD := hid (decide_eq_false he)
        have HE := hid (show ¬ p = q from by rintro rfl; exact he rfl)
        clear he
        go_wp2
        go_quiet ((go_at_call 65; exact Calls.quiet_of (Calls.bool (eqStops_c ((sliceS stopS).keep r1' (fun _ _ => rfl)) ((sliceS stopS).keep r2' (fun _ _ => rfl))) HD.out)))
        go_wp2
        go_ret
        exact ⟨ret_bool (decide_eq_false HE.out).symm, (HA.out.drewN _).1⟩
    · have hke : k = p.trucks.length := by omega
      subst hke
      have HT1 := hid (eq_of_take E1.out HT.out)
      clear hcell1 hcell3 ha1 ha3 HT
      go_wp2
      obtain ⟨w1, hw1⟩ : ∃ w1 : World, w1 = wr := ⟨_, rfl⟩
      go_loopw [6, 47] (fun _ i wr => ∃ k : Nat, k ≤ p.bikes.length ∧ i = .int .i64 k ∧ p.bikes.take k = q.bikes.take k ∧ SameAt w wr (.slice a1 p.trucks.length c1) (.slice a2 p.bikes.length c2) (.slice a3 q.trucks.length c3) (.slice a4 q.bikes.length c4))
        (fun _ i _ => p.bikes.length - (intOf i).toNat)
      case atStart => exact ⟨0, Nat.zero_le _, rfl, rfl, HA.out⟩
      case round =>
        clear hb q0 q1 q2 q3 HA hw1 w1
        obtain ⟨k, hk, rfl, ht, hat⟩ := hrel
        have HT := hid ht
        have HA := hid hat
        obtain ⟨hb, q0, q1, q2, q3⟩ := hat
        clear ht
        by_cases hlt : k < p.bikes.length
        · have hlt' : k < q.bikes.length := by have := E2.out; omega
          have hx := idx_at (c := c2) Try.underlying44 sz_bike (ha2 (by omega)) hlt
          have hx' := idx_at (c := c4) Try.underlying44 sz_bike (ha4 (by omega)) hlt'
          obtain ⟨v1, g1, f1, -, r1⟩ := hcell2 k hlt
          obtain ⟨v2, g2, f2, -, r2⟩ := hcell4 k hlt'
          have g1' := below_cell hb g1
          have g2' := below_cell hb g2
          have f1' := below_cell hb f1
          have f2' := below_cell hb f2
          have r1' := (sliceS intS).below r1 hb
          have r2' := (sliceS intS).below r2 hb
          clear hcell2 hcell4 ha2 ha4 g1 g2 f1 f2 r1 r2
          by_cases hs : p.bikes[k].sat = q.bikes[k].sat
          · have hs2 : (p.bikes[k].sat != q.bikes[k].sat) = false := by simp [hs]
            by_cases he : p.bikes[k].stops = q.bikes[k].stops
            · have HD := hid (decide_eq_true he)
              have HE := hid (bike_eq hs he)
              clear he hs
              go_wp2
              go_quiet ((go_at_call 26; exact Calls.quiet_of (Calls.bool (eqInts_c ((sliceS intS).keep r1' (fun _ _ => rfl)) ((sliceS intS).keep r2' (fun _ _ => rfl))) HD.out)))
              go_wp2
              go_roundw
              case rel => exact ⟨k + 1, by omega, by go_num, take_eq_succ hlt hlt' HT.out HE.out, HA.out.drewN _⟩
              case measure => simp [intOf]; omega
            · have HD := hid (decide_eq_false he)
              have HE := hid (show ¬ p = q from by rintro rfl; exact he rfl)
              clear he hs
              go_wp2
              go_quiet ((go_at_call 26; exact Calls.quiet_of (Calls.bool (eqInts_c ((sliceS intS).keep r1' (fun _ _ => rfl)) ((sliceS intS).keep r2' (fun _ _ => rfl))) HD.out)))
              go_wp2
              go_ret
              exact ⟨ret_bool (decide_eq_false HE.out).symm, (HA.out.drewN _).1⟩
          · have hs2 : (p.bikes[k].sat != q.bikes[k].sat) = true := by simp [hs]
            have HE := hid (show ¬ p = q from by rintro rfl; exact hs rfl)
            clear hs
            go_wp2
            go_quiet (fail)
            go_wp2
            go_ret
            exact ⟨ret_bool (decide_eq_false HE.out).symm, (HA.out.drewN _).1⟩
        · have hke : k = p.bikes.length := by omega
          subst hke
          have HT2 := hid (eq_of_take E2.out HT.out)
          clear hcell2 hcell4 ha2 ha4 HT
          go_wp2
          go_ret
          exact ⟨ret_bool (decide_eq_true (show p = q from by have e1 := HT1.out; have e2 := HT2.out; cases p; cases q; simp_all)).symm, hb⟩
end Go.Proofs.Ytafhjfkdlmijdaa
