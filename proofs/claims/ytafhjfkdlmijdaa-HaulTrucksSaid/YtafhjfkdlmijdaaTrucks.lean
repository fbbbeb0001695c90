/- Contract: plan.Plan.trucks. -/
import Derived.Test.YtafhjfkdlmijdaaInstOwn
import Derived.Test.YtafhjfkdlmijdaaSet
import Derived.Test.YtafhjfkdlmijdaaSame
import Derived.Deep.DeepCutAuto
namespace Go.Proofs.Ytafhjfkdlmijdaa
open Go.RowKit

def stopBad (x : InstD) (m : Nat) (s : StopD) : Bool := decide (s.sat < 0) || decide ((x.sats.length : Int) ≤ s.sat) || m.testBit s.sat.toNat || decide (s.load < 1) || decide (1000000000 < s.load)
def stopSt (x : InstD) : Option (Nat × Int) → StopD → Option (Nat × Int)
  | none, _ => none
  | some (m, left), s => if stopBad x m s then none else some (m ||| 2 ^ s.sat.toNat, left - s.load)
def truckSt (x : InstD) (t : List StopD) : Option (Nat × Int) := t.foldl (stopSt x) (some (0, x.troom))
def truckGo (x : InstD) : List (List StopD) → Bool → Bool → Bool × Bool
  | [], r, l => (r, l)
  | t :: ts, r, l => match truckSt x t with
    | none => (false, l)
    | some (_, left) => truckGo x ts (r && decide (0 < t.length)) (l && decide (0 ≤ left))
/-- plan.trucks: may their stops be? Do they have room? -/
def trucksB (x : InstD) (l : List (List StopD)) : Bool × Bool := truckGo x l true true
theorem stops_none (x : InstD) (l : List StopD) : l.foldl (stopSt x) none = none := by
  induction l with
  | nil => rfl
  | cons s l ih => exact ih
theorem or_lt64 {m i : Nat} (hm : m < 18446744073709551616) (hi : i < 64) : m ||| 2 ^ i < 18446744073709551616 :=
  Nat.or_lt_two_pow (n := 64) hm (Nat.pow_lt_pow_right (by decide) hi)

theorem stopSt_bad {x : InstD} {m : Nat} {left : Int} {s : StopD} (h : stopBad x m s = true) : stopSt x (some (m, left)) s = none := by simp [stopSt, h]
theorem stopSt_ok {x : InstD} {m : Nat} {left : Int} {s : StopD} (h : stopBad x m s = false) : stopSt x (some (m, left)) s = some (m ||| 2 ^ s.sat.toNat, left - s.load) := by simp [stopSt, h]
theorem truckGo_bad {x : InstD} {t : List StopD} {ts : List (List StopD)} {r l : Bool} (h : truckSt x t = none) : truckGo x (t :: ts) r l = (false, l) := by simp [truckGo, h]
theorem truckGo_ok {x : InstD} {t : List StopD} {ts : List (List StopD)} {r l : Bool} {m : Nat} {left : Int} (h : truckSt x t = some (m, left)) :
    truckGo x (t :: ts) r l = truckGo x ts (r && decide (0 < t.length)) (l && decide (0 ≤ left)) := by simp [truckGo, h]

set_option maxRecDepth 100000 in
set_option maxHeartbeats 1600000 in
theorem trucks_c {w : World} {F G : Nat → Prop} {x : InstD} {p : PlanD} {cs ps : List Value} (h : instS.rep w F x cs) (hp : planS.rep w G p ps) (hn : x.sats.length ≤ 64)
    (hr : 0 ≤ x.troom ∧ x.troom ≤ 1000000000) (ht : ∀ t ∈ p.trucks, t.length ≤ 1000000000) :
    Calls Try.prog 69 #[.agg ps.toArray, .agg cs.toArray] w fun e w' => e = .returned (.tuple #[.bool (trucksB x p.trucks).1, .bool (trucksB x p.trucks).2]) ∧ Below w.heap.size w w' := by
  obtain ⟨s, c, co, ti, rfl, -, h1, -, -, -⟩ := h
  obtain ⟨a, b, off, c1, hs, -, -, -, -, -, -⟩ := sats_open h1
  obtain rfl := List.cons.inj hs |>.1
  obtain ⟨tv, bv, rfl, h2, -⟩ := hp
  obtain ⟨a2, b2, off2, c2, hs2, hl2, hc2, ha2, -, hcell2⟩ := trucks_open h2
  obtain rfl := List.cons.inj hs2 |>.1
  clear hs hs2 h1 h2
  go_enter Try.func69, Try.ntmps69
  go_wp2
  go_loopw [4, 5, 15] (fun rr ll ii wr => ∃ (k : Nat) (r l : Bool), k ≤ p.trucks.length ∧ ii = .int .i64 k ∧ rr = .bool r ∧ ll = .bool l ∧ trucksB x p.trucks = truckGo x (p.trucks.drop k) r l ∧ Below w.heap.size w wr ∧
      wr.cell? ⟨w.heap.size + 1, 2, none⟩ = some (.int .i64 x.troom) ∧ wr.cell? ⟨w.heap.size + 1, 5, none⟩ = some (.slice a x.sats.length c1) ∧ w.heap.size + 1 < wr.heap.size) (fun _ _ i _ => p.trucks.length - (intOf i).toNat)
  case atStart => exact ⟨0, true, true, Nat.zero_le _, rfl, rfl, rfl, rfl, ((Below.refl _ _).alloc (Nat.le_refl _) _).alloc (by simp) _, by simp, by simp, by simp⟩
  case round =>
    obtain ⟨k, r, l, hk, rfl, rfl, rfl, hgo, hb, q2, q5, hz⟩ := hrel
    obtain ⟨wo, rfl⟩ : ∃ wo : World, wo = wr := ⟨_, rfl⟩
    by_cases hlt : k < p.trucks.length
    · have hx := idx_at1 (c := c2) Try.underlying39 sz_truck (ha2 (by omega)) hlt
      obtain ⟨sv, g0, hr0⟩ := hcell2 k hlt
      obtain ⟨tr, htr⟩ : ∃ tr, tr = p.trucks[k] := ⟨_, rfl⟩
      have htl := ht _ (List.getElem_mem hlt)
      rw [← htr] at hr0 htl
      obtain ⟨a3, b3, off3, c3, hs3, hl3, hc3, ha3, -, hcell3, hwf3⟩ := stops_open hr0
      obtain rfl := List.cons.inj hs3 |>.1
      have p0 := below_cell hb g0
      have HGO := hid (show trucksB x p.trucks = truckGo x (tr :: p.trucks.drop (k + 1)) r l from by rw [hgo, htr, List.drop_eq_getElem_cons hlt])
      clear hcell2 ha2 hgo hs3 hr0 g0 htr
      go_wp2
      go_loopw [4, 5, 8, 9, 25] (fun rr ll mm ff jj wx => ∃ (j m : Nat) (left : Int), j ≤ tr.length ∧ jj = .int .i64 j ∧ rr = .bool r ∧ ll = .bool l ∧ mm = .int .u64 m ∧ ff = .int .i64 left ∧ m < 18446744073709551616 ∧ (x.troom - 1000000000 * j ≤ left ∧ left ≤ x.troom) ∧
          truckSt x tr = (tr.drop j).foldl (stopSt x) (some (m, left)) ∧ Below w.heap.size w wx ∧ wx.cell? ⟨w.heap.size + 1, 2, none⟩ = some (.int .i64 x.troom) ∧ wx.cell? ⟨w.heap.size + 1, 5, none⟩ = some (.slice a x.sats.length c1) ∧
          wx.cell? ⟨wo.heap.size, 0, none⟩ = some (.slice a3 tr.length c3) ∧ wo.heap.size < wx.heap.size) (fun _ _ _ _ jj _ => tr.length - (intOf jj).toNat)
      case atStart =>
        exact ⟨0, 0, x.troom, Nat.zero_le _, rfl, rfl, rfl, rfl, rfl, by decide, by omega, rfl, hb.alloc (by omega) _, below_cell ((Below.refl _ _).alloc (Nat.le_refl _) _) q2, below_cell ((Below.refl _ _).alloc (Nat.le_refl _) _) q5, by simp, by simp⟩
      case round =>
        obtain ⟨j, m, left, hj, rfl, rfl, rfl, rfl, rfl, hm, hleft, hst, hb2, q2', q5', q0, hzx⟩ := hrel
        clear q2 q5
        have hz' : w.heap.size + 1 < wr.heap.size := by omega
        obtain ⟨wi, rfl⟩ : ∃ wi : World, wi = wr := ⟨_, rfl⟩
        by_cases hjt : j < tr.length
        · have hy := idx_at (c := c3) Try.underlying106 sz_stop (ha3 (by omega)) hjt
          have g3 := below_cell hb2 (hcell3 j hjt).1
          have g4 := below_cell hb2 (hcell3 j hjt).2
          obtain ⟨sp, hsp⟩ : ∃ sp, sp = tr[j] := ⟨_, rfl⟩
          have hwf := hwf3 _ (List.getElem_mem hjt)
          rw [← hsp] at g3 g4 hwf
          obtain ⟨st, ld⟩ := sp
          have hnx : (tr.drop j).foldl (stopSt x) (some (m, left)) = (tr.drop (j + 1)).foldl (stopSt x) (stopSt x (some (m, left)) ⟨st, ld⟩) := by rw [List.drop_eq_getElem_cons hjt, ← hsp]; rfl
          rw [hnx] at hst
          simp only [] at g3 g4 hwf
          clear hnx hsp hcell3 ha3
          have HST := hid hst
          clear hst
          have HBAD := hid (show stopBad x m ⟨st, ld⟩ = true → trucksB x p.trucks = (false, l) from fun h => by rw [HGO.out]; exact truckGo_bad (by rw [HST.out, stopSt_bad h, stops_none]))
          have HOK := hid (show stopBad x m ⟨st, ld⟩ = false → truckSt x tr = (tr.drop (j + 1)).foldl (stopSt x) (some (m ||| 2 ^ st.toNat, left - ld)) from fun h => by rw [HST.out, stopSt_ok h])
          clear HST
          by_cases e1 : st < 0
          · have HB := hid (HBAD.out (by simp [stopBad, e1]))
            go_wp2
            go_ret2
            exact ⟨by rw [HB.out]; rfl, by simpa using hb2.alloc (by omega) _⟩
          · by_cases e2 : (x.sats.length : Int) ≤ st
            · have HB := hid (HBAD.out (by simp [stopBad, e2]))
              go_wp2
              go_ret2
              exact ⟨by rw [HB.out]; rfl, by simpa using hb2.alloc (by omega) _⟩
            · obtain ⟨sn, rfl⟩ : ∃ sn : Nat, st = sn := ⟨st.toNat, by omega⟩
              rw [Int.toNat_natCast] at HOK
              have hsn : sn < 64 := by omega
              cases e3 : m.testBit sn
              · by_cases e4 : ld < 1
                · have HB := hid (HBAD.out (by simp [stopBad, e4]))
                  have HW := hid (has_yes m sn hsn hm)
                  clear hm
                  go_wp2_with (go_at_call 97; refine (HW.out _).mono ?_; rintro e w' ⟨rfl, rfl⟩; rw [e3])
                  go_ret2
                  exact ⟨by rw [HB.out]; rfl, by simpa using hb2.alloc (by omega) _⟩
                · by_cases e5 : 1000000000 < ld
                  · have HB := hid (HBAD.out (by simp [stopBad, e5]))
                    have HW := hid (has_yes m sn hsn hm)
                    clear hm
                    go_wp2_with (go_at_call 97; refine (HW.out _).mono ?_; rintro e w' ⟨rfl, rfl⟩; rw [e3])
                    go_ret2
                    exact ⟨by rw [HB.out]; rfl, by simpa using hb2.alloc (by omega) _⟩
                  · have HO := hid (HOK.out (by simp [stopBad, e3]; omega))
                    have HW := hid (has_yes m sn hsn hm)
                    have HV := hid (with_yes m sn hsn hm)
                    have HM := hid (or_lt64 hm hsn)
                    clear hm
                    go_wp2_with (first
                      | (go_at_call 97; refine (HW.out _).mono ?_; rintro e w' ⟨rfl, rfl⟩; rw [e3])
                      | (go_at_call 98; refine (HV.out _).mono ?_; rintro e w' ⟨rfl, rfl⟩))
                    go_roundw
                    case rel =>
                      refine ⟨j + 1, m ||| 2 ^ sn, left - ld, by omega, by go_num, rfl, rfl, rfl, rfl, HM.out, by omega, HO.out, hb2.alloc (by omega) _, ?_, ?_, ?_, ?_⟩
                      · exact below_cell ((Below.refl _ _).alloc (Nat.le_refl _) _) q2'
                      · exact below_cell ((Below.refl _ _).alloc (Nat.le_refl _) _) q5'
                      · exact below_cell ((Below.refl _ _).alloc (Nat.le_refl _) _) q0
                      · simp; omega
                    case measure => simp [intOf]; omega
              · have HB := hid (HBAD.out (by simp [stopBad, e3]))
                have HW := hid (has_yes m sn hsn hm)
                clear hm
                go_wp2_with (go_at_call 97; refine (HW.out _).mono ?_; rintro e w' ⟨rfl, rfl⟩; rw [e3])
                go_ret2
                exact ⟨by rw [HB.out]; rfl, by simpa using hb2.alloc (by omega) _⟩
        · have hjl : j = tr.length := by omega
          subst hjl
          have HG := hid (show trucksB x p.trucks = truckGo x (p.trucks.drop (k + 1)) (r && decide (0 < tr.length)) (l && decide (0 ≤ left)) from by rw [HGO.out]; exact truckGo_ok (m := m) (by rw [hst, List.drop_length]; rfl))
          clear hst HGO hcell3 ha3
          have HL := hid hleft
          clear hleft hj
          cases r <;> cases l <;> by_cases f1 : 0 < tr.length <;> by_cases f2 : 0 ≤ left
          all_goals
            go_wp2
            go_roundw
            case rel => exact ⟨k + 1, _, _, by omega, by go_num, rfl, rfl, by rw [HG.out]; simp [f1, f2], hb2, q2', q5', by omega⟩
            case measure => simp [intOf]; omega
    · have hkl : k = p.trucks.length := by omega
      subst hkl
      have HG := hid (show trucksB x p.trucks = (r, l) from by rw [hgo, List.drop_length]; rfl)
      clear hcell2 ha2 hgo
      go_wp2
      go_ret2
      exact ⟨by rw [HG.out]; rfl, hb⟩
end Go.Proofs.Ytafhjfkdlmijdaa
