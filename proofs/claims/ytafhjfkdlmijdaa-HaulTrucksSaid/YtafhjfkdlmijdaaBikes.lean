/- Contract: plan.Plan.bikes. -/
import Derived.Test.YtafhjfkdlmijdaaInstOwn
import Derived.Test.YtafhjfkdlmijdaaSet
import Derived.Test.YtafhjfkdlmijdaaSame
import Derived.Deep.DeepCutAuto
import Derived.Deep.QuietTactic
import Derived.BigQuiet
namespace Go.Proofs.Ytafhjfkdlmijdaa
open Go.RowKit

def custAt (x : InstD) (c : Int) : CustD := x.custs.getD c.toNat ⟨0, 0, 0, 0⟩
def custBad (x : InstD) (m : Nat) (c : Int) : Bool := decide (c < 0) || decide ((x.custs.length : Int) ≤ c) || m.testBit c.toNat
def custSt (x : InstD) : Option (Nat × Int) → Int → Option (Nat × Int)
  | none, _ => none
  | some (m, left), c => if custBad x m c then none else some (m ||| 2 ^ c.toNat, left - (custAt x c).load)
def bikeSt (x : InstD) (m : Nat) (l : List Int) : Option (Nat × Int) := l.foldl (custSt x) (some (m, x.broom))
def bikeBad (x : InstD) (b : BikeD) : Bool := decide (b.sat < 0) || decide ((x.sats.length : Int) ≤ b.sat) || decide (b.stops.length = 0)
def bikeGo (x : InstD) : List BikeD → Nat → Bool → Bool × Bool × Bool
  | [], m, l => (true, decide (Lib.onesCount m = x.custs.length), l)
  | b :: bs, m, l => if bikeBad x b then (false, false, l) else match bikeSt x m b.stops with
    | none => (false, false, l)
    | some (m', left) => bikeGo x bs m' (l && decide (0 ≤ left))
/-- plan.bikes: may their stops be? Are all customers there? Do they have room? -/
def bikesB (x : InstD) (l : List BikeD) : Bool × Bool × Bool := bikeGo x l 0 true
theorem beq_ofNat (a b : Nat) : ((a : Int) == (b : Int)) = decide (a = b) := by
  by_cases h : a = b
  · subst h; simp
  · rw [decide_eq_false h, beq_eq_false_iff_ne]; omega
theorem ret_mid {a b b' c : Bool} (h : b = b') : Ending.returned (.tuple #[.bool a, .bool b, .bool c]) = .returned (.tuple #[.bool a, .bool b', .bool c]) := by rw [h]
theorem custs_none (x : InstD) (l : List Int) : l.foldl (custSt x) none = none := by
  induction l with
  | nil => rfl
  | cons s l ih => exact ih
theorem or_lt6 {m i : Nat} (hm : m < 64) (hi : i < 6) : m ||| 2 ^ i < 64 := Nat.or_lt_two_pow (n := 6) hm (Nat.pow_lt_pow_right (by decide) hi)
theorem custSt_bad {x : InstD} {m : Nat} {left : Int} {c : Int} (h : custBad x m c = true) : custSt x (some (m, left)) c = none := by simp [custSt, h]
theorem custSt_ok {x : InstD} {m : Nat} {left : Int} {c : Int} (h : custBad x m c = false) : custSt x (some (m, left)) c = some (m ||| 2 ^ c.toNat, left - (custAt x c).load) := by simp [custSt, h]
theorem bikeGo_bad {x : InstD} {b : BikeD} {bs : List BikeD} {m : Nat} {l : Bool} (h : bikeBad x b = true) : bikeGo x (b :: bs) m l = (false, false, l) := by simp [bikeGo, h]
theorem bikeGo_none {x : InstD} {b : BikeD} {bs : List BikeD} {m : Nat} {l : Bool} (h : bikeSt x m b.stops = none) : bikeGo x (b :: bs) m l = (false, false, l) := by simp [bikeGo, h]
theorem bikeGo_ok {x : InstD} {b : BikeD} {bs : List BikeD} {m m' : Nat} {l : Bool} {left : Int} (h0 : bikeBad x b = false) (h : bikeSt x m b.stops = some (m', left)) :
    bikeGo x (b :: bs) m l = bikeGo x bs m' (l && decide (0 ≤ left)) := by simp [bikeGo, h0, h]

set_option maxRecDepth 100000 in
set_option maxHeartbeats 1600000 in
theorem bikes_c {w : World} {F G : Nat → Prop} {x : InstD} {p : PlanD} {cs ps : List Value} (h : instS.rep w F x cs) (hp : planS.rep w G p ps) (hn : x.custs.length ≤ 6)
    (hr : 0 ≤ x.broom ∧ x.broom ≤ 1000000000) (hcu : ∀ c ∈ x.custs, 0 ≤ c.load ∧ c.load ≤ 1000000000) (ht : ∀ b ∈ p.bikes, b.stops.length ≤ 1000000000) :
    Calls Try.prog 70 #[.agg ps.toArray, .agg cs.toArray] w fun e w' => e = .returned (.tuple #[.bool (bikesB x p.bikes).1, .bool (bikesB x p.bikes).2.1, .bool (bikesB x p.bikes).2.2]) ∧ Below w.heap.size w w' := by
  obtain ⟨s, c, co, ti, rfl, -, h1, h2, -, -⟩ := h
  obtain ⟨a, b, off, c1, hs, -, -, -, -, -, -⟩ := sats_open h1
  obtain rfl := List.cons.inj hs |>.1
  obtain ⟨a', b', off', c1', hs', hlc', hc', ha', -, hcell', -⟩ := custs_open h2
  obtain rfl := List.cons.inj hs' |>.1
  obtain ⟨tv, bv, rfl, -, h3⟩ := hp
  obtain ⟨a2, b2, off2, c2, hs2, hl2, hc2, ha2, -, hcell2⟩ := bikes_open h3
  obtain rfl := List.cons.inj hs2 |>.1
  clear hs hs' hs2 h1 h2 h3
  go_enter Try.func70, Try.ntmps70
  go_wp2
  go_loopw [4, 5, 6, 7, 16] (fun rr aa ll mm ii wr => ∃ (k m : Nat) (l : Bool), k ≤ p.bikes.length ∧ ii = .int .i64 k ∧ rr = .bool true ∧ aa = .bool false ∧ ll = .bool l ∧ mm = .int .u64 m ∧ m < 64 ∧
      bikesB x p.bikes = bikeGo x (p.bikes.drop k) m l ∧ Below w.heap.size w wr ∧ wr.cell? ⟨w.heap.size + 1, 4, none⟩ = some (.int .i64 x.broom) ∧ wr.cell? ⟨w.heap.size + 1, 5, none⟩ = some (.slice a x.sats.length c1) ∧
      wr.cell? ⟨w.heap.size + 1, 6, none⟩ = some (.slice a' x.custs.length c1') ∧ w.heap.size + 1 < wr.heap.size) (fun _ _ _ _ i _ => p.bikes.length - (intOf i).toNat)
  case atStart => exact ⟨0, 0, true, Nat.zero_le _, rfl, rfl, rfl, rfl, rfl, by decide, rfl, ((Below.refl _ _).alloc (Nat.le_refl _) _).alloc (by simp) _, by simp, by simp, by simp, by simp⟩
  case round =>
    obtain ⟨k, m, l, hk, rfl, rfl, rfl, rfl, rfl, hm, hgo, hb, q4, q5, q6, hz⟩ := hrel
    obtain ⟨wo, rfl⟩ : ∃ wo : World, wo = wr := ⟨_, rfl⟩
    by_cases hlt : k < p.bikes.length
    · have hx := idx_at (c := c2) Try.underlying44 sz_bike (ha2 (by omega)) hlt
      obtain ⟨sv, g0, g1, hwf, hr0⟩ := hcell2 k hlt
      obtain ⟨bk, hbk⟩ : ∃ bk, bk = p.bikes[k] := ⟨_, rfl⟩
      have htl := ht _ (List.getElem_mem hlt)
      rw [← hbk] at g0 hwf hr0 htl
      obtain ⟨st, sp⟩ := bk
      simp only [] at g0 hwf hr0 htl
      obtain ⟨a3, b3, off3, c3, hs3, hl3, hc3, ha3, -, hcell3, hwf3⟩ := ints_open hr0
      obtain rfl := List.cons.inj hs3 |>.1
      have p0 := below_cell hb g0
      have p1 := below_cell hb g1
      have HGO := hid (show bikesB x p.bikes = bikeGo x (⟨st, sp⟩ :: p.bikes.drop (k + 1)) m l from by rw [hgo, hbk, List.drop_eq_getElem_cons hlt])
      clear hcell2 ha2 hgo hs3 hr0 g0 g1 hbk
      have hz' : w.heap.size + 1 < wo.heap.size := hz
      have HBB := hid (show bikeBad x ⟨st, sp⟩ = true → bikesB x p.bikes = (false, false, l) from fun h => by rw [HGO.out]; exact bikeGo_bad h)
      by_cases e1 : st < 0
      · have HB := hid (HBB.out (by simp [bikeBad, e1]))
        go_wp2
        go_ret3
        exact ⟨by rw [HB.out]; rfl, by simpa using hb.alloc (by omega) _⟩
      · by_cases e2 : (x.sats.length : Int) ≤ st
        · have HB := hid (HBB.out (by simp [bikeBad, e2]))
          go_wp2
          go_ret3
          exact ⟨by rw [HB.out]; rfl, by simpa using hb.alloc (by omega) _⟩
        · by_cases e3 : sp.length = 0
          · have HB := hid (HBB.out (by simp [bikeBad, e3]))
            go_wp2
            go_ret3
            exact ⟨by rw [HB.out]; rfl, by simpa using hb.alloc (by omega) _⟩
          · have HNB := hid (show bikeBad x ⟨st, sp⟩ = false from by simp [bikeBad, e3]; omega)
            clear HBB
            go_wp2
            go_loopw [4, 5, 6, 7, 10, 44] (fun rr aa ll mm ff jj wx => ∃ (j m2 : Nat) (left : Int), j ≤ sp.length ∧ jj = .int .i64 j ∧ rr = .bool true ∧ aa = .bool false ∧ ll = .bool l ∧ mm = .int .u64 m2 ∧ ff = .int .i64 left ∧ m2 < 64 ∧
                (x.broom - 1000000000 * j ≤ left ∧ left ≤ x.broom) ∧ bikeSt x m sp = (sp.drop j).foldl (custSt x) (some (m2, left)) ∧ Below w.heap.size w wx ∧ wx.cell? ⟨w.heap.size + 1, 4, none⟩ = some (.int .i64 x.broom) ∧
                wx.cell? ⟨w.heap.size + 1, 5, none⟩ = some (.slice a x.sats.length c1) ∧ wx.cell? ⟨w.heap.size + 1, 6, none⟩ = some (.slice a' x.custs.length c1') ∧ w.heap.size + 1 < wx.heap.size) (fun _ _ _ _ _ jj _ => sp.length - (intOf jj).toNat)
            case atStart =>
              exact ⟨0, m, x.broom, Nat.zero_le _, rfl, rfl, rfl, rfl, rfl, rfl, hm, by omega, rfl, hb.alloc (by omega) _, below_cell ((Below.refl _ _).alloc (Nat.le_refl _) _) q4, below_cell ((Below.refl _ _).alloc (Nat.le_refl _) _) q5,
                below_cell ((Below.refl _ _).alloc (Nat.le_refl _) _) q6, by simp; omega⟩
            case round =>
              obtain ⟨j, m2, left, hj, rfl, rfl, rfl, rfl, rfl, rfl, hm2, hleft, hst, hb2, q4', q5', q6', hzx⟩ := hrel
              clear q4 q5 q6
              by_cases hjt : j < sp.length
              · have hy := idx_at1 (c := c3) Try.underlying49 sz_int (ha3 (by omega)) hjt
                have g3 := below_cell hb2 (hcell3 j hjt)
                obtain ⟨c, hc⟩ : ∃ c, c = sp[j] := ⟨_, rfl⟩
                rw [← hc] at g3
                have hnx : (sp.drop j).foldl (custSt x) (some (m2, left)) = (sp.drop (j + 1)).foldl (custSt x) (custSt x (some (m2, left)) c) := by rw [List.drop_eq_getElem_cons hjt, ← hc]; rfl
                rw [hnx] at hst
                clear hnx hc hcell3 ha3
                have HST := hid hst
                clear hst
                have HBAD := hid (show custBad x m2 c = true → bikesB x p.bikes = (false, false, l) from fun h => by rw [HGO.out]; exact bikeGo_none (by rw [HST.out, custSt_bad h, custs_none]))
                have HOK := hid (show custBad x m2 c = false → bikeSt x m sp = (sp.drop (j + 1)).foldl (custSt x) (some (m2 ||| 2 ^ c.toNat, left - (custAt x c).load)) from fun h => by rw [HST.out, custSt_ok h])
                clear HST
                by_cases f1 : c < 0
                · have HB := hid (HBAD.out (by simp [custBad, f1]))
                  go_wp2
                  go_ret3
                  exact ⟨by rw [HB.out]; rfl, hb2⟩
                · by_cases f2 : (x.custs.length : Int) ≤ c
                  · have HB := hid (HBAD.out (by simp [custBad, f2]))
                    go_wp2
                    go_ret3
                    exact ⟨by rw [HB.out]; rfl, hb2⟩
                  · obtain ⟨cn, rfl⟩ : ∃ cn : Nat, c = cn := ⟨c.toNat, by omega⟩
                    rw [Int.toNat_natCast] at HOK
                    have hcn : cn < 6 := by omega
                    have hcl : cn < x.custs.length := by omega
                    cases f3 : m2.testBit cn
                    · have HO := hid (HOK.out (by simp [custBad, f3]; omega))
                      have HW := hid (has_yes m2 cn (by omega) (by omega))
                      have HV := hid (with_yes m2 cn (by omega) (by omega))
                      have HM := hid (or_lt6 hm2 hcn)
                      have hic := idx_at (c := c1') Try.underlying30 sz_cust (ha' (by omega)) hcl
                      have hcl1 := below_cell hb2 (hcell' cn hcl).1
                      have hld := hcu _ (List.getElem_mem hcl)
                      obtain ⟨ld, hlde⟩ : ∃ ld, ld = x.custs[cn].load := ⟨_, rfl⟩
                      have HLD := hid (show (custAt x (cn : Int)).load = ld from by unfold custAt; rw [Int.toNat_natCast, List.getD_eq_getElem?_getD, List.getElem?_eq_getElem hcl, hlde]; rfl)
                      rw [← hlde] at hcl1 hld
                      clear hm hm2 hlde hcell'
                      go_wp2_with (first
                        | (go_at_call 97; refine (HW.out _).mono ?_; rintro e w' ⟨rfl, rfl⟩; rw [f3])
                        | (go_at_call 98; refine (HV.out _).mono ?_; rintro e w' ⟨rfl, rfl⟩))
                      go_roundw
                      case rel => exact ⟨j + 1, m2 ||| 2 ^ cn, left - ld, by omega, by go_num, rfl, rfl, rfl, rfl, rfl, HM.out, by omega, by rw [HO.out, HLD.out], hb2, q4', q5', q6', hzx⟩
                      case measure => simp [intOf]; omega
                    · have HB := hid (HBAD.out (by simp [custBad, f3]))
                      have HW := hid (has_yes m2 cn (by omega) (by omega))
                      clear hm hm2
                      go_wp2_with (go_at_call 97; refine (HW.out _).mono ?_; rintro e w' ⟨rfl, rfl⟩; rw [f3])
                      go_ret3
                      exact ⟨by rw [HB.out]; rfl, hb2⟩
              · have hjl : j = sp.length := by omega
                subst hjl
                have HG := hid (show bikesB x p.bikes = bikeGo x (p.bikes.drop (k + 1)) m2 (l && decide (0 ≤ left)) from by rw [HGO.out]; exact bikeGo_ok HNB.out (by rw [hst, List.drop_length]; rfl))
                have HM := hid hm2
                clear hst HGO hcell3 ha3 hleft hj hm2
                cases l <;> by_cases f2 : 0 ≤ left
                all_goals
                  go_wp2
                  go_roundw
                  case rel => exact ⟨k + 1, m2, _, by omega, by go_num, rfl, rfl, rfl, rfl, HM.out, by rw [HG.out]; simp [f2], hb2, q4', q5', q6', hzx⟩
                  case measure => simp [intOf]; omega
    · have hkl : k = p.bikes.length := by omega
      subst hkl
      have HG := hid (show bikesB x p.bikes = (true, decide (Lib.onesCount m = x.custs.length), l) from by rw [hgo, List.drop_length]; rfl)
      have HL := hid (len_c m hm)
      clear hcell2 ha2 hgo hm
      cases hdd : ((Lib.onesCount m : Nat) : Int) == (x.custs.length : Int)
      all_goals
        have HD := hid (show decide (Lib.onesCount m = x.custs.length) = _ from (beq_ofNat _ _).symm.trans hdd)
        go_wp2
        go_quiet ((go_at_call 99; exact Calls.quiet_of_same (HL.out _)))
        go_wp2
        go_ret3
        exact ⟨by rw [HG.out, HD.out]; rfl, by simpa using below_drewN hb _⟩
end Go.Proofs.Ytafhjfkdlmijdaa
