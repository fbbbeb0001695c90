/- Contracts: inst.Sat, inst.Customer, plan.Way (of nodes that there are). -/
import Derived.Test.YtafhjfkdlmijdaaCheck
namespace Go.Proofs.Ytafhjfkdlmijdaa
open Go.RowKit

theorem instSat_c {w : World} {F : Nat → Prop} {x : InstD} {cs : List Value} (h : instS.rep w F x cs) {n : Int} (hn : 0 ≤ n ∧ n ≤ 1000000000) :
    Calls Try.prog 57 #[.agg cs.toArray, .int .i64 n] w fun e w' => e = .returned (.int .i64 (1 + n)) ∧ Below w.heap.size w w' := by
  obtain ⟨s, c, co, ti, rfl, -, -, -, -, -⟩ := h
  go_enter Try.func57, Try.ntmps57
  go_wp2
  go_ret
  exact ⟨rfl, (Below.refl _ _).alloc (Nat.le_refl _) _⟩
theorem instCust_c {w : World} {F : Nat → Prop} {x : InstD} {cs : List Value} (h : instS.rep w F x cs) (hl : x.sats.length ≤ 1000000) {n : Int} (hn : 0 ≤ n ∧ n ≤ 1000000000) :
    Calls Try.prog 101 #[.agg cs.toArray, .int .i64 n] w fun e w' => e = .returned (.int .i64 (1 + x.sats.length + n)) ∧ Below w.heap.size w w' := by
  obtain ⟨s, c, co, ti, rfl, -, h1, -, -, -⟩ := h
  obtain ⟨a, b, off, c1, hs, -, -, -, -, -, -⟩ := sats_open h1
  obtain rfl := List.cons.inj hs |>.1
  clear hs h1
  go_enter Try.func101, Try.ntmps101
  go_wp2
  go_ret
  exact ⟨rfl, (Below.refl _ _).alloc (Nat.le_refl _) _⟩

def costAt (x : InstD) (a b : Int) : Int := (x.cost.getD a.toNat []).getD b.toNat 0
/-- What the first so many steps round cost. -/
def wayUp (x : InstD) (l : List Int) (k : Nat) : Int := ((List.range k).map fun i => costAt x (l.getD i 0) (l.getD ((i + 1) % l.length) 0)).sum
def wayD (x : InstD) (l : List Int) : Int := wayUp x l l.length
theorem wayUp_succ (x : InstD) (l : List Int) (k : Nat) : wayUp x l (k + 1) = wayUp x l k + costAt x (l.getD k 0) (l.getD ((k + 1) % l.length) 0) := by
  unfold wayUp; rw [List.range_succ, List.map_append, List.sum_append]; simp
theorem costAt_bd {x : InstD} (g : Good x) (a b : Int) : 0 ≤ costAt x a b ∧ costAt x a b ≤ 1000000000 := by
  unfold costAt
  rw [List.getD_eq_getElem?_getD, List.getD_eq_getElem?_getD]
  by_cases h : a.toNat < x.cost.length
  · rw [List.getElem?_eq_getElem h, Option.getD_some]
    by_cases h2 : b.toNat < (x.cost[a.toNat]).length
    · rw [List.getElem?_eq_getElem h2]; exact g.cost _ (List.getElem_mem h) _ (List.getElem_mem h2)
    · rw [List.getElem?_eq_none (by omega)]; decide
  · rw [show x.cost[a.toNat]? = none from List.getElem?_eq_none (by omega)]; simp
theorem wayUp_bd {x : InstD} (g : Good x) (l : List Int) : ∀ k : Nat, 0 ≤ wayUp x l k ∧ wayUp x l k ≤ 1000000000 * (k : Int)
  | 0 => by unfold wayUp; simp
  | k + 1 => by
    have h1 := wayUp_bd g l k
    have h2 := costAt_bd g (l.getD k 0) (l.getD ((k + 1) % l.length) 0)
    rw [wayUp_succ]; push_cast; omega

set_option maxRecDepth 100000 in
set_option maxHeartbeats 1600000 in
theorem way_c {w : World} {F G : Nat → Prop} {x : InstD} {cs : List Value} {l : List Int} {v : Value} (h : instS.rep w F x cs) (hl : (sliceS intS).rep w G l [v]) (hck : check x = 0) (hin : ∀ a ∈ l, 0 ≤ a ∧ a < nodes x) (hn : l.length ≤ 2000000) :
    Calls Try.prog 93 #[.agg cs.toArray, v] w fun e w' => e = .returned (.int .i64 (wayD x l)) ∧ Below w.heap.size w w' := by
  have hrep := h
  obtain ⟨s, c, co, ti, rfl, -, h1, -, h3, -⟩ := h
  obtain ⟨a, b, off, c1, hs, -, -, -, -, -, -⟩ := sats_open h1
  obtain rfl := List.cons.inj hs |>.1
  obtain ⟨a7, b7, off7, c7, hs7, hl7, hc7, ha7, -, hcell7⟩ := rows_open h3
  obtain rfl := List.cons.inj hs7 |>.1
  obtain ⟨a2, b2, off2, c2, hs2, hl2, hc2, ha2, -, hcell2, -⟩ := ints_open hl
  obtain rfl := List.cons.inj hs2 |>.1
  clear hs hs7 hs2 h1 h3 hl
  have gd := good_of hck
  have hnl := gd.sats
  have hnc := gd.custs
  have hco := gd.costL
  have HCK := hid hck
  have HGD := hid gd
  have HCO := hid hco
  clear hck gd hco
  go_enter Try.func93, Try.ntmps93
  go_wp2
  go_loopw [5, 11] (fun ss i wr => ∃ k : Nat, k ≤ l.length ∧ i = .int .i64 k ∧ ss = .int .i64 (wayUp x l k) ∧ Row wr w.heap.size 33 [.int .i64 x.fin, .int .i64 x.tmany, .int .i64 x.troom, .int .i64 x.bmany, .int .i64 x.broom, .slice a x.sats.length c1, c, .slice a7 x.cost.length c7, ti] ∧
      Below w.heap.size w wr) (fun _ i _ => l.length - (intOf i).toNat)
  case atStart => exact ⟨0, Nat.zero_le _, rfl, rfl, Row.new (cs := [.int .i64 x.fin, .int .i64 x.tmany, .int .i64 x.troom, .int .i64 x.bmany, .int .i64 x.broom, .slice a x.sats.length c1, c, .slice a7 x.cost.length c7, ti]) rfl, (Below.refl _ _).alloc (Nat.le_refl _) _⟩
  case round =>
    obtain ⟨k, hk, rfl, rfl, R, hb⟩ := hrel
    obtain ⟨wo, rfl⟩ : ∃ wo : World, wo = wr := ⟨_, rfl⟩
    have hsb := wayUp_bd HGD.out l k
    have hkk : 1000000000 * (k : Int) ≤ 1000000000 * 2000000 := by omega
    obtain ⟨sm, hsm⟩ : ∃ sm, sm = wayUp x l k := ⟨_, rfl⟩
    rw [← hsm] at hsb ⊢
    have HSM := hid hsm
    clear hsm
    by_cases hlt : k < l.length
    · have hx := idx_at1 (c := c2) Try.underlying49 sz_int (ha2 (by omega)) hlt
      have hml : (k + 1) % l.length < l.length := Nat.mod_lt _ (by omega)
      have hx2 : ∀ w, (Instr.indexAt 49 (.slice a2 l.length c2) (.int .i64 (((k : Int) + 1) % (l.length : Int)))).run Try.prog w = .ok (.pointer (some ⟨b2, off2 + (k + 1) % l.length, none⟩)) w := fun w => by
        have := idx_at1 (c := c2) Try.underlying49 sz_int (ha2 (by omega)) hml w
        simpa using this
      have g0 := below_cell hb (hcell2 k hlt)
      have g1 := below_cell hb (hcell2 _ hml)
      have i0 := hin _ (List.getElem_mem hlt)
      have i1 := hin _ (List.getElem_mem hml)
      obtain ⟨A, hA⟩ : ∃ A, A = l[k] := ⟨_, rfl⟩
      obtain ⟨B, hB⟩ : ∃ B, B = l[(k + 1) % l.length] := ⟨_, rfl⟩
      rw [← hA] at g0 i0
      rw [← hB] at g1 i1
      have HS := hid (show wayUp x l (k + 1) = sm + costAt x A B from by
        rw [wayUp_succ, HSM.out, hA, hB, List.getD_eq_getElem?_getD, List.getD_eq_getElem?_getD, List.getElem?_eq_getElem hlt, List.getElem?_eq_getElem hml]; rfl)
      obtain ⟨an, rfl⟩ : ∃ an : Nat, A = an := ⟨A.toNat, by omega⟩
      obtain ⟨bn, rfl⟩ : ∃ bn : Nat, B = bn := ⟨B.toNat, by omega⟩
      have hab := costAt_bd HGD.out an bn
      have ha3 : an < x.cost.length := by rw [HCO.out]; omega
      obtain ⟨rv, gr, rr⟩ := hcell7 an ha3
      obtain ⟨a8, b8, off8, c8, hs8, hl8, hc8, ha8, -, hcell8, -⟩ := ints_open rr
      obtain rfl := List.cons.inj hs8 |>.1
      have hrl := HGD.out.costR _ (List.getElem_mem ha3)
      have hb3 : bn < (x.cost[an]).length := by rw [hrl]; omega
      clear hrl
      have hxr := idx_at1 (c := c7) Try.underlying31 sz_row (ha7 (by omega)) ha3
      have hxc := idx_at1 (c := c8) Try.underlying34 sz_i64 (ha8 (by omega)) hb3
      have g3 := hcell8 bn hb3
      obtain ⟨cv, hcv⟩ : ∃ cv, cv = x.cost[an][bn] := ⟨_, rfl⟩
      have HCV := hid (show costAt x an bn = cv from by unfold costAt; rw [Int.toNat_natCast, Int.toNat_natCast, List.getD_eq_getElem?_getD, List.getD_eq_getElem?_getD, List.getElem?_eq_getElem ha3, Option.getD_some, List.getElem?_eq_getElem hb3, hcv]; rfl)
      rw [← hcv] at g3
      rw [HCV.out] at hab
      rw [HCV.out] at HS
      clear hA hB hcv hcell2 ha2 hcell7 ha7 hcell8 ha8 hs8 rr hin
      obtain ⟨q0, q1, q2, q3, q4, q5, q6, q7, q8⟩ := row9 R
      go_wp2_with fail
      refine (check_c (instS.below hrep hb)).mono ?_
      rintro e w1 ⟨rfl, hb1⟩
      rw [HCK.out]
      have R1 := R.below hb1
      have hB1 := below_step hb hb1
      clear q0 q1 q2 q3 q4 q5 q6 q7 q8 R
      obtain ⟨q0, q1, q2, q3, q4, q5, q6, q7, q8⟩ := row9 R1
      go_wp2_with fail
      refine (nodes_c (instS.below hrep hB1) (by omega) (by omega)).mono ?_
      rintro e w2 ⟨rfl, hb2⟩
      have R2 := R1.below hb2
      have hB2 := below_step hB1 hb2
      clear q0 q1 q2 q3 q4 q5 q6 q7 q8 R1
      obtain ⟨q0, q1, q2, q3, q4, q5, q6, q7, q8⟩ := row9 R2
      go_wp2_with fail
      refine (nodes_c (instS.below hrep hB2) (by omega) (by omega)).mono ?_
      rintro e w3 ⟨rfl, hb3⟩
      have R3 := R2.below hb3
      have hB3 := below_step hB2 hb3
      have g5 := below_cell hB3 gr
      have g6 := below_cell hB3 g3
      clear q0 q1 q2 q3 q4 q5 q6 q7 q8 R2 gr g3 g0 g1
      obtain ⟨q0, q1, q2, q3, q4, q5, q6, q7, q8⟩ := row9 R3
      go_wp2
      go_roundw
      case rel => exact ⟨k + 1, by omega, by go_num, by rw [HS.out], R3, hB3⟩
      case measure => simp [intOf]; omega
    · have hke : k = l.length := by omega
      subst hke
      clear hcell2 ha2 hcell7 ha7
      go_wp2
      go_ret
      exact ⟨ret_int HSM.out, hb⟩
end Go.Proofs.Ytafhjfkdlmijdaa
