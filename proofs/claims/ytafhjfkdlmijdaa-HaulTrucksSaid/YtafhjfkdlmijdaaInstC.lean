/- Contract: inst.Instance.numbers. -/
import Derived.Test.YtafhjfkdlmijdaaInstB
import Derived.Deep.DeepCutAuto
namespace Go.Proofs.Ytafhjfkdlmijdaa
open Go.RowKit

def satB (s : SatD) : Bool := mayB s.room 0 && mayB s.hold 0
def custB (c : CustD) : Bool := mayB c.load 1 && mayB c.opn 0 && mayB c.cls c.opn && mayB c.stay 0
def cellB (i k : Nat) (n : Int) : Bool := mayB n 0 && (((i : Int) != (k : Int)) || n == 0)
def rowB (i : Nat) (r : List Int) (m : Nat) : Bool := (List.range m).all fun k => cellB i k (r.getD k 0)
def matB (l : List (List Int)) (m : Nat) : Bool := (List.range m).all fun i => rowB i (l.getD i []) (l.getD i []).length
def headB (x : InstD) : Bool := mayB x.fin 0 && mayB x.troom 0 && mayB x.broom 0
def numbersB (x : InstD) : Bool := headB x && x.sats.all satB && x.custs.all custB && matB x.cost x.cost.length && matB x.time x.time.length

theorem rowB_succ (i : Nat) (r : List Int) (k : Nat) (h : k < r.length) : rowB i r (k + 1) = (rowB i r k && cellB i k r[k]) := by
  unfold rowB; rw [List.range_succ, List.all_append]; simp [List.getD, List.getElem?_eq_getElem h]
theorem matB_succ (l : List (List Int)) (k : Nat) (h : k < l.length) : matB l (k + 1) = (matB l k && rowB k l[k] l[k].length) := by
  unfold matB; rw [List.range_succ, List.all_append]; simp [List.getD, List.getElem?_eq_getElem h]

/-- What the first two loops come to. -/
def okSats (x : InstD) (k : Nat) : Bool := headB x && (x.sats.take k).all satB
def okCusts (x : InstD) (k : Nat) : Bool := okSats x x.sats.length && (x.custs.take k).all custB
theorem okSats_succ (x : InstD) (k : Nat) (h : k < x.sats.length) : okSats x (k + 1) = (okSats x k && satB x.sats[k]) := by
  unfold okSats; rw [all_take_succ _ _ _ h, Bool.and_assoc]
theorem okCusts_succ (x : InstD) (k : Nat) (h : k < x.custs.length) : okCusts x (k + 1) = (okCusts x k && custB x.custs[k]) := by
  unfold okCusts; rw [all_take_succ _ _ _ h, Bool.and_assoc]
def matOf (x : InstD) (k : Nat) : List (List Int) := if k = 0 then x.cost else x.time
def okMats (x : InstD) (k : Nat) : Bool := okCusts x x.custs.length && (List.range k).all fun j => matB (matOf x j) (matOf x j).length
theorem okMats_succ (x : InstD) (k : Nat) : okMats x (k + 1) = (okMats x k && matB (matOf x k) (matOf x k).length) := by
  unfold okMats; rw [List.range_succ, List.all_append, ← Bool.and_assoc]; simp
theorem okMats_two (x : InstD) : okMats x 2 = numbersB x := by
  simp [okMats, okCusts, okSats, numbersB, matOf, List.range_succ, Bool.and_assoc]

theorem chainCell (p q r s : Bool) : p = false ∨ (p = true ∧ q = false) ∨ (p = true ∧ q = true ∧ r = true) ∨ (p = true ∧ q = true ∧ r = false ∧ s = false) ∨ (p = true ∧ q = true ∧ r = false ∧ s = true) := by
  cases p <;> cases q <;> cases r <;> cases s <;> simp
def okRow (x : InstD) (j i : Nat) (l : List (List Int)) : Bool := okMats x j && matB l i
def okCell (x : InstD) (j i k : Nat) (l : List (List Int)) (r : List Int) : Bool := okRow x j i l && rowB i r k
theorem okRow_succ (x : InstD) (j i : Nat) (l : List (List Int)) (h : i < l.length) : okRow x j (i + 1) l = okCell x j i l[i].length l l[i] := by
  unfold okCell okRow; rw [matB_succ _ _ h, Bool.and_assoc]
theorem okCell_succ (x : InstD) (j i k : Nat) (l : List (List Int)) (r : List Int) (h : k < r.length) : okCell x j i (k + 1) l r = (okCell x j i k l r && cellB i k r[k]) := by
  unfold okCell; rw [rowB_succ _ _ _ h, Bool.and_assoc]

set_option maxRecDepth 100000 in
set_option maxHeartbeats 1600000 in
theorem numbers_c {w : World} {F : Nat → Prop} {x : InstD} {cs : List Value} (h : instS.rep w F x cs) :
    Calls Try.prog 54 #[.agg cs.toArray] w fun e w' => e = .returned (.bool (numbersB x)) ∧ Below w.heap.size w w' := by
  obtain ⟨s, c, co, ti, rfl, -, h1, h2, h3, h4⟩ := h
  obtain ⟨a, b, off, c1, hs, hlc, hc, ha, -, hcell, -⟩ := sats_open h1
  obtain ⟨a', b', off', c1', hs', hlc', hc', ha', -, hcell', -⟩ := custs_open h2
  obtain rfl := List.cons.inj hs |>.1
  obtain rfl := List.cons.inj hs' |>.1
  obtain ⟨a3, b3, off3, c3, hs3, hlc3, hc3, ha3, -, hcell3⟩ := rows_open h3
  obtain ⟨a4, b4, off4, c4, hs4, hlc4, hc4, ha4, -, hcell4⟩ := rows_open h4
  obtain rfl := List.cons.inj hs3 |>.1
  obtain rfl := List.cons.inj hs4 |>.1
  clear hs hs' h1 h2 hs3 hs4 h3 h4
  have hst : okSats x 0 = headB x := by simp [okSats]
  have HST := hid hst
  clear hst
  go_enter Try.func54, Try.ntmps54
  go_upto_region 1 with fail
  go_cut [3] (fun s3 wx => s3 = .bool (okSats x 0) ∧ Below w.heap.size w wx ∧ w.heap.size < wx.heap.size ∧ wx.cell? ⟨w.heap.size, 5, none⟩ = some (.slice a x.sats.length c1) ∧
    wx.cell? ⟨w.heap.size, 6, none⟩ = some (.slice a' x.custs.length c1') ∧ wx.cell? ⟨w.heap.size, 7, none⟩ = some (.slice a3 x.cost.length c3) ∧ wx.cell? ⟨w.heap.size, 8, none⟩ = some (.slice a4 x.time.length c4))
  case first =>
    cases e1 : mayB x.fin 0 <;> cases e2 : mayB x.troom 0 <;> cases e3 : mayB x.broom 0
    all_goals
      have HH : Hid (headB x = (mayB x.fin 0 && mayB x.troom 0 && mayB x.broom 0)) := rfl
      go_wp2_with ((with_reducible refine (may_c _ _ _).mono ?_); rintro e w' ⟨rfl, rfl⟩)
      go_meet
      exact ⟨by rw [HST.out, HH.out, e1, e2, e3]; rfl, (Below.refl _ _).alloc (Nat.le_refl _) _, by simp, by simp, by simp, by simp, by simp⟩
  case rest =>
    obtain ⟨rfl, hb0, hz, q3, q4, q5, q6⟩ := hcut
    clear HST
    obtain ⟨w0, rfl⟩ : ∃ w0 : World, w0 = wc := ⟨_, rfl⟩
    go_wp2
    go_loopw [3, 32] (fun ok i wr => ∃ k : Nat, k ≤ x.sats.length ∧ i = .int .i64 k ∧ ok = .bool (okSats x k) ∧ Below w0.heap.size w0 wr) (fun _ i _ => x.sats.length - (intOf i).toNat)
    case atStart => exact ⟨0, Nat.zero_le _, rfl, rfl, Below.refl _ _⟩
    case round =>
      obtain ⟨k, hk, rfl, rfl, hb⟩ := hrel
      by_cases hlt : k < x.sats.length
      · have hx := idx_at (c := c1) Try.underlying29 sz_sat (ha (by omega)) hlt
        have g0 := below_cell (hb0.trans (hb.mono (by omega))) (hcell k hlt).1
        have g1 := below_cell (hb0.trans (hb.mono (by omega))) (hcell k hlt).2
        have HS := hid (okSats_succ x k hlt)
        have HB : Hid (satB x.sats[k] = (mayB x.sats[k].room 0 && mayB x.sats[k].hold 0)) := rfl
        clear hcell hcell' ha ha'
        cases e0 : okSats x k <;> cases e1 : mayB x.sats[k].room 0 <;> cases e2 : mayB x.sats[k].hold 0
        all_goals
          go_wp2_with ((with_reducible refine (may_c _ _ _).mono ?_); rintro e w' ⟨rfl, rfl⟩)
          go_roundw
          case rel => exact ⟨k + 1, by omega, by go_num, by rw [HS.out, HB.out, e0, e1, e2]; rfl, (hb.alloc hb.size _)⟩
          case measure => simp [intOf]; omega
      · have hks : k = x.sats.length := by omega
        subst hks
        clear hcell ha
        have hb1 := hb0.trans (hb.mono (by omega))
        have r4 := below_cell hb q4
        have r5 := below_cell hb q5
        have r6 := below_cell hb q6
        have hz1 : w.heap.size < wr.heap.size := Nat.lt_of_lt_of_le hz hb.size
        clear q3 q4 q5 q6 hz hb0 hb
        go_wp2
        obtain ⟨w1, rfl⟩ : ∃ w1 : World, w1 = wr := ⟨_, rfl⟩
        have HC0 : okSats x x.sats.length = okCusts x 0 := by simp [okCusts]
        rw [HC0]
        clear HC0
        go_loopw [3, 51] (fun ok i wr => ∃ k : Nat, k ≤ x.custs.length ∧ i = .int .i64 k ∧ ok = .bool (okCusts x k) ∧ Below w1.heap.size w1 wr) (fun _ i _ => x.custs.length - (intOf i).toNat)
        case atStart => exact ⟨0, Nat.zero_le _, rfl, rfl, Below.refl _ _⟩
        case round =>
          obtain ⟨k, hk, rfl, rfl, hb⟩ := hrel
          by_cases hlt : k < x.custs.length
          · have hx := idx_at (c := c1') Try.underlying30 sz_cust (ha' (by omega)) hlt
            have g0 := below_cell (hb1.trans (hb.mono (by omega))) (hcell' k hlt).1
            have g1 := below_cell (hb1.trans (hb.mono (by omega))) (hcell' k hlt).2.1
            have g2 := below_cell (hb1.trans (hb.mono (by omega))) (hcell' k hlt).2.2.1
            have g3 := below_cell (hb1.trans (hb.mono (by omega))) (hcell' k hlt).2.2.2
            have HS := hid (okCusts_succ x k hlt)
            have HB : Hid (custB x.custs[k] = (mayB x.custs[k].load 1 && mayB x.custs[k].opn 0 && mayB x.custs[k].cls x.custs[k].opn && mayB x.custs[k].stay 0)) := rfl
            clear hcell' ha' r4 r5 r6
            rcases chain5 (okCusts x k) (mayB x.custs[k].load 1) (mayB x.custs[k].opn 0) (mayB x.custs[k].cls x.custs[k].opn) (mayB x.custs[k].stay 0) with e0 | ⟨e0, e1⟩ | ⟨e0, e1, e2⟩ | ⟨e0, e1, e2, e3⟩ | ⟨e0, e1, e2, e3, e4⟩ | ⟨e0, e1, e2, e3, e4⟩
            all_goals
              go_wp2_with ((with_reducible refine (may_c _ _ _).mono ?_); rintro e w' ⟨rfl, rfl⟩)
              go_roundw
              case rel => exact ⟨k + 1, by omega, by go_num, by rw [HS.out, HB.out]; first | (rw [e0]; rfl) | (rw [e0, e1]; rfl) | (rw [e0, e1, e2]; rfl) | (rw [e0, e1, e2, e3]; rfl) | (rw [e0, e1, e2, e3, e4]; rfl), (hb.alloc hb.size _)⟩
              case measure => simp [intOf]; omega
          · have hks : k = x.custs.length := by omega
            subst hks
            clear hcell' ha' r4
            have hb2 := hb1.trans (hb.mono (by omega))
            have q5 := below_cell hb r5
            have q6 := below_cell hb r6
            have hz2 : w.heap.size < wr.heap.size := Nat.lt_of_lt_of_le hz1 hb.size
            clear r5 r6 hz1 hb1 hb
            go_wp2
            obtain ⟨w2, rfl⟩ : ∃ w2 : World, w2 = wr := ⟨_, rfl⟩
            have HM0 : okCusts x x.custs.length = okMats x 0 := by simp [okMats]
            rw [HM0]
            clear HM0
            go_loop [3, 84] (fun ok i => ∃ j : Nat, j ≤ 2 ∧ i = .int .i64 j ∧ ok = .bool (okMats x j)) (fun _ i => 2 - (intOf i).toNat)
            case atStart => exact ⟨0, by omega, rfl, rfl⟩
            case round =>
              obtain ⟨j, hj, rfl, rfl⟩ := hrel
              by_cases hlt : j < 2
              · have hm : ∃ (l : List (List Int)) (am : Option Addr) (bm offm cm : Nat), l = matOf x j ∧ (∀ w', (Instr.index 164 (.agg #[.slice a3 x.cost.length c3, .slice a4 x.time.length c4]) (.int .i64 (j : Int))).run Try.prog w' = .ok (.slice am l.length cm) w') ∧
                    l.length ≤ cm ∧ cm ≤ 9223372036854775807 ∧ (0 < l.length → am = some ⟨bm, offm, none⟩) ∧ ∀ k (h : k < l.length), ∃ v, w2.cell? ⟨bm, offm + k, none⟩ = some v ∧ (sliceS intS).rep w2 F l[k] [v] := by
                  have hj2 : j = 0 ∨ j = 1 := by omega
                  rcases hj2 with rfl | rfl
                  · exact ⟨x.cost, a3, b3, off3, c3, rfl, fun _ => by kernel_rfl, hlc3, hc3, ha3, fun k h => let ⟨v, h1, h2⟩ := hcell3 k h; ⟨v, below_cell hb2 h1, (sliceS intS).below h2 hb2⟩⟩
                  · exact ⟨x.time, a4, b4, off4, c4, rfl, fun _ => by kernel_rfl, hlc4, hc4, ha4, fun k h => let ⟨v, h1, h2⟩ := hcell4 k h; ⟨v, below_cell hb2 h1, (sliceS intS).below h2 hb2⟩⟩
                obtain ⟨l, am, bm, offm, cm, hl, hix, hlm, hcm, ham, hcm'⟩ := hm
                have HL := hid hl
                clear hl ha3 ha4 hcell3 hcell4
                have HR0 : okMats x j = okRow x j 0 l := by simp [okRow, matB]
                rw [HR0]
                go_wp2
                go_loop [3, 89] (fun ok i => ∃ k : Nat, k ≤ l.length ∧ i = .int .i64 k ∧ ok = .bool (okRow x j k l)) (fun _ i => l.length - (intOf i).toNat)
                case atStart => exact ⟨0, by omega, rfl, rfl⟩
                case round =>
                  obtain ⟨k, hk, rfl, rfl⟩ := hrel
                  by_cases hlt2 : k < l.length
                  · have hx := idx_at1 (c := cm) Try.underlying31 sz_row (ham (by omega)) hlt2
                    obtain ⟨v, hv, hr⟩ := hcm' k hlt2
                    have HS := hid (okRow_succ x j k l hlt2)
                    have HC0 : okRow x j k l = okCell x j k 0 l l[k] := by simp [okCell, rowB]
                    rw [HC0]
                    clear hcm' ham HC0
                    obtain ⟨r, hr'⟩ : ∃ r, r = l[k] := ⟨_, rfl⟩
                    rw [← hr'] at hr
                    rw [← hr']
                    obtain ⟨ar, br, offr, cr, hsr, hlr, hcr, har, -, hcr2, -⟩ := ints_open hr
                    obtain rfl := List.cons.inj hsr |>.1
                    have HR := hid hr'
                    clear hsr hr hr'
                    go_wp2
                    go_loop [3, 96] (fun ok i => ∃ m : Nat, m ≤ r.length ∧ i = .int .i64 m ∧ ok = .bool (okCell x j k m l r)) (fun _ i => r.length - (intOf i).toNat)
                    case atStart => exact ⟨0, by omega, rfl, rfl⟩
                    case round =>
                      obtain ⟨m, hm, rfl, rfl⟩ := hrel
                      by_cases hlt3 : m < r.length
                      · have hx3 := idx_at1 (c := cr) Try.underlying34 sz_i64 (har (by omega)) hlt3
                        have g := hcr2 m hlt3
                        have HS3 := hid (okCell_succ x j k m l r hlt3)
                        have HB3 : Hid (cellB k m r[m] = (mayB r[m] 0 && (((k : Int) != (m : Int)) || r[m] == 0))) := rfl
                        clear hcr2 har
                        rcases chainCell (okCell x j k m l r) (mayB r[m] 0) ((k : Int) != (m : Int)) (r[m] == 0) with e0 | ⟨e0, e1⟩ | ⟨e0, e1, e2⟩ | ⟨e0, e1, e2, e3⟩ | ⟨e0, e1, e2, e3⟩
                        all_goals
                          go_wp2_with ((with_reducible refine (may_c _ _ _).mono ?_); rintro e w' ⟨rfl, rfl⟩)
                          go_round
                          case rel => exact ⟨m + 1, by omega, by go_num, by rw [HS3.out, HB3.out]; first | (rw [e0]; rfl) | (rw [e0, e1]; rfl) | (rw [e0, e1, e2]; rfl) | (rw [e0, e1, e2, e3]; rfl)⟩
                          case measure => simp [intOf]; omega
                      · have hmr : m = r.length := by omega
                        subst hmr
                        clear hcr2 har
                        go_wp2
                        go_round
                        case rel => exact ⟨k + 1, by omega, by go_num, by rw [HS.out, ← HR.out]⟩
                        case measure => simp [intOf]; omega
                  · have hkl : k = l.length := by omega
                    subst hkl
                    have HN : Hid (okMats x (j + 1) = okRow x j l.length l) := by rw [okMats_succ]; unfold okRow; rw [HL.out]; rfl
                    clear hcm' ham
                    go_wp2
                    go_round
                    case rel => exact ⟨j + 1, by omega, by go_num, by rw [HN.out]⟩
                    case measure => simp [intOf]; omega
              · have hj2 : j = 2 := by omega
                subst hj2
                have HE := hid (okMats_two x)
                go_wp2
                go_ret
                exact ⟨ret_bool HE.out, hb2⟩
end Go.Proofs.Ytafhjfkdlmijdaa
