/- Contract: inst.Instance.Check. -/
import Derived.Test.YtafhjfkdlmijdaaInstC
import Derived.Test.YtafhjfkdlmijdaaRegion
namespace Go.Proofs.Ytafhjfkdlmijdaa
open Go.RowKit

def countB (x : InstD) : Bool := manyB x.tmany 60 && manyB x.bmany 60 && manyB x.sats.length 12 && manyB x.custs.length 48
def sizeB (x : InstD) : Bool := squareB x.cost (nodes x) && squareB x.time (nodes x)
/-- inst.Instance.Check -/
def check (x : InstD) : Int := if countB x then (if sizeB x then (if numbersB x then 0 else 2) else 4) else 9

set_option maxRecDepth 100000 in
set_option maxHeartbeats 1600000 in
theorem check_c {w : World} {F : Nat → Prop} {x : InstD} {cs : List Value} (h : instS.rep w F x cs) :
    Calls Try.prog 18 #[.agg cs.toArray] w fun e w' => e = .returned (.int .i64 (check x)) ∧ Below w.heap.size w w' := by
  have hrep := h
  obtain ⟨s, c, co, ti, rfl, -, h1, h2, h3, h4⟩ := h
  obtain ⟨a, b, off, c1, hs, hlc, hc, -, -, -, -⟩ := sats_open h1
  obtain ⟨a', b', off', c1', hs', hlc', hc', -, -, -, -⟩ := custs_open h2
  obtain rfl := List.cons.inj hs |>.1
  obtain rfl := List.cons.inj hs' |>.1
  obtain ⟨a3, b3, off3, c3, hs3, hlc3, hc3, -, -, -⟩ := rows_open h3
  obtain ⟨a4, b4, off4, c4, hs4, hlc4, hc4, -, -, -⟩ := rows_open h4
  obtain rfl := List.cons.inj hs3 |>.1
  obtain rfl := List.cons.inj hs4 |>.1
  clear hs hs' h1 h2 hs3 hs4
  go_enter Try.func18, Try.ntmps18
  go_upto_region 2 with fail
  go_cut [4] (fun s4 wx => s4 = .bool (!countB x) ∧ Below w.heap.size w wx ∧ w.heap.size < wx.heap.size ∧
    wx.cell? ⟨w.heap.size, 0, none⟩ = some (.int .i64 x.fin) ∧ wx.cell? ⟨w.heap.size, 1, none⟩ = some (.int .i64 x.tmany) ∧ wx.cell? ⟨w.heap.size, 2, none⟩ = some (.int .i64 x.troom) ∧
    wx.cell? ⟨w.heap.size, 3, none⟩ = some (.int .i64 x.bmany) ∧ wx.cell? ⟨w.heap.size, 4, none⟩ = some (.int .i64 x.broom) ∧
    wx.cell? ⟨w.heap.size, 5, none⟩ = some (.slice a x.sats.length c1) ∧ wx.cell? ⟨w.heap.size, 6, none⟩ = some (.slice a' x.custs.length c1') ∧
    wx.cell? ⟨w.heap.size, 7, none⟩ = some (.slice a3 x.cost.length c3) ∧ wx.cell? ⟨w.heap.size, 8, none⟩ = some (.slice a4 x.time.length c4))
  case first =>
    have HH : Hid (countB x = (manyB x.tmany 60 && manyB x.bmany 60 && manyB x.sats.length 12 && manyB x.custs.length 48)) := rfl
    rcases chain4 (manyB x.tmany 60) (manyB x.bmany 60) (manyB x.sats.length 12) (manyB x.custs.length 48) with e0 | ⟨e0, e1⟩ | ⟨e0, e1, e2⟩ | ⟨e0, e1, e2, e3⟩ | ⟨e0, e1, e2, e3⟩
    all_goals
      go_wp2_with ((with_reducible refine (many_c _ _ _).mono ?_); rintro e w' ⟨rfl, rfl⟩)
      go_meet
      exact ⟨by rw [HH.out]; first | (rw [e0]; rfl) | (rw [e0, e1]; rfl) | (rw [e0, e1, e2]; rfl) | (rw [e0, e1, e2, e3]; rfl), (Below.refl _ _).alloc (Nat.le_refl _) _, by simp, by simp, by simp, by simp, by simp, by simp, by simp, by simp, by simp, by simp⟩
  case rest =>
    obtain ⟨rfl, hb0, hz, q0, q1, q2, q3, q4, q5, q6, q7, q8⟩ := hcut
    cases ec : countB x
    · have HE := hid (show check x = 9 by unfold check; simp [ec])
      go_wp2
      go_ret
      exact ⟨ret_int HE.out.symm, hb0⟩
    · have hl1 : x.sats.length ≤ 1000000 ∧ x.custs.length ≤ 1000000 := by
        simp [countB, manyB] at ec; omega
      go_upto_region 4 with fail
      have hrc := instS.below hrep hb0
      have hrc3 := rowsS.below h3 hb0
      have hrc4 := rowsS.below h4 hb0
      have q : ∀ e : Ext wc, e.val.cell? ⟨w.heap.size, 0, none⟩ = some (.int .i64 x.fin) ∧ e.val.cell? ⟨w.heap.size, 1, none⟩ = some (.int .i64 x.tmany) ∧ e.val.cell? ⟨w.heap.size, 2, none⟩ = some (.int .i64 x.troom) ∧
          e.val.cell? ⟨w.heap.size, 3, none⟩ = some (.int .i64 x.bmany) ∧ e.val.cell? ⟨w.heap.size, 4, none⟩ = some (.int .i64 x.broom) ∧ e.val.cell? ⟨w.heap.size, 5, none⟩ = some (.slice a x.sats.length c1) ∧
          e.val.cell? ⟨w.heap.size, 6, none⟩ = some (.slice a' x.custs.length c1') ∧ e.val.cell? ⟨w.heap.size, 7, none⟩ = some (.slice a3 x.cost.length c3) ∧ e.val.cell? ⟨w.heap.size, 8, none⟩ = some (.slice a4 x.time.length c4) :=
        fun e => ⟨e.cell q0, e.cell q1, e.cell q2, e.cell q3, e.cell q4, e.cell q5, e.cell q6, e.cell q7, e.cell q8⟩
      obtain ⟨p0, p1, p2, p3, p4, p5, p6, p7, p8⟩ : (∀ e : Ext wc, _) ∧ (∀ e : Ext wc, _) ∧ (∀ e : Ext wc, _) ∧ (∀ e : Ext wc, _) ∧ (∀ e : Ext wc, _) ∧ (∀ e : Ext wc, _) ∧ (∀ e : Ext wc, _) ∧ (∀ e : Ext wc, _) ∧ (∀ e : Ext wc, _) :=
        ⟨fun e => (q e).1, fun e => (q e).2.1, fun e => (q e).2.2.1, fun e => (q e).2.2.2.1, fun e => (q e).2.2.2.2.1, fun e => (q e).2.2.2.2.2.1, fun e => (q e).2.2.2.2.2.2.1, fun e => (q e).2.2.2.2.2.2.2.1, fun e => (q e).2.2.2.2.2.2.2.2⟩
      clear q
      go_cut [35] (fun s35 wx => s35 = .bool (!sizeB x) ∧ Below wc.heap.size wc wx)
      case first =>
        have HH := hid (show sizeB x = (squareB x.cost (nodes x) && squareB x.time (nodes x)) from rfl)
        rcases chain2 (squareB x.cost (nodes x)) (squareB x.time (nodes x)) with e0 | ⟨e0, e1⟩ | ⟨e0, e1⟩
        all_goals
          refine wp_region_ext (by kernel_rfl) (by kernel_rfl) ?_
          repeat (go_big_quiet_step (first | (go_at_call 53; exact Calls.ext (nodes_c (instS.below hrc (Ext.ok _)) hl1.1 hl1.2)) | (go_at_call 52; (with_reducible exact Calls.ext (square_b (rowsS.below hrc3 (Ext.ok _)) e0))) | (go_at_call 52; (with_reducible exact Calls.ext (square_b (rowsS.below hrc4 (Ext.ok _)) e1)))))
          refine wpQuiet_nil ?_
          rintro _ ⟨ex, rfl⟩
          go_wp2_with fail
          go_meet
          exact ⟨by rw [HH.out]; first | (rw [e0]; rfl) | (rw [e0, e1]; rfl), ex.ok⟩
      case rest =>
        clear p0 p1 p2 p3 p4 p5 p6 p7 p8
        obtain ⟨rfl, hb1⟩ := hcut
        cases es : sizeB x
        · have HE := hid (show check x = 4 by unfold check; simp [ec, es])
          go_wp2
          go_ret
          exact ⟨ret_int HE.out.symm, hb0.trans (hb1.mono hb0.size)⟩
        · have g0 := below_cell hb1 q0
          have g1 := below_cell hb1 q1
          have g2 := below_cell hb1 q2
          have g3 := below_cell hb1 q3
          have g4 := below_cell hb1 q4
          have g5 := below_cell hb1 q5
          have g6 := below_cell hb1 q6
          have g7 := below_cell hb1 q7
          have g8 := below_cell hb1 q8
          have hb2 := hb0.trans (hb1.mono hb0.size)
          have hr2 := instS.below hrep hb2
          clear q0 q1 q2 q3 q4 q5 q6 q7 q8 hb0 hb1 hrc hrc3 hrc4 h3 h4 hrep
          cases en : numbersB x
          · have HE := hid (show check x = 2 by unfold check; simp [ec, es, en])
            have HN := hid en
            clear en
            go_wp2_with ((with_reducible refine (numbers_c hr2).mono ?_); rintro e w' ⟨rfl, hb3⟩; rw [HN.out])
            go_ret
            exact ⟨ret_int HE.out.symm, hb2.trans (hb3.mono hb2.size)⟩
          · have HE := hid (show check x = 0 by unfold check; simp [ec, es, en])
            have HN := hid en
            clear en
            go_wp2_with ((with_reducible refine (numbers_c hr2).mono ?_); rintro e w' ⟨rfl, hb3⟩; rw [HN.out])
            go_ret
            exact ⟨ret_int HE.out.symm, hb2.trans (hb3.mono hb2.size)⟩
end Go.Proofs.Ytafhjfkdlmijdaa
