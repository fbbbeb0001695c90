/- What further inputs read as: plans, times, sheets. -/
import Derived.Test.YtafhjfkdlmijdaaOpen
import Derived.Test.YtafhjfkdlmijdaaGm
namespace Go.Proofs.Ytafhjfkdlmijdaa
open Go.RowKit

theorem op_stop : Opens Try.prog 105 stopS := by
  intro H enc w base spare held fuel cs x h
  have hl : cs.length = 2 := (trod_len Try.underlying105 h).trans (by kernel_rfl)
  match cs, hl with
  | [v0, v1], _ =>
    obtain ⟨n0, y0, f0⟩ := trod_at Try.underlying105 h 0 3 0 1 rfl co_int
    obtain ⟨n1, y1, f1⟩ := trod_at Try.underlying105 h 1 2 1 1 rfl co_i64
    obtain ⟨a0, e0, w0⟩ := op_int _ _ _ _ _ _ _ _ _ f0
    obtain ⟨a1, e1, w1⟩ := op_i64 _ _ _ _ _ _ _ _ _ f1
    simp at e0 e1
    subst e0; subst e1
    exact ⟨⟨a0, a1⟩, rfl, w0, w1⟩
theorem op_stops : Opens Try.prog 106 (sliceS stopS) := opens_slice (S := stopS) Try.underlying106 (by kernel_rfl) op_stop
theorem op_truck : Opens Try.prog 108 (sliceS stopS) := by
  intro H enc w base spare held fuel cs x h
  have hl : cs.length = 1 := (trod_len Try.underlying108 h).trans (by kernel_rfl)
  match cs, hl with
  | [v0], _ =>
    obtain ⟨_, _, f0⟩ := trod_at Try.underlying108 h 0 106 0 1 rfl (by kernel_rfl)
    exact op_stops _ _ _ _ _ _ _ _ _ f0
theorem op_trucks : Opens Try.prog 39 trucksS := opens_slice (S := sliceS stopS) Try.underlying39 (by kernel_rfl) op_truck
theorem op_bike : Opens Try.prog 128 bikeS := by
  intro H enc w base spare held fuel cs x h
  have hl : cs.length = 2 := (trod_len Try.underlying128 h).trans (by kernel_rfl)
  match cs, hl with
  | [v0, v1], _ =>
    obtain ⟨n0, y0, f0⟩ := trod_at Try.underlying128 h 0 3 0 1 rfl co_int
    obtain ⟨n1, y1, f1⟩ := trod_at Try.underlying128 h 1 49 1 1 rfl (by kernel_rfl)
    obtain ⟨a0, e0, w0⟩ := op_int _ _ _ _ _ _ _ _ _ f0
    obtain ⟨a1, r1⟩ := op_ints _ _ _ _ _ _ _ _ _ f1
    simp at e0
    subst e0
    exact ⟨⟨a0, a1⟩, v1, rfl, w0, r1⟩
theorem op_bikes : Opens Try.prog 44 bikesS := opens_slice (S := bikeS) Try.underlying44 (by kernel_rfl) op_bike
theorem op_plan : Opens Try.prog 46 planS := by
  intro H enc w base spare held fuel cs x h
  have hl : cs.length = 2 := (trod_len Try.underlying46 h).trans (by kernel_rfl)
  match cs, hl with
  | [v0, v1], _ =>
    obtain ⟨_, _, f0⟩ := trod_at Try.underlying46 h 0 39 0 1 rfl (by kernel_rfl)
    obtain ⟨_, _, f1⟩ := trod_at Try.underlying46 h 1 44 1 1 rfl (by kernel_rfl)
    obtain ⟨a0, r0⟩ := op_trucks _ _ _ _ _ _ _ _ _ f0
    obtain ⟨a1, r1⟩ := op_bikes _ _ _ _ _ _ _ _ _ f1
    exact ⟨⟨a0, a1⟩, v0, v1, rfl, r0, r1⟩
theorem op_ride : Opens Try.prog 85 rideS := by
  intro H enc w base spare held fuel cs x h
  have hl : cs.length = 3 := (trod_len Try.underlying85 h).trans (by kernel_rfl)
  match cs, hl with
  | [v0, v1, v2], _ =>
    obtain ⟨n0, y0, f0⟩ := trod_at Try.underlying85 h 0 2 0 1 rfl co_i64
    obtain ⟨n1, y1, f1⟩ := trod_at Try.underlying85 h 1 34 1 1 rfl (by kernel_rfl)
    obtain ⟨n2, y2, f2⟩ := trod_at Try.underlying85 h 2 2 2 1 rfl co_i64
    obtain ⟨a0, e0, w0⟩ := op_i64 _ _ _ _ _ _ _ _ _ f0
    obtain ⟨a1, r1⟩ := op_ints64 _ _ _ _ _ _ _ _ _ f1
    obtain ⟨a2, e2, w2⟩ := op_i64 _ _ _ _ _ _ _ _ _ f2
    simp at e0 e2
    subst e0; subst e2
    exact ⟨⟨a0, a1, a2⟩, v1, rfl, w0, w2, r1⟩
theorem op_rides : Opens Try.prog 52 ridesS := opens_slice (S := rideS) Try.underlying52 (by kernel_rfl) op_ride
theorem op_times : Opens Try.prog 54 timesS := by
  intro H enc w base spare held fuel cs x h
  have hl : cs.length = 2 := (trod_len Try.underlying54 h).trans (by kernel_rfl)
  match cs, hl with
  | [v0, v1], _ =>
    obtain ⟨_, _, f0⟩ := trod_at Try.underlying54 h 0 31 0 1 rfl (by kernel_rfl)
    obtain ⟨_, _, f1⟩ := trod_at Try.underlying54 h 1 52 1 1 rfl (by kernel_rfl)
    obtain ⟨a0, r0⟩ := op_rows _ _ _ _ _ _ _ _ _ f0
    obtain ⟨a1, r1⟩ := op_rides _ _ _ _ _ _ _ _ _ f1
    exact ⟨⟨a0, a1⟩, v0, v1, rfl, r0, r1⟩
theorem op_sheet : Opens Try.prog 56 sheetS := by
  intro H enc w base spare held fuel cs x h
  have hl : cs.length = 5 := (trod_len Try.underlying56 h).trans (by kernel_rfl)
  match cs, hl with
  | [v0, v1, v2, v3, v4], _ =>
    obtain ⟨_, _, f0⟩ := trod_at Try.underlying56 h 0 46 0 2 rfl (by kernel_rfl)
    obtain ⟨_, _, f1⟩ := trod_at Try.underlying56 h 1 54 2 2 rfl (by kernel_rfl)
    obtain ⟨_, _, f2⟩ := trod_at Try.underlying56 h 2 2 4 1 rfl co_i64
    obtain ⟨a0, r0⟩ := op_plan _ _ _ _ _ _ _ _ _ f0
    obtain ⟨a1, r1⟩ := op_times _ _ _ _ _ _ _ _ _ f1
    obtain ⟨a2, e2, w2⟩ := op_i64 _ _ _ _ _ _ _ _ _ f2
    simp at e2
    subst e2
    exact ⟨⟨a0, a1, a2⟩, v0, v1, v2, v3, rfl, w2, r0, r1⟩
end Go.Proofs.Ytafhjfkdlmijdaa
