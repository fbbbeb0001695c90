/- Contract: wharfagelaw11.One: the plain instance. -/
import Derived.Test.YtafhjfkdlmijdaaMake
import Derived.Test.YtafhjfkdlmijdaaInstOwn
namespace Go.Proofs.Ytafhjfkdlmijdaa
open Go.RowKit

def smallZ : SmallD := ⟨0, 0, 0, 0, 0, [], [], [], [], false, false⟩
theorem smallZ_rep (w : World) : smallS.rep w (fun _ => False) smallZ [.int .u8 0, .int .u8 0, .int .u8 0, .int .u8 0, .int .u8 0, .slice none 0 0, .slice none 0 0, .slice none 0 0, .slice none 0 0, .bool false, .bool false] := by
  have h0 : ∀ {α : Type} (S : Shape α), sliceRep S w (fun _ => False) [] [.slice none 0 0] := fun S => ⟨none, 0, 0, 0, rfl, Nat.le_refl _, Nat.zero_le _, fun h => absurd h (Nat.not_lt_zero _), fun i h => absurd h (Nat.not_lt_zero _)⟩
  exact ⟨_, _, _, _, rfl, by unfold wf8 smallZ; decide, h0 _, h0 _, h0 _, h0 _⟩

theorem one_c (w : World) : Calls Try.prog 61 #[] w fun e w' => ∃ ds, e = .returned (.agg ds.toArray) ∧ InstOwn 38 112 34 2 w' w.heap.size (makeD smallZ) ds ∧ Below w.heap.size w w' := by
  have hz := smallZ_rep
  go_enter Try.func61, Try.ntmps61
  go_wp2_with (go_at_call 16; refine (make_c (hz _)).mono ?_; rintro e w1 ⟨ds, rfl, hi, hb⟩; obtain ⟨gs, cs1, gc, cc1, gco, cco, gti, cti, rfl⟩ := hi.lit; have R := (Row.new (w := w) (e := 33) (cs := [.int .i64 0, .int .i64 0, .int .i64 0, .int .i64 0, .int .i64 0, .slice none 0 0, .slice none 0 0, .slice none 0 0, .slice none 0 0]) rfl).below hb; obtain ⟨r0, r1, r2, r3, r4, r5, r6, r7, r8⟩ := row9 R; obtain ⟨f0, f1, f2, f3, f4, f5, f6, f7, f8⟩ := frozen9 R)
  refine bodyPost_ret (v := .agg #[.int .i64 (makeD smallZ).fin, .int .i64 (makeD smallZ).tmany, .int .i64 (makeD smallZ).troom, .int .i64 (makeD smallZ).bmany, .int .i64 (makeD smallZ).broom, .slice (some ⟨gs, 0, none⟩) (makeD smallZ).sats.length cs1, .slice (some ⟨gc, 0, none⟩) (makeD smallZ).custs.length cc1, .slice (some ⟨gco, 0, none⟩) (makeD smallZ).cost.length cco, .slice (some ⟨gti, 0, none⟩) (makeD smallZ).time.length cti]) (by simp [results, Try.results61, go_sem, r0, r1, r2, r3, r4, r5, r6, r7, r8]) rfl ⟨_, rfl, ?_, ?_⟩
  · refine InstOwn.keepOn (w := w1) (TX := 33) ?_ (fun b e cs hR he => ?_) (by decide) (by decide) (by decide) (by decide)
    · exact hi.mono (by simp)
    · have n1 : b ≠ w.heap.size := hR.ne R he
      iterate 9 (rw [Below.heap_setCell _ _ _ _ (by exact n1)])
  · iterate 9 (refine Below.setCell ?_ (by exact Nat.le_refl _) _)
    exact ((Below.refl _ _).alloc (Nat.le_refl _) _).trans (hb.mono (by simp))
end Go.Proofs.Ytafhjfkdlmijdaa
