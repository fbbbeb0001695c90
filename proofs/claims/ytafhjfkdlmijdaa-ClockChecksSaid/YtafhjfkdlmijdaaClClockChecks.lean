/- For every input wharfagelaw18.ClockChecks answers true, and its arguments read as they did. No condition. -/
import Derived.Test.YtafhjfkdlmijdaaR3
set_option linter.all false
set_option maxRecDepth 100000
set_option maxHeartbeats 6400000
namespace Go.Proofs.Ytafhjfkdlmijdaa
open Go.RowKit Go.WideShapes Go.ChangeShapes Go.ChangeAt
theorem clockChecks_lifted (os : Os) (started : os.Started) (H : Type) (enc : TypeId × Value → H) :
  ReturnsInHanded {} Try.checked os 14 .any (Rows.clockChecksSpec.pre6 enc Try.prog Try.f14 Rows.clockChecksRow.domain false) (Rows.clockChecksSpec.post enc Try.prog Try.f14 false true false false) := by
 refine returnsInHanded_of_change (C := Try.checked) Try.own started (by kernel_rfl) Try.func14
  (ChangeSpec.witness6 (enc := enc) (C := Try.checked) false ⟨#[], #[.agg #[.int .u8 0, .int .u8 0, .int .u8 0, .int .u8 0, .int .u8 0, .slice none 0 0, .slice none 0 0, .slice none 0 0, .slice none 0 0, .bool false, .bool false],
   .agg #[.slice none 0 0, .slice none 0 0, .slice none 0 0], .int .u8 0, .int .u8 0, .int .i8 0, .agg #[.slice none 0 0, .int .u8 0]], []⟩ 16 (by kernel_rfl) (by kernel_rfl) (by kernel_rfl) (by kernel_rfl)) ?_
 intro W base args ds gs before hval0 hW hcnd _
 have hval : ∀ (j : Nat) t v, Try.f14.params[j]? = some t → args[j]? = some v → Value.okWide Try.prog W .any base t v := hval0
 have hW' : DataW.Whole enc Try.prog Try.f14.params.toList Rows.clockChecksSpec.vars false W args.toList ds gs before := hW
 obtain ⟨p, q, hA0, hV, rfl, hfz, hnd⟩ := hW
 have hA : DataW.TrodAll enc Try.prog W 0 (fun _ => true) true Try.f14.params.toList args.toList ds p := hA0
 rw [Try.params14] at hA hval
 obtain ⟨v0, v1, v2, v3, v4, v5, d0, d1, d2, d3, d4, d5, p0, p1, p2, p3, p4, p5, rfl, rfl, rfl, h0, h1, h2, h3, h4, h5⟩ := peb7 hA
 obtain ⟨rfl, rfl⟩ := trodVars_none hV
 obtain ⟨cs0, rfl, e0⟩ := mq7 Try.underlying26 (hval 0 _ _ rfl rfl)
 obtain ⟨cs1, rfl, e1⟩ := mq7 Try.underlying72 (hval 1 _ _ rfl rfl)
 have e2 := meb7 Try.underlying5 (hval 2 _ _ rfl rfl)
 have e3 := meb7 Try.underlying5 (hval 3 _ _ rfl rfl)
 have e4 := meb7 Try.underlying77 (hval 4 _ _ rfl rfl)
 obtain ⟨cs5, rfl, e5⟩ := mq7 Try.underlying94 (hval 5 _ _ rfl rfl)
 obtain ⟨n0, f0⟩ := h0
 obtain ⟨n1, f1⟩ := h1
 obtain ⟨n2, f2⟩ := h2
 obtain ⟨n3, f3⟩ := h3
 obtain ⟨n4, f4⟩ := h4
 obtain ⟨n5, f5⟩ := h5
 rw [show (Value.agg cs0.toArray).cells.toList = cs0 from e0] at f0
 rw [show (Value.agg cs1.toArray).cells.toList = cs1 from e1] at f1
 rw [show v2.cells.toList = [v2] from e2] at f2
 rw [show v3.cells.toList = [v3] from e3] at f3
 rw [show v4.cells.toList = [v4] from e4] at f4
 rw [show (Value.agg cs5.toArray).cells.toList = cs5 from e5] at f5
 obtain ⟨s, hs⟩ := hpb7 _ _ _ _ _ _ _ _ _ f0
 obtain ⟨wi, hwi⟩ := qsb7 _ _ _ _ _ _ _ _ _ f1
 obtain ⟨a2, g2, k2⟩ := eo7 _ _ _ _ _ _ _ _ _ f2
 obtain ⟨a3, g3, k3⟩ := eo7 _ _ _ _ _ _ _ _ _ f3
 obtain ⟨a4, g4, k4⟩ := vyb7 _ _ _ _ _ _ _ _ _ f4
 obtain ⟨sl, hsl⟩ := opb7 _ _ _ _ _ _ _ _ _ f5
 obtain rfl := (List.cons.inj g2).1
 obtain rfl := (List.cons.inj g3).1
 obtain rfl := (List.cons.inj g4).1
 obtain ⟨m2, rfl⟩ := Int.eq_ofNat_of_zero_le k2.1
 obtain ⟨m3, rfl⟩ := Int.eq_ofNat_of_zero_le k3.1
 refine (Ab.clockChecks_c (what := m2) (at_ := m3) (by_ := a4) hs hwi (by have := k2.2; omega) (by have := k3.2; omega) k4 hsl).mono fun e W' ⟨he, hb⟩ => ?_
 subst he
 exact ⟨_, rfl, wob7 Try.laid hW' rfl rfl (bt := 4) (by kernel_rfl) Try.underlying4 (by rw [Try.params14]; decide +kernel) hb⟩
theorem clockChecks_holds : Rows.ClockChecksSaid :=
 OpenClaim.holds_of_wide 14 Try.f14 rfl rfl rfl rfl rfl rfl rfl ⟨rfl, rfl, rfl, rfl, rfl⟩ rfl rfl rfl rfl rfl (by kernel_rfl) Try.func14 (by kernel_rfl)
  (of_decide_eq_true (by kernel_rfl)) (by unfold Func.isWrapper; first | (rw [if_pos (by decide +kernel)]; kernel_rfl) | (rw [if_neg (by decide +kernel)]; exact ⟨rfl, rfl⟩))
  (fun os started H enc _ => clockChecks_lifted os started H enc)
end Go.Proofs.Ytafhjfkdlmijdaa
