/- For every input wharfagelaw18.ClockLeast answers true, and its arguments read as they did. No condition. -/
import Derived.Test.YtafhjfkdlmijdaaR3
set_option linter.all false
namespace Go.Proofs.Ytafhjfkdlmijdaa
open Go.RowKit Go.WideShapes Go.ChangeShapes Go.ChangeAt
set_option maxRecDepth 100000 in
theorem clockLeast_lifted (os : Os) (started : os.Started) (H : Type) (enc : TypeId × Value → H) :
  ReturnsInHanded {} Try.checked os 11 .any (Rows.clockLeastSpec.pre6 enc Try.prog Try.f11 Rows.clockLeastRow.domain false) (Rows.clockLeastSpec.post enc Try.prog Try.f11 false true false false) := by
 refine returnsInHanded_of_change (C := Try.checked) Try.own started (by kernel_rfl) Try.func11
  (ChangeSpec.witness6 (enc := enc) (C := Try.checked) false ⟨#[], #[.agg #[.int .u8 0, .int .u8 0, .int .u8 0, .int .u8 0, .int .u8 0, .slice none 0 0, .slice none 0 0, .slice none 0 0, .slice none 0 0, .bool false, .bool false],
   .agg #[.slice none 0 0, .slice none 0 0, .slice none 0 0], .agg #[.slice none 0 0, .int .u8 0]], []⟩ 16 (by kernel_rfl) (by kernel_rfl) (by kernel_rfl) (by kernel_rfl)) ?_
 intro W base args ds gs before hval0 hW hcnd _
 have hval : ∀ (j : Nat) t v, Try.f11.params[j]? = some t → args[j]? = some v → Value.okWide Try.prog W .any base t v := hval0
 have hW' : DataW.Whole enc Try.prog Try.f11.params.toList Rows.clockLeastSpec.vars false W args.toList ds gs before := hW
 obtain ⟨p, q, hA0, hV, rfl, hfz, hnd⟩ := hW
 have hA : DataW.TrodAll enc Try.prog W 0 (fun _ => true) true Try.f11.params.toList args.toList ds p := hA0
 rw [Try.params11] at hA hval
 obtain ⟨v0, v1, v2, d0, d1, d2, p0, p1, p2, rfl, rfl, rfl, h0, h1, h2⟩ := trodAll_three hA
 obtain ⟨rfl, rfl⟩ := trodVars_none hV
 obtain ⟨cs0, rfl, e0⟩ := arg_struct Try.underlying26 (hval 0 _ _ rfl rfl)
 obtain ⟨cs1, rfl, e1⟩ := arg_struct Try.underlying72 (hval 1 _ _ rfl rfl)
 obtain ⟨cs2, rfl, e2⟩ := arg_struct Try.underlying94 (hval 2 _ _ rfl rfl)
 obtain ⟨n0, f0⟩ := h0
 obtain ⟨n1, f1⟩ := h1
 obtain ⟨n2, f2⟩ := h2
 rw [show (Value.agg cs0.toArray).cells.toList = cs0 from e0] at f0
 rw [show (Value.agg cs1.toArray).cells.toList = cs1 from e1] at f1
 rw [show (Value.agg cs2.toArray).cells.toList = cs2 from e2] at f2
 obtain ⟨s, hs⟩ := op_small _ _ _ _ _ _ _ _ _ f0
 obtain ⟨wi, hwi⟩ := op_wish _ _ _ _ _ _ _ _ _ f1
 obtain ⟨sl, hsl⟩ := op_slack _ _ _ _ _ _ _ _ _ f2
 refine (Ab.clockLeast_c hs hwi hsl).mono fun e W' ⟨he, hb⟩ => ?_
 subst he
 exact ⟨_, rfl, law_post Try.laid hW' rfl rfl (bt := 4) (by kernel_rfl) Try.underlying4 (by rw [Try.params11]; decide +kernel) hb⟩
theorem clockLeast_holds : Rows.ClockLeastSaid :=
 OpenClaim.holds_of_wide 11 Try.f11 rfl rfl rfl rfl rfl rfl rfl ⟨rfl, rfl, rfl, rfl, rfl⟩ rfl rfl rfl rfl rfl (by kernel_rfl) Try.func11 (by kernel_rfl)
  (of_decide_eq_true (by kernel_rfl)) (by unfold Func.isWrapper; first | (rw [if_pos (by decide +kernel)]; kernel_rfl) | (rw [if_neg (by decide +kernel)]; exact ⟨rfl, rfl⟩))
  (fun os started H enc _ => clockLeast_lifted os started H enc)
end Go.Proofs.Ytafhjfkdlmijdaa
