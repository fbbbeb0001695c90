/- For every input wharfagelaw19.FeasNone answers true, and its arguments read as they did. No condition. -/
import Derived.Test.YtafhjfkdlmijdaaFeasNone
import Derived.Test.YtafhjfkdlmijdaaOpen3
import Derived.Test.YtafhjfkdlmijdaaLaw
namespace Go.Proofs.Ytafhjfkdlmijdaa
open Go.RowKit Go.WideShapes Go.ChangeShapes Go.ChangeAt

set_option maxRecDepth 100000 in
theorem feasNone_lifted (os : Os) (started : os.Started) (H : Type) (enc : TypeId × Value → H) :
    ReturnsInHanded {} Try.checked os 4 .any (Rows.feasNoneSpec.pre6 enc Try.prog Try.f4 Rows.feasNoneRow.domain false) (Rows.feasNoneSpec.post enc Try.prog Try.f4 false true false false) := by
  refine returnsInHanded_of_change (C := Try.checked) Try.own started (by kernel_rfl) Try.func4
    (ChangeSpec.witness6 (enc := enc) (C := Try.checked) false ⟨#[], #[.agg #[.int .i64 0, .int .i64 0, .int .i64 0, .int .i64 0, .int .i64 0, .slice none 0 0, .slice none 0 0, .slice none 0 0, .slice none 0 0], .agg #[.slice none 0 0, .slice none 0 0, .slice none 0 0, .slice none 0 0, .int .i64 0]], []⟩ 16 (by kernel_rfl) (by kernel_rfl) (by kernel_rfl) (by kernel_rfl)) ?_
  intro W base args ds gs before hval0 hW hcnd _
  have hval : ∀ (j : Nat) t v, Try.f4.params[j]? = some t → args[j]? = some v → Value.okWide Try.prog W .any base t v := hval0
  have hW' : DataW.Whole enc Try.prog Try.f4.params.toList Rows.feasNoneSpec.vars false W args.toList ds gs before := hW
  obtain ⟨p, q, hA0, hV, rfl, hfz, hnd⟩ := hW
  have hA : DataW.TrodAll enc Try.prog W 0 (fun _ => true) true Try.f4.params.toList args.toList ds p := hA0
  rw [Try.params4] at hA hval
  obtain ⟨v0, v1, d0, d1, p0, p1, rfl, rfl, rfl, h0, h1⟩ := trodAll_two hA
  obtain ⟨rfl, rfl⟩ := trodVars_none hV
  obtain ⟨cs0, rfl, e0⟩ := arg_struct Try.underlying33 (hval 0 _ _ rfl rfl)
  obtain ⟨cs1, rfl, e1⟩ := arg_struct Try.underlying56 (hval 1 _ _ rfl rfl)
  obtain ⟨n0, f0⟩ := h0
  obtain ⟨n1, f1⟩ := h1
  rw [show (Value.agg cs0.toArray).cells.toList = cs0 from e0] at f0
  rw [show (Value.agg cs1.toArray).cells.toList = cs1 from e1] at f1
  obtain ⟨x, hx⟩ := op_inst _ _ _ _ _ _ _ _ _ f0
  obtain ⟨y, hy⟩ := op_sheet _ _ _ _ _ _ _ _ _ f1
  refine (feasNone_c hx hy).mono fun e W' ⟨he, hb⟩ => ?_
  subst he
  exact ⟨_, rfl, law_post Try.laid hW' rfl rfl (bt := 4) (by kernel_rfl) Try.underlying4 (by rw [Try.params4]; decide +kernel) hb⟩

theorem feasNone_holds : Rows.FeasNoneSaid :=
  OpenClaim.holds_of_wide 4 Try.f4 rfl rfl rfl rfl rfl rfl rfl ⟨rfl, rfl, rfl, rfl, rfl⟩ rfl rfl rfl rfl rfl (by kernel_rfl) Try.func4 (by kernel_rfl)
    (of_decide_eq_true (by kernel_rfl)) (by unfold Func.isWrapper; first | (rw [if_pos (by decide +kernel)]; kernel_rfl) | (rw [if_neg (by decide +kernel)]; exact ⟨rfl, rfl⟩))
    (fun os started H enc _ => feasNone_lifted os started H enc)
end Go.Proofs.Ytafhjfkdlmijdaa
