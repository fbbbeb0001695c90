/- For every input wharfagelaw22.HaulFits answers true, and its arguments read as they did. No condition. -/
import Derived.Test.YtafhjfkdlmijdaaHaulFits
import Derived.Test.YtafhjfkdlmijdaaOpen2
import Derived.Test.YtafhjfkdlmijdaaLaw
namespace Go.Proofs.Ytafhjfkdlmijdaa
open Go.RowKit Go.WideShapes Go.ChangeShapes Go.ChangeAt

set_option maxRecDepth 100000 in
theorem haulFits_lifted (os : Os) (started : os.Started) (H : Type) (enc : TypeId × Value → H) :
    ReturnsInHanded {} Try.checked os 8 .any (Rows.haulFitsSpec.pre6 enc Try.prog Try.f8 Rows.haulFitsRow.domain false) (Rows.haulFitsSpec.post enc Try.prog Try.f8 false true false false) := by
  refine returnsInHanded_of_change (C := Try.checked) Try.own started (by kernel_rfl) Try.func8
    (ChangeSpec.witness6 (enc := enc) (C := Try.checked) false ⟨#[], #[.agg #[.int .u8 0, .int .u8 0, .int .u8 0, .int .u8 0, .int .u8 0, .slice none 0 0, .slice none 0 0, .slice none 0 0, .slice none 0 0, .bool false, .bool false],
      .agg #[.slice none 0 0, .slice none 0 0, .slice none 0 0]], []⟩ 16 (by kernel_rfl) (by kernel_rfl) (by kernel_rfl) (by kernel_rfl)) ?_
  intro W base args ds gs before hval0 hW hcnd _
  have hval : ∀ (j : Nat) t v, Try.f8.params[j]? = some t → args[j]? = some v → Value.okWide Try.prog W .any base t v := hval0
  have hW' : DataW.Whole enc Try.prog Try.f8.params.toList Rows.haulFitsSpec.vars false W args.toList ds gs before := hW
  obtain ⟨p, q, hA0, hV, rfl, hfz, hnd⟩ := hW
  have hA : DataW.TrodAll enc Try.prog W 0 (fun _ => true) true Try.f8.params.toList args.toList ds p := hA0
  rw [Try.params8] at hA hval
  obtain ⟨v0, v1, d0, d1, p0, p1, rfl, rfl, rfl, h0, h1⟩ := trodAll_two hA
  obtain ⟨rfl, rfl⟩ := trodVars_none hV
  obtain ⟨cs0, rfl, e0⟩ := arg_struct Try.underlying26 (hval 0 _ _ rfl rfl)
  obtain ⟨cs1, rfl, e1⟩ := arg_struct Try.underlying72 (hval 1 _ _ rfl rfl)
  obtain ⟨n0, f0⟩ := h0
  obtain ⟨n1, f1⟩ := h1
  rw [show (Value.agg cs0.toArray).cells.toList = cs0 from e0] at f0
  rw [show (Value.agg cs1.toArray).cells.toList = cs1 from e1] at f1
  obtain ⟨s, hs⟩ := op_small _ _ _ _ _ _ _ _ _ f0
  obtain ⟨l, hl⟩ := op_wish _ _ _ _ _ _ _ _ _ f1
  refine (haulFits_c hs hl).mono fun e W' ⟨he, hb⟩ => ?_
  subst he
  exact ⟨_, rfl, law_post Try.laid hW' rfl rfl (bt := 4) (by kernel_rfl) Try.underlying4 (by rw [Try.params8]; decide +kernel) hb⟩

theorem haulFits_holds : Rows.HaulFitsSaid :=
  OpenClaim.holds_of_wide 8 Try.f8 rfl rfl rfl rfl rfl rfl rfl ⟨rfl, rfl, rfl, rfl, rfl⟩ rfl rfl rfl rfl rfl (by kernel_rfl) Try.func8 (by kernel_rfl)
    (of_decide_eq_true (by kernel_rfl)) (by unfold Func.isWrapper; first | (rw [if_pos (by decide +kernel)]; kernel_rfl) | (rw [if_neg (by decide +kernel)]; exact ⟨rfl, rfl⟩))
    (fun os started H enc _ => haulFits_lifted os started H enc)
end Go.Proofs.Ytafhjfkdlmijdaa
