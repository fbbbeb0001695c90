/- For every input wharfagelaw22.HaulTrucks answers true, and its arguments read as they did. No condition. -/
import Derived.Test.YtafhjfkdlmijdaaHaulTrucks
import Derived.Test.YtafhjfkdlmijdaaLaw
namespace Go.Proofs.Ytafhjfkdlmijdaa
open Go.RowKit Go.WideShapes Go.ChangeShapes Go.ChangeAt

set_option maxRecDepth 100000 in
theorem haulTrucks_lifted (os : Os) (started : os.Started) (H : Type) (enc : TypeId × Value → H) :
    ReturnsInHanded {} Try.checked os 7 .any (Rows.haulTrucksSpec.pre6 enc Try.prog Try.f7 Rows.haulTrucksRow.domain false) (Rows.haulTrucksSpec.post enc Try.prog Try.f7 false true false false) := by
  refine returnsInHanded_of_change (C := Try.checked) Try.own started (by kernel_rfl) Try.func7
    (ChangeSpec.witness6 (enc := enc) (C := Try.checked) false ⟨#[], #[.agg #[.int .u8 0, .int .u8 0, .int .u8 0, .int .u8 0, .int .u8 0, .slice none 0 0, .slice none 0 0, .slice none 0 0, .slice none 0 0, .bool false, .bool false],
      .slice none 0 0], []⟩ 16 (by kernel_rfl) (by kernel_rfl) (by kernel_rfl) (by kernel_rfl)) ?_
  intro W base args ds gs before hval0 hW hcnd _
  have hval : ∀ (j : Nat) t v, Try.f7.params[j]? = some t → args[j]? = some v → Value.okWide Try.prog W .any base t v := hval0
  have hW' : DataW.Whole enc Try.prog Try.f7.params.toList Rows.haulTrucksSpec.vars false W args.toList ds gs before := hW
  obtain ⟨p, q, hA0, hV, rfl, hfz, hnd⟩ := hW
  have hA : DataW.TrodAll enc Try.prog W 0 (fun _ => true) true Try.f7.params.toList args.toList ds p := hA0
  rw [Try.params7] at hA hval
  obtain ⟨v0, v1, d0, d1, p0, p1, rfl, rfl, rfl, h0, h1⟩ := trodAll_two hA
  obtain ⟨rfl, rfl⟩ := trodVars_none hV
  obtain ⟨cs0, rfl, e0⟩ := arg_struct Try.underlying26 (hval 0 _ _ rfl rfl)
  have e1 := arg_slice Try.underlying24 (hval 1 _ _ rfl rfl)
  obtain ⟨n0, f0⟩ := h0
  obtain ⟨n1, f1⟩ := h1
  rw [show (Value.agg cs0.toArray).cells.toList = cs0 from e0] at f0
  rw [show v1.cells.toList = [v1] from e1] at f1
  obtain ⟨s, hs⟩ := op_small _ _ _ _ _ _ _ _ _ f0
  obtain ⟨l, hl⟩ := op_bytes _ _ _ _ _ _ _ _ _ f1
  refine (haulTrucks_c hs hl).mono fun e W' ⟨he, hb⟩ => ?_
  subst he
  exact ⟨_, rfl, law_post Try.laid hW' rfl rfl (bt := 4) (by kernel_rfl) Try.underlying4 (by rw [Try.params7]; decide +kernel) hb⟩

theorem haulTrucks_holds : Rows.HaulTrucksSaid :=
  OpenClaim.holds_of_wide 7 Try.f7 rfl rfl rfl rfl rfl rfl rfl ⟨rfl, rfl, rfl, rfl, rfl⟩ rfl rfl rfl rfl rfl (by kernel_rfl) Try.func7 (by kernel_rfl)
    (of_decide_eq_true (by kernel_rfl)) (by unfold Func.isWrapper; first | (rw [if_pos (by decide +kernel)]; kernel_rfl) | (rw [if_neg (by decide +kernel)]; exact ⟨rfl, rfl⟩))
    (fun os started H enc _ => haulTrucks_lifted os started H enc)
end Go.Proofs.Ytafhjfkdlmijdaa
