/- For every input wharfagelaw19.FeasServes answers true, and its arguments read as they did. No condition. -/
import Derived.Test.YtahffcepagopmaaS1
set_option linter.all false
set_option maxRecDepth 100000
set_option maxHeartbeats 6400000
namespace Go.Proofs.Ytahffcepagopmaa
open Go.RowKit Go.WideShapes Go.ChangeShapes Go.ChangeAt

set_option maxRecDepth 100000 in
theorem feasServes_lifted (os : Os) (started : os.Started) (H : Type) (enc : TypeId × Value → H) :
    ReturnsInHanded {} Try.checked os 3 .any (Rows.feasServesSpec.pre6 enc Try.prog Try.f3 Rows.feasServesRow.domain false) (Rows.feasServesSpec.post enc Try.prog Try.f3 false true false false) := by
  refine returnsInHanded_of_change (C := Try.checked) Try.own started (by kernel_rfl) Try.func3
    (ChangeSpec.witness6 (enc := enc) (C := Try.checked) false ⟨#[], #[.agg #[.int .u8 0, .int .u8 0, .int .u8 0, .int .u8 0, .int .u8 0, .slice none 0 0, .slice none 0 0, .slice none 0 0, .slice none 0 0, .bool false, .bool false],
      .agg #[.slice none 0 0, .slice none 0 0, .slice none 0 0], .agg #[.slice none 0 0, .int .u8 0]], []⟩ 16 (by kernel_rfl) (by kernel_rfl) (by kernel_rfl) (by kernel_rfl)) ?_
  intro W base args ds gs before hval0 hW hcnd _
  have hval : ∀ (j : Nat) t v, Try.f3.params[j]? = some t → args[j]? = some v → Value.okWide Try.prog W .any base t v := hval0
  have hW' : DataW.Whole enc Try.prog Try.f3.params.toList Rows.feasServesSpec.vars false W args.toList ds gs before := hW
  obtain ⟨p, q, hA0, hV, rfl, hfz, hnd⟩ := hW
  have hA : DataW.TrodAll enc Try.prog W 0 (fun _ => true) true Try.f3.params.toList args.toList ds p := hA0
  rw [Try.params3] at hA hval
  obtain ⟨v0, v1, v2, d0, d1, d2, p0, p1, p2, rfl, rfl, rfl, h0, h1, h2⟩ := trodAll_three hA
  obtain ⟨rfl, rfl⟩ := trodVars_none hV
  obtain ⟨cs0, rfl, e0⟩ := xr7 Try.underlying26 (hval 0 _ _ rfl rfl)
  obtain ⟨cs1, rfl, e1⟩ := xr7 Try.underlying28 (hval 1 _ _ rfl rfl)
  obtain ⟨cs2, rfl, e2⟩ := xr7 Try.underlying31 (hval 2 _ _ rfl rfl)
  obtain ⟨n0, f0⟩ := h0
  obtain ⟨n1, f1⟩ := h1
  obtain ⟨n2, f2⟩ := h2
  rw [show (Value.agg cs0.toArray).cells.toList = cs0 from e0] at f0
  rw [show (Value.agg cs1.toArray).cells.toList = cs1 from e1] at f1
  rw [show (Value.agg cs2.toArray).cells.toList = cs2 from e2] at f2
  obtain ⟨s, hs⟩ := fsb7 _ _ _ _ _ _ _ _ _ f0
  obtain ⟨wi, hwi⟩ := bwb7 _ _ _ _ _ _ _ _ _ f1
  obtain ⟨sl, hsl⟩ := dsb7 _ _ _ _ _ _ _ _ _ f2
  refine (Ab.feasServes_c hs hwi hsl).mono fun e W' ⟨he, hb⟩ => ?_
  subst he
  exact ⟨_, rfl, esb7 Try.laid hW' rfl rfl (bt := 4) (by kernel_rfl) Try.underlying4 (by rw [Try.params3]; decide +kernel) hb⟩

theorem feasServes_holds : Rows.FeasServesSaid :=
  OpenClaim.holds_of_wide 3 Try.f3 rfl rfl rfl rfl rfl rfl rfl ⟨rfl, rfl, rfl, rfl, rfl⟩ rfl rfl rfl rfl rfl (by kernel_rfl) Try.func3 (by kernel_rfl)
    (of_decide_eq_true (by kernel_rfl)) (by unfold Func.isWrapper; first | (rw [if_pos (by decide +kernel)]; kernel_rfl) | (rw [if_neg (by decide +kernel)]; exact ⟨rfl, rfl⟩))
    (fun os started H enc _ => feasServes_lifted os started H enc)
end Go.Proofs.Ytahffcepagopmaa
