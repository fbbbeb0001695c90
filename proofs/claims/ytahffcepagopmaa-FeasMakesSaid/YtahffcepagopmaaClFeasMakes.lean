/- For every input wharfagelaw19.FeasMakes answers true, and its arguments read as they did. No condition. -/
import Derived.Test.YtahffcepagopmaaR2
set_option linter.all false
namespace Go.Proofs.Ytahffcepagopmaa
open Go.RowKit Go.WideShapes Go.ChangeShapes Go.ChangeAt
set_option maxRecDepth 100000 in
theorem feasMakes_lifted (os : Os) (started : os.Started) (H : Type) (enc : TypeId × Value → H) :
  ReturnsInHanded {} Try.checked os 5 .any (Rows.feasMakesSpec.pre6 enc Try.prog Try.f5 Rows.feasMakesRow.domain false) (Rows.feasMakesSpec.post enc Try.prog Try.f5 false true false false) := by
 refine returnsInHanded_of_change (C := Try.checked) Try.own started (by kernel_rfl) Try.func5
  (ChangeSpec.witness6 (enc := enc) (C := Try.checked) false ⟨#[], #[.agg #[.int .u8 0, .int .u8 0, .int .u8 0, .int .u8 0, .int .u8 0, .slice none 0 0, .slice none 0 0, .slice none 0 0, .slice none 0 0, .bool false, .bool false],
   .agg #[.slice none 0 0, .slice none 0 0, .slice none 0 0], .int .u8 0, .int .u8 0, .int .i8 0], []⟩ 16 (by kernel_rfl) (by kernel_rfl) (by kernel_rfl) (by kernel_rfl)) ?_
 intro W base args ds gs before hval0 hW hcnd _
 have hval : ∀ (j : Nat) t v, Try.f5.params[j]? = some t → args[j]? = some v → Value.okWide Try.prog W .any base t v := hval0
 have hW' : DataW.Whole enc Try.prog Try.f5.params.toList Rows.feasMakesSpec.vars false W args.toList ds gs before := hW
 obtain ⟨p, q, hA0, hV, rfl, hfz, hnd⟩ := hW
 have hA : DataW.TrodAll enc Try.prog W 0 (fun _ => true) true Try.f5.params.toList args.toList ds p := hA0
 rw [Try.params5] at hA hval
 obtain ⟨v0, v1, v2, v3, v4, d0, d1, d2, d3, d4, p0, p1, p2, p3, p4, rfl, rfl, rfl, h0, h1, h2, h3, h4⟩ := trodAll_five hA
 obtain ⟨rfl, rfl⟩ := trodVars_none hV
 obtain ⟨cs0, rfl, e0⟩ := arg_struct Try.underlying26 (hval 0 _ _ rfl rfl)
 obtain ⟨cs1, rfl, e1⟩ := arg_struct Try.underlying28 (hval 1 _ _ rfl rfl)
 have e2 := arg_int Try.underlying5 (hval 2 _ _ rfl rfl)
 have e3 := arg_int Try.underlying5 (hval 3 _ _ rfl rfl)
 have e4 := arg_int Try.underlying71 (hval 4 _ _ rfl rfl)
 obtain ⟨n0, f0⟩ := h0
 obtain ⟨n1, f1⟩ := h1
 obtain ⟨n2, f2⟩ := h2
 obtain ⟨n3, f3⟩ := h3
 obtain ⟨n4, f4⟩ := h4
 rw [show (Value.agg cs0.toArray).cells.toList = cs0 from e0] at f0
 rw [show (Value.agg cs1.toArray).cells.toList = cs1 from e1] at f1
 rw [show v2.cells.toList = [v2] from e2] at f2
 rw [show v3.cells.toList = [v3] from e3] at f3
 rw [show v4.cells.toList = [v4] from e4] at f4
 obtain ⟨s, hs⟩ := op_small _ _ _ _ _ _ _ _ _ f0
 obtain ⟨wi, hwi⟩ := op_wish _ _ _ _ _ _ _ _ _ f1
 obtain ⟨a2, g2, k2⟩ := op_u8 _ _ _ _ _ _ _ _ _ f2
 obtain ⟨a3, g3, k3⟩ := op_u8 _ _ _ _ _ _ _ _ _ f3
 obtain ⟨a4, g4, k4⟩ := op_i8 _ _ _ _ _ _ _ _ _ f4
 obtain rfl := (List.cons.inj g2).1
 obtain rfl := (List.cons.inj g3).1
 obtain rfl := (List.cons.inj g4).1
 obtain ⟨m2, rfl⟩ := Int.eq_ofNat_of_zero_le k2.1
 obtain ⟨m3, rfl⟩ := Int.eq_ofNat_of_zero_le k3.1
 refine (Ab.feasMakes_c (what := m2) (at_ := m3) (by_ := a4) hs hwi (by have := k2.2; omega) (by have := k3.2; omega) k4).mono fun e W' ⟨he, hb⟩ => ?_
 subst he
 exact ⟨_, rfl, law_post Try.laid hW' rfl rfl (bt := 4) (by kernel_rfl) Try.underlying4 (by rw [Try.params5]; decide +kernel) hb⟩
theorem feasMakes_holds : Rows.FeasMakesSaid :=
 OpenClaim.holds_of_wide 5 Try.f5 rfl rfl rfl rfl rfl rfl rfl ⟨rfl, rfl, rfl, rfl, rfl⟩ rfl rfl rfl rfl rfl (by kernel_rfl) Try.func5 (by kernel_rfl)
  (of_decide_eq_true (by kernel_rfl)) (by unfold Func.isWrapper; first | (rw [if_pos (by decide +kernel)]; kernel_rfl) | (rw [if_neg (by decide +kernel)]; exact ⟨rfl, rfl⟩))
  (fun os started H enc _ => feasMakes_lifted os started H enc)
end Go.Proofs.Ytahffcepagopmaa
