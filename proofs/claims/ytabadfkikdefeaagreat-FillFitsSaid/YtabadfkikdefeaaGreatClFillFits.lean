/- For every input wharfagelaw21.FillFits answers true, and its arguments read as they did. No condition. -/
import Derived.Test.YtabadfkikdefeaaGreatR5
set_option linter.all false
set_option maxRecDepth 100000
set_option maxHeartbeats 6400000
namespace Go.Proofs.YtabadfkikdefeaaGreat
open Go.RowKit Go.WideShapes Go.ChangeShapes Go.ChangeAt
theorem trodAll_seven {P : Program} {H : Type} {enc : TypeId × Value → H} {w : World} {base : Nat} {spare : Nat → Bool} {held : Bool} {t t1 t2 t3 t4 t5 t6 : TypeId} {args : Array Value} {ds : List (DataW H)} {ps : List MemPlace} (h : DataW.TrodAll enc P w base spare held [t, t1, t2, t3, t4, t5, t6] args.toList ds ps) :
  ∃ v v1 v2 v3 v4 v5 v6 d d1 d2 d3 d4 d5 d6 p p1 p2 p3 p4 p5 p6, args = #[v, v1, v2, v3, v4, v5, v6] ∧ ds = [d, d1, d2, d3, d4, d5, d6] ∧ ps = p ++ (p1 ++ (p2 ++ (p3 ++ (p4 ++ (p5 ++ p6))))) ∧ DataW.Trod enc P w base spare held t v d p ∧ DataW.Trod enc P w base spare held t1 v1 d1 p1 ∧ DataW.Trod enc P w base spare held t2 v2 d2 p2 ∧ DataW.Trod enc P w base spare held t3 v3 d3 p3 ∧ DataW.Trod enc P w base spare held t4 v4 d4 p4 ∧ DataW.Trod enc P w base spare held t5 v5 d5 p5 ∧ DataW.Trod enc P w base spare held t6 v6 d6 p6 := by
 obtain ⟨v, vs, d, ds0, p, q, hargs, rfl, rfl, hd, h1⟩ := trodAll_cons h
 obtain ⟨v1, vs1, d1, ds1, p1, q1, rfl, rfl, rfl, hd1, h2⟩ := trodAll_cons h1
 obtain ⟨v2, vs2, d2, ds2, p2, q2, rfl, rfl, rfl, hd2, h3⟩ := trodAll_cons h2
 obtain ⟨v3, vs3, d3, ds3, p3, q3, rfl, rfl, rfl, hd3, h4⟩ := trodAll_cons h3
 obtain ⟨v4, vs4, d4, ds4, p4, q4, rfl, rfl, rfl, hd4, h5⟩ := trodAll_cons h4
 obtain ⟨v5, vs5, d5, ds5, p5, q5, rfl, rfl, rfl, hd5, h6⟩ := trodAll_cons h5
 obtain ⟨v6, vs6, d6, ds6, p6, q6, rfl, rfl, rfl, hd6, h7⟩ := trodAll_cons h6
 obtain ⟨rfl, rfl, rfl⟩ := trodAll_nil h7
 exact ⟨v, v1, v2, v3, v4, v5, v6, d, d1, d2, d3, d4, d5, d6, p, p1, p2, p3, p4, p5, p6, by cases args; simp_all, rfl, by simp, hd, hd1, hd2, hd3, hd4, hd5, hd6⟩
theorem fillFits_lifted (os : Os) (started : os.Started) (H : Type) (enc : TypeId × Value → H) :
  ReturnsInHanded {} Tryz.checked os 8 .any (Rows.fillFitsSpec.pre6 enc Tryz.prog Tryz.f8 Rows.fillFitsRow.domain false) (Rows.fillFitsSpec.post enc Tryz.prog Tryz.f8 false true false false) := by
 refine returnsInHanded_of_change (C := Tryz.checked) Tryz.own started (by kernel_rfl) Tryz.func8
  (ChangeSpec.witness6 (enc := enc) (C := Tryz.checked) false ⟨#[], #[.agg #[.int .u8 0, .int .u8 0, .int .u8 0, .int .u8 0, .int .u8 0, .slice none 0 0, .slice none 0 0, .slice none 0 0, .slice none 0 0, .bool false, .bool false],
   .agg #[.slice none 0 0, .slice none 0 0, .slice none 0 0], .int .u8 0, .int .u8 0, .int .i8 0, .slice none 0 0, .bool false], []⟩ 16 (by kernel_rfl) (by kernel_rfl) (by kernel_rfl) (by kernel_rfl)) ?_
 intro W base args ds gs before hval0 hW hcnd _
 have hval : ∀ (j : Nat) t v, Tryz.f8.params[j]? = some t → args[j]? = some v → Value.okWide Tryz.prog W .any base t v := hval0
 have hW' : DataW.Whole enc Tryz.prog Tryz.f8.params.toList Rows.fillFitsSpec.vars false W args.toList ds gs before := hW
 obtain ⟨p, q, hA0, hV, rfl, hfz, hnd⟩ := hW
 have hA : DataW.TrodAll enc Tryz.prog W 0 (fun _ => true) true Tryz.f8.params.toList args.toList ds p := hA0
 rw [Tryz.params8] at hA hval
 obtain ⟨v0, v1, v2, v3, v4, v5, v6, d0, d1, d2, d3, d4, d5, d6, p0, p1, p2, p3, p4, p5, p6, rfl, rfl, rfl, h0, h1, h2, h3, h4, h5, h6⟩ := trodAll_seven hA
 obtain ⟨rfl, rfl⟩ := trodVars_none hV
 obtain ⟨cs0, rfl, e0⟩ := arg_struct Tryz.underlying26 (hval 0 _ _ rfl rfl)
 obtain ⟨cs1, rfl, e1⟩ := arg_struct Tryz.underlying28 (hval 1 _ _ rfl rfl)
 have e2 := arg_int Tryz.underlying5 (hval 2 _ _ rfl rfl)
 have e3 := arg_int Tryz.underlying5 (hval 3 _ _ rfl rfl)
 have e4 := arg_int Tryz.underlying29 (hval 4 _ _ rfl rfl)
 have e5 := arg_slice Tryz.underlying78 (hval 5 _ _ rfl rfl)
 have e6 := arg_bool Tryz.underlying4 (hval 6 _ _ rfl rfl)
 obtain ⟨n0, f0⟩ := h0
 obtain ⟨n1, f1⟩ := h1
 obtain ⟨n2, f2⟩ := h2
 obtain ⟨n3, f3⟩ := h3
 obtain ⟨n4, f4⟩ := h4
 obtain ⟨n5, f5⟩ := h5
 obtain ⟨n6, f6⟩ := h6
 rw [show (Value.agg cs0.toArray).cells.toList = cs0 from e0] at f0
 rw [show (Value.agg cs1.toArray).cells.toList = cs1 from e1] at f1
 rw [show v2.cells.toList = [v2] from e2] at f2
 rw [show v3.cells.toList = [v3] from e3] at f3
 rw [show v4.cells.toList = [v4] from e4] at f4
 rw [show v5.cells.toList = [v5] from e5] at f5
 rw [show v6.cells.toList = [v6] from e6] at f6
 obtain ⟨s, hs⟩ := op_small _ _ _ _ _ _ _ _ _ f0
 obtain ⟨wi, hwi⟩ := op_wish _ _ _ _ _ _ _ _ _ f1
 obtain ⟨a2, g2, k2⟩ := op_u8 _ _ _ _ _ _ _ _ _ f2
 obtain ⟨a3, g3, k3⟩ := op_u8 _ _ _ _ _ _ _ _ _ f3
 obtain ⟨a4, g4, k4⟩ := op_i8 _ _ _ _ _ _ _ _ _ f4
 obtain ⟨rd, hrd⟩ := op_ints64 _ _ _ _ _ _ _ _ _ f5
 obtain ⟨a6, g6⟩ := op_bool _ _ _ _ _ _ _ _ _ f6
 obtain rfl := (List.cons.inj g2).1
 obtain rfl := (List.cons.inj g3).1
 obtain rfl := (List.cons.inj g4).1
 obtain rfl := (List.cons.inj g6).1
 obtain ⟨m2, rfl⟩ := Int.eq_ofNat_of_zero_le k2.1
 obtain ⟨m3, rfl⟩ := Int.eq_ofNat_of_zero_le k3.1
 refine (Ab.fillFits_c (what := m2) (at_ := m3) (by_ := a4) hs hwi hrd (by have := k2.2; omega) (by have := k3.2; omega) k4).mono fun e W' ⟨he, hb⟩ => ?_
 subst he
 exact ⟨_, rfl, law_post Tryz.laid hW' rfl rfl (bt := 4) (by kernel_rfl) Tryz.underlying4 (by rw [Tryz.params8]; decide +kernel) hb⟩
theorem fillFits_holds : Rows.FillFitsSaid :=
 OpenClaim.holds_of_wide 8 Tryz.f8 rfl rfl rfl rfl rfl rfl rfl ⟨rfl, rfl, rfl, rfl, rfl⟩ rfl rfl rfl rfl rfl (by kernel_rfl) Tryz.func8 (by kernel_rfl)
  (of_decide_eq_true (by kernel_rfl)) (by unfold Func.isWrapper; first | (rw [if_pos (by decide +kernel)]; kernel_rfl) | (rw [if_neg (by decide +kernel)]; exact ⟨rfl, rfl⟩))
  (fun os started H enc _ => fillFits_lifted os started H enc)
end Go.Proofs.YtabadfkikdefeaaGreat
