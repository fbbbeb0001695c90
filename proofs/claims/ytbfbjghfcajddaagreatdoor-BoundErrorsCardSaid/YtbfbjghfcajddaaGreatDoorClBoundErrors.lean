/- For every input wharfagelaw16.BoundErrors answers true, and its arguments read as they did; the table that is read is tied to the program's text. -/
import Derived.Test.YtbfbjghfcajddaaGreatDoorTie
import Derived.Test.YtbfbjghfcajddaaGreatDoorCards
import Derived.SevenTiedAt
import Derived.Test.YtbfbjghfcajddaaGreatDoorR5
set_option linter.all false
set_option maxRecDepth 100000
set_option maxHeartbeats 6400000
namespace Go.Proofs.YtbfbjghfcajddaaGreatDoor
open Go.RowKit Go.WideShapes Go.ChangeShapes Go.ChangeAt
section
variable {H : Type} {enc : TypeId × Value → H} {P : Program} {w : World} {base : Nat} {spare : Nat → Bool} {held : Bool}
theorem trodAll_five {t t' t'' t3 t4 : TypeId} {args : Array Value} {ds : List (DataW H)} {ps : List MemPlace} (h : DataW.TrodAll enc P w base spare held [t, t', t'', t3, t4] args.toList ds ps) :
  ∃ v v' v'' v3 v4 d d' d'' d3 d4 p p' p'' p3 p4, args = #[v, v', v'', v3, v4] ∧ ds = [d, d', d'', d3, d4] ∧ ps = p ++ p' ++ p'' ++ p3 ++ p4 ∧ DataW.Trod enc P w base spare held t v d p ∧ DataW.Trod enc P w base spare held t' v' d' p' ∧ DataW.Trod enc P w base spare held t'' v'' d'' p'' ∧ DataW.Trod enc P w base spare held t3 v3 d3 p3 ∧ DataW.Trod enc P w base spare held t4 v4 d4 p4 := by
 obtain ⟨v, vs, d, ds', p, q, hargs, rfl, rfl, hd, h1⟩ := trodAll_cons h
 obtain ⟨v', vs', d', ds'', p', q', rfl, rfl, rfl, hd', h2⟩ := trodAll_cons h1
 obtain ⟨v'', vs'', d'', ds''', p'', q'', rfl, rfl, rfl, hd'', h3⟩ := trodAll_cons h2
 obtain ⟨v3, vs3, d3, ds3, p3, q3, rfl, rfl, rfl, hd3, h4⟩ := trodAll_cons h3
 obtain ⟨v4, vs4, d4, ds4, p4, q4, rfl, rfl, rfl, hd4, h5⟩ := trodAll_cons h4
 obtain ⟨rfl, rfl, rfl⟩ := trodAll_nil h5
 exact ⟨v, v', v'', v3, v4, d, d', d'', d3, d4, p, p', p'', p3, p4, by cases args; simp_all, rfl, by simp, hd, hd', hd'', hd3, hd4⟩
end
theorem op_bound {H : Type} {enc : TypeId × Value → H} {w : World} {base : Nat} {spare : Nat → Bool} {held : Bool} {fuel : Nat} {cs : List Value} {x : DataW H × List MemPlace} (h : DataW.trod enc Tryz.prog w base spare held fuel 44 cs = some x) :
  ∃ b1 b2 b3 b4 b5 b6 b7, cs = [b1, b2, b3, b4, b5, b6, b7] ∧ (∃ n, b1 = .int .i64 n) ∧ (∃ a n c, b2 = .slice a n c) ∧ (∃ n, b3 = .int .i64 n) ∧ (∃ n, b4 = .int .i64 n) ∧ (∃ n, b5 = .int .i64 n) ∧ (∃ a n c, b6 = .slice a n c) ∧ (∃ a n c, b7 = .slice a n c) := by
 have hl : cs.length = 7 := (trod_len Tryz.underlying44 h).trans (by kernel_rfl)
 match cs, hl with
 | [v0, v1, v2, v3, v4, v5, v6], _ =>
  obtain ⟨_, _, f0⟩ := trod_at Tryz.underlying44 h 0 2 0 1 rfl co_i64
  obtain ⟨_, _, f1⟩ := trod_at Tryz.underlying44 h 1 40 1 1 rfl (by kernel_rfl)
  obtain ⟨_, _, f2⟩ := trod_at Tryz.underlying44 h 2 2 2 1 rfl co_i64
  obtain ⟨_, _, f3⟩ := trod_at Tryz.underlying44 h 3 2 3 1 rfl co_i64
  obtain ⟨_, _, f4⟩ := trod_at Tryz.underlying44 h 4 2 4 1 rfl co_i64
  obtain ⟨_, _, f5⟩ := trod_at Tryz.underlying44 h 5 42 5 1 rfl (by kernel_rfl)
  obtain ⟨_, _, f6⟩ := trod_at Tryz.underlying44 h 6 42 6 1 rfl (by kernel_rfl)
  obtain ⟨a0, e0, -⟩ := op_i64 _ _ _ _ _ _ _ _ _ f0
  obtain ⟨a1, r1⟩ := op_ints _ _ _ _ _ _ _ _ _ f1
  obtain ⟨a2, e2, -⟩ := op_i64 _ _ _ _ _ _ _ _ _ f2
  obtain ⟨a3, e3, -⟩ := op_i64 _ _ _ _ _ _ _ _ _ f3
  obtain ⟨a4, e4, -⟩ := op_i64 _ _ _ _ _ _ _ _ _ f4
  obtain ⟨a5, r5⟩ := op_ints64 _ _ _ _ _ _ _ _ _ f5
  obtain ⟨a6, r6⟩ := op_ints64 _ _ _ _ _ _ _ _ _ f6
  obtain ⟨q1, -, -, c1, e1, -⟩ := r1
  obtain ⟨q5, -, -, c5, e5, -⟩ := r5
  obtain ⟨q6, -, -, c6, e6, -⟩ := r6
  simp at e0 e1 e2 e3 e4 e5 e6
  exact ⟨v0, v1, v2, v3, v4, v5, v6, rfl, ⟨a0, e0⟩, ⟨_, _, _, e1⟩, ⟨a2, e2⟩, ⟨a3, e3⟩, ⟨a4, e4⟩, ⟨_, _, _, e5⟩, ⟨_, _, _, e6⟩⟩
theorem boundErrors_lifted (os : Os) (started : os.Started) (H : Type) (enc : TypeId × Value → H) :
  ReturnsInHanded {} Tryz.checked os 4 .any (fun w args => (Rows.boundErrorsSpec.pre enc Tryz.prog Tryz.f4 [] false w args ∧ laidMetH Tryz.prog Rows.boundErrorsRow.laid w) ∧ sizedMet enc Tryz.prog Tryz.f4 (OpenSpec.ofChange Rows.boundErrorsSpec) false w args)
   (Rows.boundErrorsSpec.post enc Tryz.prog Tryz.f4 false true false false) := by
 refine returnsInHanded_of_change_and (C := Tryz.checked) (X := fun w _ => laidMetH Tryz.prog Rows.boundErrorsRow.laid w) (fun _ _ _ hh h => h.of_heap hh) Tryz.own started (by kernel_rfl) Tryz.func4
  (ChangeSpec.witness_shaped (enc := enc) (C := Tryz.checked) (os := os) (X := fun w _ => laidMetH Tryz.prog Rows.boundErrorsRow.laid w) false (World.doorLaid Tryz.prog 400 os) #[.agg #[.int .i64 0, .int .i64 0, .int .i64 0, .int .i64 0, .int .i64 0, .slice none 0 0, .slice none 0 0, .slice none 0 0, .slice none 0 0], .agg #[.int .i64 0, .slice none 0 0, .int .i64 0, .int .i64 0, .int .i64 0, .slice none 0 0, .slice none 0 0], .int .u64 0, .int .i64 0, .int .i64 0] 16 rfl (World.shaped_of_RefB (by kernel_rfl) (by kernel_rfl)) (by kernel_rfl) (by kernel_rfl) (by kernel_rfl) (door_met os _)) ?_
 intro W base args ds gs before hval0 hW _ _ hL _
 have hval : ∀ (j : Nat) t v, Tryz.f4.params[j]? = some t → args[j]? = some v → Value.okWide Tryz.prog W .any base t v := hval0
 have hW' : DataW.Whole enc Tryz.prog Tryz.f4.params.toList Rows.boundErrorsSpec.vars false W args.toList ds gs before := hW
 obtain ⟨p, q, hA0, hV, rfl, hfz, hnd⟩ := hW
 have hA : DataW.TrodAll enc Tryz.prog W 0 (fun _ => true) true Tryz.f4.params.toList args.toList ds p := hA0
 rw [Tryz.params4] at hA hval
 obtain ⟨v0, v1, v2, v3, v4, d0, d1, d2, d3, d4, p0, p1, p2, p3, p4, rfl, rfl, rfl, h0, h1, -, -, -⟩ := trodAll_five hA
 obtain ⟨rfl, rfl⟩ := trodVars_none hV
 obtain ⟨cs0, rfl, e0⟩ := arg_struct Tryz.underlying28 (hval 0 _ _ rfl rfl)
 obtain ⟨cs1, rfl, e1⟩ := arg_struct Tryz.underlying44 (hval 1 _ _ rfl rfl)
 obtain ⟨n0, f0⟩ := h0
 obtain ⟨n1, f1⟩ := h1
 rw [show (Value.agg cs0.toArray).cells.toList = cs0 from e0] at f0
 rw [show (Value.agg cs1.toArray).cells.toList = cs1 from e1] at f1
 obtain ⟨x, hx⟩ := op_inst _ _ _ _ _ _ _ _ _ f0
 obtain ⟨b1, b2, b3, b4, b5, b6, b7, rfl, hb1, hb2, hb3, hb4, hb5, hb6, hb7⟩ := op_bound f1
 refine (boundErrors_c (glob_of_laid hL) hx hb1 hb2 hb3 hb4 hb5 hb6 hb7).mono fun e W' ⟨he, hb⟩ => ?_
 subst he
 exact ⟨_, rfl, law_post Tryz.laid hW' rfl rfl (bt := 4) (by kernel_rfl) Tryz.underlying4 (by rw [Tryz.params4]; decide +kernel) hb⟩
theorem boundErrors_row : Rows.BoundErrorsSaid :=
 OpenClaim.holds_of_wide 4 Tryz.f4 rfl rfl rfl rfl rfl rfl rfl ⟨rfl, rfl, rfl, rfl, rfl⟩ rfl rfl rfl rfl rfl (by kernel_rfl) Tryz.func4 (by kernel_rfl)
  (of_decide_eq_true (by kernel_rfl)) (by unfold Func.isWrapper; first | (rw [if_pos (by decide +kernel)]; kernel_rfl) | (rw [if_neg (by decide +kernel)]; exact ⟨rfl, rfl⟩))
  (fun os started H enc _ => boundErrors_lifted os started H enc)
theorem boundErrors_holds : Rows.BoundErrorsCardSaid :=
 Claim7.holds_tied_plain_at .later [] [.data] true (true, "10b167a2b97d0c68b65957c581adbf06f21b2f8955bbf8185b1f1cb27c3b1572") true
  boundErrors_row (fun _ h => by cases h) (by kernel_rfl) (fun _ h => by cases h) boundErrors_row_tie rfl ⟨rfl, rfl⟩ (by kernel_rfl) rfl
  (fun f fn hf hfn => by
   obtain rfl : f = 4 := Option.some.inj ((show Tryz.prog.funcNamed "wharfage/wharfagelaw16.BoundErrors" = some 4 by kernel_rfl).symm.trans hf) |>.symm
   obtain rfl : fn = Tryz.f4 := (Option.some.inj (Tryz.func4.symm.trans hfn)).symm
   exact ⟨by kernel_rfl, fun j t ht => by
    rw [Tryz.params4] at ht
    have hm : t ∈ [28, 44, 30, 3, 3] := by simpa using Array.mem_of_getElem? ht
    have hall : ([28, 44, 30, 3, 3].all fun u => !Tryz.prog.wantsStandIn u) = true := by kernel_rfl
    exact (show Tryz.prog.wantsStandIn t = false by simpa using List.all_eq_true.1 hall t hm)⟩)
  (by kernel_rfl)
end Go.Proofs.YtbfbjghfcajddaaGreatDoor
