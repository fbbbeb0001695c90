/- For every input wharfagelaw15.BlockNone answers true, and its arguments read as they did; the table that is read is tied to the program's text. -/
import Derived.Test.YtbfbjghfcajddaaGreatDoorTie
import Derived.Test.YtbfbjghfcajddaaGreatDoorCards
import Derived.SevenTiedAt
import Derived.Test.YtbfbjghfcajddaaGreatDoorR4
set_option linter.all false
set_option maxRecDepth 100000
set_option maxHeartbeats 6400000
namespace Go.Proofs.YtbfbjghfcajddaaGreatDoor
open Go.RowKit Go.WideShapes Go.ChangeShapes Go.ChangeAt
theorem op_blk {H : Type} {enc : TypeId × Value → H} {w : World} {base : Nat} {spare : Nat → Bool} {held : Bool} {fuel : Nat} {cs : List Value} {x : DataW H × List MemPlace} (h : DataW.trod enc Tryz.prog w base spare held fuel 33 cs = some x) :
  ∃ b1 b2 b3, cs = [b1, b2, b3] ∧ (∃ n, b1 = .int .i64 n) ∧ (∃ n, b2 = .int .i64 n) ∧ (∃ n, b3 = .int .u64 n) := by
 have hl : cs.length = 3 := (trod_len Tryz.underlying33 h).trans (by kernel_rfl)
 match cs, hl with
 | [v0, v1, v2], _ =>
  obtain ⟨_, _, f0⟩ := trod_at Tryz.underlying33 h 0 29 0 1 rfl (by kernel_rfl)
  obtain ⟨_, _, f1⟩ := trod_at Tryz.underlying33 h 1 3 1 1 rfl co_int
  obtain ⟨_, _, f2⟩ := trod_at Tryz.underlying33 h 2 31 2 1 rfl (by kernel_rfl)
  obtain ⟨a0, e0, -⟩ := DataW.trod_int Tryz.underlying29 f0
  obtain ⟨a1, e1, -⟩ := DataW.trod_int Tryz.underlying3 f1
  obtain ⟨a2, e2, -⟩ := DataW.trod_int Tryz.underlying31 f2
  simp at e0 e1 e2
  exact ⟨v0, v1, v2, rfl, ⟨a0, e0⟩, ⟨a1, e1⟩, ⟨a2, e2⟩⟩
theorem blockNone_lifted (os : Os) (started : os.Started) (H : Type) (enc : TypeId × Value → H) :
  ReturnsInHanded {} Tryz.checked os 3 .any (fun w args => (Rows.blockNoneSpec.pre enc Tryz.prog Tryz.f3 [] false w args ∧ laidMetH Tryz.prog Rows.blockNoneRow.laid w) ∧ sizedMet enc Tryz.prog Tryz.f3 (OpenSpec.ofChange Rows.blockNoneSpec) false w args)
   (Rows.blockNoneSpec.post enc Tryz.prog Tryz.f3 false true false false) := by
 refine returnsInHanded_of_change_and (C := Tryz.checked) (X := fun w _ => laidMetH Tryz.prog Rows.blockNoneRow.laid w) (fun _ _ _ hh h => h.of_heap hh) Tryz.own started (by kernel_rfl) Tryz.func3
  (ChangeSpec.witness_shaped (enc := enc) (C := Tryz.checked) (os := os) (X := fun w _ => laidMetH Tryz.prog Rows.blockNoneRow.laid w) false (World.doorLaid Tryz.prog 400 os) #[.agg #[.int .i64 0, .int .i64 0, .int .i64 0, .int .i64 0, .int .i64 0, .slice none 0 0, .slice none 0 0, .slice none 0 0, .slice none 0 0], .agg #[.int .i64 0, .int .i64 0, .int .u64 0]] 16 rfl (World.shaped_of_RefB (by kernel_rfl) (by kernel_rfl)) (by kernel_rfl) (by kernel_rfl) (by kernel_rfl) (door_met os _)) ?_
 intro W base args ds gs before hval0 hW _ _ hL _
 have hval : ∀ (j : Nat) t v, Tryz.f3.params[j]? = some t → args[j]? = some v → Value.okWide Tryz.prog W .any base t v := hval0
 have hW' : DataW.Whole enc Tryz.prog Tryz.f3.params.toList Rows.blockNoneSpec.vars false W args.toList ds gs before := hW
 obtain ⟨p, q, hA0, hV, rfl, hfz, hnd⟩ := hW
 have hA : DataW.TrodAll enc Tryz.prog W 0 (fun _ => true) true Tryz.f3.params.toList args.toList ds p := hA0
 rw [Tryz.params3] at hA hval
 obtain ⟨v0, v1, d0, d1, p0, p1, rfl, rfl, rfl, h0, h1⟩ := trodAll_two hA
 obtain ⟨rfl, rfl⟩ := trodVars_none hV
 obtain ⟨cs0, rfl, e0⟩ := arg_struct Tryz.underlying28 (hval 0 _ _ rfl rfl)
 obtain ⟨cs1, rfl, e1⟩ := arg_struct Tryz.underlying33 (hval 1 _ _ rfl rfl)
 obtain ⟨n0, f0⟩ := h0
 obtain ⟨n1, f1⟩ := h1
 rw [show (Value.agg cs0.toArray).cells.toList = cs0 from e0] at f0
 rw [show (Value.agg cs1.toArray).cells.toList = cs1 from e1] at f1
 obtain ⟨x, hx⟩ := op_inst _ _ _ _ _ _ _ _ _ f0
 obtain ⟨b1, b2, b3, rfl, hb1, hb2, hb3⟩ := op_blk f1
 refine (blockNone_c (glob_of_laid hL) hx hb1 hb2 hb3).mono fun e W' ⟨he, hb⟩ => ?_
 subst he
 exact ⟨_, rfl, law_post Tryz.laid hW' rfl rfl (bt := 4) (by kernel_rfl) Tryz.underlying4 (by rw [Tryz.params3]; decide +kernel) hb⟩
theorem blockNone_row : Rows.BlockNoneSaid :=
 OpenClaim.holds_of_wide 3 Tryz.f3 rfl rfl rfl rfl rfl rfl rfl ⟨rfl, rfl, rfl, rfl, rfl⟩ rfl rfl rfl rfl rfl (by kernel_rfl) Tryz.func3 (by kernel_rfl)
  (of_decide_eq_true (by kernel_rfl)) (by unfold Func.isWrapper; first | (rw [if_pos (by decide +kernel)]; kernel_rfl) | (rw [if_neg (by decide +kernel)]; exact ⟨rfl, rfl⟩))
  (fun os started H enc _ => blockNone_lifted os started H enc)
theorem blockNone_holds : Rows.BlockNoneCardSaid :=
 Claim7.holds_tied_plain_at .later [] [.data] true (true, "10b167a2b97d0c68b65957c581adbf06f21b2f8955bbf8185b1f1cb27c3b1572") true
  blockNone_row (fun _ h => by cases h) (by kernel_rfl) (fun _ h => by cases h) blockNone_row_tie rfl ⟨rfl, rfl⟩ (by kernel_rfl) rfl
  (fun f fn hf hfn => by
   obtain rfl : f = 3 := Option.some.inj ((show Tryz.prog.funcNamed "wharfage/wharfagelaw15.BlockNone" = some 3 by kernel_rfl).symm.trans hf) |>.symm
   obtain rfl : fn = Tryz.f3 := (Option.some.inj (Tryz.func3.symm.trans hfn)).symm
   exact ⟨by kernel_rfl, fun j t ht => by
    rw [Tryz.params3] at ht
    have hm : t ∈ [28, 33] := by simpa using Array.mem_of_getElem? ht
    have hall : ([28, 33].all fun u => !Tryz.prog.wantsStandIn u) = true := by kernel_rfl
    exact (show Tryz.prog.wantsStandIn t = false by simpa using List.all_eq_true.1 hall t hm)⟩)
  (by kernel_rfl)
end Go.Proofs.YtbfbjghfcajddaaGreatDoor
