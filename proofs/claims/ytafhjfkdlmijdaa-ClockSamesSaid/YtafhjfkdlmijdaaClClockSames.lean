/- For every input wharfagelaw18.ClockSames answers true, and its arguments read as they did. No condition. -/
import Derived.SizedLaws
import Derived.Test.YtafhjfkdlmijdaaR4
set_option linter.all false
namespace Go.Proofs.Ytafhjfkdlmijdaa
open Go.RowKit Go.WideShapes Go.ChangeShapes Go.ChangeAt
theorem len_le {P : Program} {t e : TypeId} {H : Type} {enc : TypeId × Value → H} {w : World} {base : Nat} {spare : Nat → Bool} {held : Bool} {fuel B : Nat} {cs : List Value} {x : DataW H × List MemPlace} (ht : P.underlying t = some (.slice e)) (he : 0 < P.bytesOf e)
  (h : DataW.trod enc P w base spare held fuel t cs = some x) (hB : ∀ n ∈ x.1.weights P t, n ≤ B) : ∃ a n c, cs = [.slice a n c] ∧ n ≤ B := by
 rcases Deep.open_slice ht h with ⟨rfl, -⟩ | ⟨a, len, cap, m, n, D, Pl, rfl, -, hl, hm, hmm, rfl, hx⟩
 ·exact ⟨none, 0, 0, rfl, Nat.zero_le _⟩
 ·refine ⟨_, len, cap, rfl, ?_⟩
  have := hB ((((List.range len).map D).length + ((List.range (m - len)).map fun j => D (len + j)).length) * P.bytesOf e) (by simp [DataW.weights, ht])
  simp only [List.length_map, List.length_range] at this
  have h2 : (len + (m - len)) * 1 ≤ (len + (m - len)) * P.bytesOf e := Nat.mul_le_mul_left _ he
  omega
set_option maxRecDepth 100000 in
theorem op_timesL {H : Type} {enc : TypeId × Value → H} {w : World} {base : Nat} {spare : Nat → Bool} {held : Bool} {fuel B : Nat} {cs : List Value} {x : DataW H × List MemPlace} (h : DataW.trod enc Try.prog w base spare held fuel 54 cs = some x)
  (hB : ∀ n ∈ x.1.weights Try.prog 54, n ≤ B) : ∃ y, timesS.rep w (fun _ => True) y cs ∧ y.trucks.length ≤ B ∧ y.bikes.length ≤ B := by
 obtain ⟨y, hy⟩ := op_times _ _ _ _ _ _ _ _ _ h
 refine ⟨y, hy, ?_⟩
 obtain ⟨v0, v1, rfl, r0, r1⟩ := hy
 obtain ⟨xs, n, -, rfl, -, hl, hx⟩ := DataW.trod_struct Try.underlying54 h
 have hw : DataW.weights Try.prog 54 (.agg (xs.map (·.1))) = DataW.weightsEach Try.prog [31, 52] (xs.map (·.1)) := by
  rw [DataW.weights, Try.underlying54]; rfl
 obtain ⟨x0, x1, rfl⟩ : ∃ a b, xs = [a, b] := by
  have h2 : xs.length = 2 := hl
  clear hx hw hB h hl
  match xs, h2 with
  | [a, b], _ => exact ⟨a, b, rfl⟩
 have f0 := hx 0 _ rfl
 have f1 := hx 1 _ rfl
 have g0 : ∀ n ∈ x0.1.weights Try.prog 31, n ≤ B := fun n hn => hB n (by rw [hw]; exact DataW.weights_mem_each (j := 0) rfl rfl n hn)
 have g1 : ∀ n ∈ x1.1.weights Try.prog 52, n ≤ B := fun n hn => hB n (by rw [hw]; exact DataW.weights_mem_each (j := 1) rfl rfl n hn)
 have k0 : Try.prog.bytesOf 34 = 24 := by kernel_rfl
 have k1 : Try.prog.bytesOf 85 = 40 := by kernel_rfl
 obtain ⟨a0, n0, c0, e0, b0⟩ := len_le Try.underlying31 (by rw [k0]; decide) f0 g0
 obtain ⟨a1, n1, c1, e1, b1⟩ := len_le Try.underlying52 (by rw [k1]; decide) f1 g1
 have e0 : [v0] = [.slice a0 n0 c0] := e0
 have e1 : [v1] = [.slice a1 n1 c1] := e1
 cases e0; cases e1
 obtain ⟨_, _, _, _, e2, -⟩ := r0
 obtain ⟨_, _, _, _, e3, -⟩ := r1
 cases e2; cases e3
 exact ⟨b0, b1⟩
set_option maxRecDepth 100000 in
theorem clockSames_lifted (os : Os) (started : os.Started) (H : Type) (enc : TypeId × Value → H) :
  ReturnsInHanded {} Try.checked os 12 .any (Rows.clockSamesSpec.pre6 enc Try.prog Try.f12 Rows.clockSamesRow.domain false) (Rows.clockSamesSpec.post enc Try.prog Try.f12 false true false false) := by
 refine returnsInHanded_of_change_sized (C := Try.checked) Try.own started (by kernel_rfl) Try.func12
  (ChangeSpec.witness6 (enc := enc) (C := Try.checked) false ⟨#[], #[.agg #[.slice none 0 0, .slice none 0 0], .agg #[.slice none 0 0, .slice none 0 0], .agg #[.int .u8 0, .int .u8 0, .int .u8 0, .int .u8 0, .int .u8 0, .slice none 0 0, .slice none 0 0, .slice none 0 0, .slice none 0 0, .bool false, .bool false],
   .agg #[.slice none 0 0, .slice none 0 0, .slice none 0 0], .agg #[.slice none 0 0, .int .u8 0]], []⟩ 16 (by kernel_rfl) (by kernel_rfl) (by kernel_rfl) (by kernel_rfl)) ?_
 intro W base args ds gs before hval0 hW hcnd hsz _
 have hval : ∀ (j : Nat) t v, Try.f12.params[j]? = some t → args[j]? = some v → Value.okWide Try.prog W .any base t v := hval0
 have hW' : DataW.Whole enc Try.prog Try.f12.params.toList Rows.clockSamesSpec.vars false W args.toList ds gs before := hW
 obtain ⟨p, q, hA0, hV, rfl, hfz, hnd⟩ := hW
 have hA : DataW.TrodAll enc Try.prog W 0 (fun _ => true) true Try.f12.params.toList args.toList ds p := hA0
 rw [Try.params12] at hA hval
 obtain ⟨v0, v1, v2, v3, v4, d0, d1, d2, d3, d4, p0, p1, p2, p3, p4, rfl, rfl, rfl, h0, h1, h2, h3, h4⟩ := trodAll_five hA
 obtain ⟨rfl, rfl⟩ := trodVars_none hV
 obtain ⟨ca, rfl, ea⟩ := arg_struct Try.underlying54 (hval 0 _ _ rfl rfl)
 obtain ⟨cb, rfl, eb⟩ := arg_struct Try.underlying54 (hval 1 _ _ rfl rfl)
 obtain ⟨cs0, rfl, e0⟩ := arg_struct Try.underlying26 (hval 2 _ _ rfl rfl)
 obtain ⟨cs1, rfl, e1⟩ := arg_struct Try.underlying72 (hval 3 _ _ rfl rfl)
 obtain ⟨cs2, rfl, e2⟩ := arg_struct Try.underlying94 (hval 4 _ _ rfl rfl)
 obtain ⟨n0, f0⟩ := h0
 obtain ⟨n1, f1⟩ := h1
 obtain ⟨n2, f2⟩ := h2
 obtain ⟨n3, f3⟩ := h3
 obtain ⟨n4, f4⟩ := h4
 rw [show (Value.agg ca.toArray).cells.toList = ca from ea] at f0
 rw [show (Value.agg cb.toArray).cells.toList = cb from eb] at f1
 rw [show (Value.agg cs0.toArray).cells.toList = cs0 from e0] at f2
 rw [show (Value.agg cs1.toArray).cells.toList = cs1 from e1] at f3
 rw [show (Value.agg cs2.toArray).cells.toList = cs2 from e2] at f4
 have hr : reachBytes ≤ 140737488355328 := by decide
 rw [Try.params12] at hsz
 obtain ⟨a, ha, la1, la2⟩ := op_timesL (B := 140737488355328) f0 (fun n hn => Nat.le_trans (by simpa using List.all_eq_true.1 hsz _ (DataW.weights_mem_each (j := 0) (t := 54) rfl rfl n hn)) hr)
 obtain ⟨b, hb, lb1, lb2⟩ := op_timesL (B := 140737488355328) f1 (fun n hn => Nat.le_trans (by simpa using List.all_eq_true.1 hsz _ (DataW.weights_mem_each (j := 1) (t := 54) rfl rfl n hn)) hr)
 obtain ⟨s, hs⟩ := op_small _ _ _ _ _ _ _ _ _ f2
 obtain ⟨wi, hwi⟩ := op_wish _ _ _ _ _ _ _ _ _ f3
 obtain ⟨sl, hsl⟩ := op_slack _ _ _ _ _ _ _ _ _ f4
 refine (Ab.clockSames_c ha hb ⟨la1, la2⟩ ⟨lb1, lb2⟩ hs hwi hsl).mono fun e W' ⟨he, hb⟩ => ?_
 subst he
 exact ⟨_, rfl, law_post Try.laid hW' rfl rfl (bt := 4) (by kernel_rfl) Try.underlying4 (by rw [Try.params12]; decide +kernel) hb⟩
theorem clockSames_holds : Rows.ClockSamesSaid :=
 OpenClaim.holds_of_wide 12 Try.f12 rfl rfl rfl rfl rfl rfl rfl ⟨rfl, rfl, rfl, rfl, rfl⟩ rfl rfl rfl rfl rfl (by kernel_rfl) Try.func12 (by kernel_rfl)
  (of_decide_eq_true (by kernel_rfl)) (by unfold Func.isWrapper; first | (rw [if_pos (by decide +kernel)]; kernel_rfl) | (rw [if_neg (by decide +kernel)]; exact ⟨rfl, rfl⟩))
  (fun os started H enc _ => clockSames_lifted os started H enc)
end Go.Proofs.Ytafhjfkdlmijdaa
