/- What further inputs read as: small signed numbers, wishes; five parameters. -/
import Derived.Test.YtafhjfkdlmijdaaOpen
import Derived.Test.YtafhjfkdlmijdaaDraftD
namespace Go.Proofs.Ytafhjfkdlmijdaa
open Go.RowKit Go.ChangeShapes

def i8S : Shape Int := plainS 1 (fun x cs => cs = [.int .i8 x] ∧ (-128 ≤ x ∧ x ≤ 127)) (by rintro x cs ⟨rfl, _⟩; rfl)
theorem opens_i8 {P : Program} {t : TypeId} (ht : P.underlying t = some (.int .i8)) : Opens P t i8S := by
  intro H enc w base spare held fuel cs x h
  cases fuel with
  | zero => simp [DataW.trod] at h
  | succ n =>
    unfold DataW.trod at h
    rw [ht] at h
    split at h <;> simp_all
    rename_i k2 m e
    obtain ⟨⟨_, hw⟩, -⟩ := h
    subst e
    refine ⟨m, rfl, ?_⟩
    simpa [Lit.wf, IntKind.min, IntKind.max, IntKind.signed, IntKind.bits] using hw
theorem op_i8 : Opens Try.prog 77 i8S := opens_i8 Try.underlying77
theorem op_wish : Opens Try.prog 72 wishS := by
  intro H enc w base spare held fuel cs x h
  have hl : cs.length = 3 := (trod_len Try.underlying72 h).trans (by kernel_rfl)
  match cs, hl with
  | [v0, v1, v2], _ =>
    obtain ⟨_, _, f0⟩ := trod_at Try.underlying72 h 0 24 0 1 rfl (by kernel_rfl)
    obtain ⟨_, _, f1⟩ := trod_at Try.underlying72 h 1 24 1 1 rfl (by kernel_rfl)
    obtain ⟨_, _, f2⟩ := trod_at Try.underlying72 h 2 24 2 1 rfl (by kernel_rfl)
    obtain ⟨a0, r0⟩ := op_bytes _ _ _ _ _ _ _ _ _ f0
    obtain ⟨a1, r1⟩ := op_bytes _ _ _ _ _ _ _ _ _ f1
    obtain ⟨a2, r2⟩ := op_bytes _ _ _ _ _ _ _ _ _ f2
    exact ⟨⟨a0, a1, a2⟩, v0, v1, v2, rfl, r0, r1, r2⟩
/-- An argument of a whole number's type is one cell. -/
theorem arg_int {P : Program} {w : World} {r : Reach} {base : Nat} {t : TypeId} {k : IntKind} {v : Value} (ht : P.underlying t = some (.int k)) (h : Value.okWide P w r base t v) : v.cells.toList = [v] := by
  unfold Value.okWide at h
  rw [ht] at h
  simp only [Cell.okWide, ht] at h
  cases v <;> simp_all [Value.cells, Cell.ok]
/-- An argument that may be true or false is one cell. -/
theorem arg_bool {P : Program} {w : World} {r : Reach} {base : Nat} {t : TypeId} {v : Value} (ht : P.underlying t = some .bool) (h : Value.okWide P w r base t v) : v.cells.toList = [v] := by
  unfold Value.okWide at h
  rw [ht] at h
  simp only [Cell.okWide, ht] at h
  cases v <;> simp_all [Value.cells, Cell.ok]
section
variable {H : Type} {enc : TypeId × Value → H} {P : Program} {w : World} {base : Nat} {spare : Nat → Bool} {held : Bool}
/-- Five parameters. -/
theorem trodAll_five {t t' t'' t3 t4 : TypeId} {args : Array Value} {ds : List (DataW H)} {ps : List MemPlace} (h : DataW.TrodAll enc P w base spare held [t, t', t'', t3, t4] args.toList ds ps) :
    ∃ v v' v'' v3 v4 d d' d'' d3 d4 p p' p'' p3 p4, args = #[v, v', v'', v3, v4] ∧ ds = [d, d', d'', d3, d4] ∧ ps = p ++ p' ++ p'' ++ p3 ++ p4 ∧ DataW.Trod enc P w base spare held t v d p ∧ DataW.Trod enc P w base spare held t' v' d' p' ∧ DataW.Trod enc P w base spare held t'' v'' d'' p'' ∧ DataW.Trod enc P w base spare held t3 v3 d3 p3 ∧ DataW.Trod enc P w base spare held t4 v4 d4 p4 := by
  obtain ⟨v, vs, d, ds', p, q, hargs, rfl, rfl, hd, h1⟩ := trodAll_cons h
  obtain ⟨v', vs', d', ds'', p', q', rfl, rfl, rfl, hd', h2⟩ := trodAll_cons h1
  obtain ⟨v'', vs'', d'', ds''', p'', q'', rfl, rfl, rfl, hd'', h3⟩ := trodAll_cons h2
  obtain ⟨v3, vs3, d3, ds3, p3, q3, rfl, rfl, rfl, hd3, h4⟩ := trodAll_cons h3
  obtain ⟨v4, vs4, d4, ds4, p4, q4, rfl, rfl, rfl, hd4, h5⟩ := trodAll_cons h4
  obtain ⟨rfl, rfl, rfl⟩ := trodAll_nil h5
  exact ⟨v, v', v'', v3, v4, d, d', d'', d3, d4, p, p', p'', p3, p4, by cases args; simp_all, rfl, by simp, hd, hd', hd'', hd3, hd4⟩
end
end Go.Proofs.Ytafhjfkdlmijdaa
