/- A region that draws its order: what only reads is taken in the text's order, the calls and stores one behind the other; the last ones may write what was read. -/
import Derived.Test.YtafhjfkdlmijdaaLib
import Derived.OrdersHeld
import Derived.StillTail
namespace Go.Proofs.Ytafhjfkdlmijdaa
open Go.RowKit
section
variable {P : Program} {ops : Array Oper} {Q : Exit → Act → World → Prop} {md : Region.Mode} {S : World → Prop}

/-- Whatever order is picked; S holds behind every operation but the final ones. -/
def wpAnyF (P : Program) (md : Region.Mode) (ops : Array Oper) (Q : Exit → Act → World → Prop) (S : World → Prop) (fins : List Nat) : Nat → Array Bool → Act → World → Prop
  | 0, listed, a, w => Region.ready md ops listed = [] ∧ Q .normal a w
  | fuel + 1, listed, a, w =>
    (Region.ready md ops listed = [] → Q .normal a w) ∧
    ∀ i ∈ Region.ready md ops listed, wpOp P ops Q i (fun a' w' => (i ∈ fins ∨ S w') ∧ wpAnyF P md ops Q S fins fuel (listed.setIfInBounds i true) a' w') a w
theorem wpAny_of_F {fins : List Nat} : ∀ (fuel : Nat) (listed : Array Bool) (a : Act) (w : World), wpAnyF P md ops Q S fins fuel listed a w → wpAny P md ops Q fuel listed a w
  | 0, _, _, _, h => h
  | fuel + 1, _, _, _, h => ⟨h.1, fun i hi => wpOp_mono (fun a' w' h' => wpAny_of_F fuel _ a' w' h'.2) (h.2 i hi)⟩

/-- What a listed operation waits for is listed. -/
def Closed (md : Region.Mode) (ops : Array Oper) (listed : Array Bool) : Prop :=
  ∀ j oj, ops[j]? = some oj → listed.getD j false = true → ∀ e ∈ oj.after, Region.binds md e = true → listed.getD e.on false = true
theorem Closed.set {i : Nat} {listed : Array Bool} (h : Closed md ops listed) (hi : i ∈ Region.ready md ops listed) : Closed md ops (listed.setIfInBounds i true) := by
  obtain ⟨_, oi, hoi, hall⟩ := mem_ready.1 hi
  intro j oj hj hl e he hb
  by_cases hij : i = j
  · subst hij
    have : oj = oi := Option.some.inj (hj.symm.trans hoi)
    subst this
    exact getD_set_true (hall e he hb)
  · rw [getD_set_ne false hij] at hl
    exact getD_set_true (h j oj hj hl e he hb)
def waitsT (md : Region.Mode) (ops : Array Oper) : Nat → Nat → Nat → Bool
  | 0, _, _ => false
  | f + 1, j, i => Region.waitsFor md ops j i || (List.range ops.size).any fun k => Region.waitsFor md ops j k && waitsT md ops f k i
theorem waitsT_listed {listed : Array Bool} (hc : Closed md ops listed) : ∀ (f j i : Nat), waitsT md ops f j i = true → (∀ oj, ops[j]? = some oj → ∀ e ∈ oj.after, Region.binds md e = true → listed.getD e.on false = true) → listed.getD i false = true
  | 0, _, _, h, _ => by cases h
  | f + 1, j, i, h, hp => by
    simp only [waitsT, Bool.or_eq_true, List.any_eq_true, Bool.and_eq_true] at h
    rcases h with h | ⟨k, _, h1, h2⟩
    · obtain ⟨oj, hoj, e, he, hb, hon⟩ := Region.waitsFor_spec h
      rw [← hon]; exact hp oj hoj e he hb
    · obtain ⟨oj, hoj, e, he, hb, hon⟩ := Region.waitsFor_spec h1
      have hk : listed.getD k false = true := by rw [← hon]; exact hp oj hoj e he hb
      exact waitsT_listed hc f k i h2 fun ok hok e he hb => hc k ok hok hk e he hb

theorem wpAnyF_first {fins : List Nat} {i : Nat} {oi : Oper} {v : Value} (hi : ops[i]? = some oi) (hsel : ∀ (j : Nat) (o : Oper) cs b, ops[j]? = some o → o.op ≠ .select cs b)
    (hQ : ∀ c a w, Q (.panic c) (a.put oi.dst v) w → Q (.panic c) a w) (hnf : i ∉ fins) (hfin : ∀ j ∈ fins, waitsT md ops ops.size j i = true) :
    ∀ (fuel : Nat) (listed : Array Bool) (a : Act) (w : World), Closed md ops listed →
      (∀ j oj, ops[j]? = some oj → j ≠ i → listed.getD j true = false → (∀ e ∈ oj.after, Region.binds md e = true → e.on ≠ i) → oi.apart ops oj = true) →
      i ∈ Region.ready md ops listed → YieldsIf P ops S oi v a → S w →
      wpAnyF P md ops Q S fins fuel (listed.setIfInBounds i true) (a.put oi.dst v) w → wpAnyF P md ops Q S fins (fuel + 1) listed a w := by
  intro fuel
  induction fuel with
  | zero =>
    intro listed a w _ _ hr hy hS H
    refine ⟨fun h => (by rw [h] at hr; cases hr), fun j hj => ?_⟩
    by_cases hji : j = i
    · subst hji; exact hy.wpOp hi hS ⟨.inr hS, H⟩
    · have := ready_mono hj hji
      rw [H.1] at this
      cases this
  | succ fuel ih =>
    intro listed a w hcl hfree hr hy hS H
    refine ⟨fun h => (by rw [h] at hr; cases hr), fun j hj => ?_⟩
    by_cases hji : j = i
    · subst hji; exact hy.wpOp hi hS ⟨.inr hS, H⟩
    · have h1 := H.2 j (ready_mono hj hji)
      obtain ⟨hjun, oj, hoj, hall⟩ := mem_ready.1 hj
      have hnot : ∀ e ∈ oj.after, Region.binds md e = true → e.on ≠ i := fun e he hb heq => by
        have h1 := hall e he hb
        have h0 := (mem_ready.1 hr).1
        rw [heq] at h1
        rcases Nat.lt_or_ge i listed.size with h' | h'
        · simp [h'] at h0 h1; rw [h0] at h1; cases h1
        · simp [Array.getElem?_eq_none h'] at h1
      have hjf : j ∉ fins := fun hf => by
        have h1 := waitsT_listed hcl _ _ _ (hfin j hf) (fun oj' hoj' => by
          have : oj' = oj := Option.some.inj (hoj'.symm.trans hoj)
          subst this
          exact hall)
        rw [getD_both (mem_ready.1 hr).1] at h1
        cases h1
      have h2 := wpOp_putIf hoj (hfree j oj hoj hji hjun hnot) (fun cs b => hsel i oi cs b hi) (fun cs b => hsel j oj cs b hoj) hQ hy h1
      have hfree' : ∀ k ok, ops[k]? = some ok → k ≠ i → (listed.setIfInBounds j true).getD k true = false →
          (∀ e ∈ ok.after, Region.binds md e = true → e.on ≠ i) → oi.apart ops ok = true := fun k ok hk hki hun hno => by
        refine hfree k ok hk hki ?_ hno
        by_cases hjk : j = k
        · subst hjk; exact hjun
        · rw [getD_set_ne true hjk] at hun; exact hun
      refine wpOp_mono (fun a' w' h3 => ⟨.inr (h3.2.1.resolve_left hjf), ih (listed.setIfInBounds j true) a' w' (hcl.set hj) hfree' (ready_mono hr (Ne.symm hji)) h3.1 (h3.2.1.resolve_left hjf) ?_⟩) h2
      rw [Array.setIfInBounds_comm _ _ hji]
      exact h3.2.2

/-- Operations that give a value and enter nothing. -/
def valB : Op → Bool
  | .move _ | .assign _ | .pick .. | .build .. | .load .. | .binOp .. | .unOp .. | .convert .. | .slice .. | .fieldAddr .. | .field .. | .indexAddr .. | .index .. | .extract .. => true
  | .call { callee := .builtin .len, .. } => true
  | _ => false
theorem run_val {x : Sem Value} {w w' : World} {r : Next} (h : ((do pure (Next.value (← x))) : Sem Next).run P w = .ok r w') : ∃ v, r = .value v := by
  rw [Sem.run_bind] at h
  cases hx : x.run P w with
  | ok v w1 => rw [hx] at h; simp only [Result.andThen] at h; exact ⟨v, (Result.ok.inj h).1.symm⟩
  | halt k w1 => rw [hx] at h; simp [Result.andThen] at h
theorem valB_spec {ρ : Operand → Value} {o : Oper} (h : valB o.op = true) {w w' : World} {r : Next} (hr : (execOp ρ o).run P w = .ok r w') : ∃ v, r = .value v := by
  obtain ⟨dst, op, type, pos, after, guard⟩ := o
  cases op <;> simp only [valB, Bool.false_eq_true] at h
  case move => exact ⟨_, (Result.ok.inj hr).1.symm⟩
  case assign => exact ⟨_, (Result.ok.inj hr).1.symm⟩
  case pick c x y =>
    rw [show execOp ρ ⟨dst, .pick c x y, type, pos, after, guard⟩ = (do pure (.value (if ← asBool (ρ c) then ρ x else ρ y))) from rfl, Sem.run_bind] at hr
    cases hx : (asBool (ρ c)).run P w with
    | ok v w1 => rw [hx] at hr; simp only [Result.andThen] at hr; exact ⟨_, (Result.ok.inj hr).1.symm⟩
    | halt k w1 => rw [hx] at hr; simp [Result.andThen] at hr
  case call c =>
    obtain ⟨callee, args, ats⟩ := c
    cases callee with
    | value f => exact Bool.noConfusion h
    | invoke r m => exact Bool.noConfusion h
    | builtin b =>
      cases b
      case len => exact run_val (x := Builtin.len_ ats type (args.map ρ)) hr
      all_goals exact Bool.noConfusion h
  all_goals exact run_val hr

/-- The worlds that meet S. -/
structure At (S : World → Prop) where
  val : World
  ok : S val
/-- The lexical walk of what only reads, then one operation, and so on; behind a final one S need not hold. -/
def wpMix (P : Program) (ops : Array Oper) (S : World → Prop) (Q : Exit → Act → World → Prop) : List (List Oper × Oper × Bool) → Act → World → Prop
  | [], a, w => Q .normal a w
  | (lq, o, true) :: rest, a, w => wpQuiet P ops (fun w' => ∃ e : At S, w' = e.val) (fun a' => wpList P ops (Exit.then (fun a'' w'' => wpMix P ops S Q rest a'' w'') Q) [o] a' w) lq a
  | (lq, o, false) :: rest, a, w => wpQuiet P ops (fun w' => ∃ e : At S, w' = e.val) (fun a' => wpList P ops (Exit.then (fun a'' w'' => S w'' ∧ wpMix P ops S Q rest a'' w'') Q) [o] a' w) lq a

/-- The same by numbers. -/
def mixOf (ops : Array Oper) : List (List Nat × Nat × Bool) → List (List Oper × Oper × Bool) := fun l => l.map fun (lq, i, f) => (lq.map fun j => ops.getD j default, ops.getD i default, f)

def quietB (md : Region.Mode) (ops : Array Oper) (fins : List Nat) : List Nat → Array Bool → Option (Array Bool)
  | [], listed => some listed
  | i :: rest, listed =>
    if (Region.ready md ops listed).contains i && Region.free md ops listed i && decide (i ∉ fins) && fins.all (fun j => waitsT md ops ops.size j i) && valB (ops.getD i default).op && decide (i < ops.size) then quietB md ops fins rest (listed.setIfInBounds i true) else none
def mixB (md : Region.Mode) (ops : Array Oper) (fins : List Nat) : List (List Nat × Nat × Bool) → Array Bool → Bool
  | [], listed => (Region.ready md ops listed).isEmpty
  | (lq, i, f) :: rest, listed =>
    match quietB md ops fins lq listed with
    | none => false
    | some listed' => decide (Region.ready md ops listed' = [i]) && (f == fins.contains i) && (!f || lq.isEmpty && rest.all (fun x => x.2.2 && x.1.isEmpty)) && decide (i < ops.size) && mixB md ops fins rest (listed'.setIfInBounds i true)
def mixFuel : List (List Nat × Nat × Bool) → Nat
  | [] => 0
  | (lq, _, _) :: rest => lq.length + 1 + mixFuel rest

theorem quiet_yields {o : Oper} {a : Act} {K : Act → Prop} (hv : valB o.op = true) (h : o.quiet P a (fun w' => ∃ e : At S, w' = e.val) K) (hw : Region.wanted o (yielded ops a.tmps) = true) :
    ∃ v, YieldsIf P ops S o v a ∧ K (a.put o.dst v) := by
  obtain ⟨v, h1, h2⟩ := h
  refine ⟨v, .inl ⟨hw, fun w' hS' => ?_⟩, h2⟩
  have h3 := h1 w' ⟨⟨w', hS'⟩, rfl⟩
  unfold Oper.quietAt at h3
  cases hr : (execOp a.eval o).run P w' with
  | halt k w1 => rw [hr] at h3; simp only [Oper.quietUpon] at h3
  | ok r w1 =>
    obtain ⟨u, rfl⟩ := valB_spec hv hr
    rw [hr] at h3
    simp only [Oper.quietUpon] at h3
    rw [h3.1, h3.2]

theorem wpOp_of_list {i : Nat} {o : Oper} {K : Act → World → Prop} {a : Act} {w : World} (ho : ops[i]? = some o) (h : wpList P ops (Exit.then K Q) [o] a w) : wpOp P ops Q i K a w := by
  unfold wpOp
  simp only [ho]
  unfold wpList at h
  split
  · rename_i hw
    simp only [hw, if_true] at h
    rcases h with h | h
    · refine .inl ?_
      unfold Oper.wp at *
      generalize (execOp a.eval o).run P w = r at *
      cases r with
      | ok n w' =>
        cases n
        case enter f args => exact Calls.mono h fun e w'' he => by cases e <;> exact he
        case row row args => exact Rows.mono h fun _ _ he => he
        all_goals exact h
      | halt x w' => cases x <;> exact h
    · exact .inr h
  · rename_i hw
    simp only [hw] at h
    exact h

theorem quiet_run {fins : List Nat} (hs : Region.noSelect ops = true) (hQ : ∀ c a d v w, Q (.panic c) (Act.put a d v) w → Q (.panic c) a w) {K : Act → Prop} {w : World} (hS : S w) {fuel : Nat} :
    ∀ (lq : List Nat) (listed listed' : Array Bool) (a : Act), Closed md ops listed → quietB md ops fins lq listed = some listed' → wpQuiet P ops (fun w' => ∃ e : At S, w' = e.val) K (lq.map fun j => ops.getD j default) a →
      (∀ a', Closed md ops listed' → K a' → wpAnyF P md ops Q S fins fuel listed' a' w) → wpAnyF P md ops Q S fins (lq.length + fuel) listed a w
  | [], listed, listed', a, hcl, hB, h, hK => by
    simp only [quietB, Option.some.injEq] at hB
    subst hB
    rw [List.length_nil, Nat.zero_add]
    exact hK a hcl h
  | i :: lq, listed, listed', a, hcl, hB, h, hK => by
    simp only [quietB] at hB
    split at hB
    case isFalse => cases hB
    rename_i hc
    simp only [Bool.and_eq_true, decide_eq_true_eq, List.all_eq_true] at hc
    obtain ⟨⟨⟨⟨⟨h1, h2⟩, h3⟩, h4⟩, h5⟩, h6⟩ := hc
    have ho : ops[i]? = some (ops.getD i default) := by simp [Array.getD, h6]
    rw [show (i :: lq).length + fuel = (lq.length + fuel) + 1 by simp; omega]
    by_cases hw : Region.wanted (ops.getD i default) (yielded ops a.tmps) = true
    · have h7 : (ops.getD i default).quiet P a (fun w' => ∃ e : At S, w' = e.val) (wpQuiet P ops (fun w' => ∃ e : At S, w' = e.val) K (lq.map fun j => ops.getD j default)) := by
        simp only [List.map_cons, wpQuiet, hw, if_true] at h
        exact h
      obtain ⟨v, hy, hn⟩ := quiet_yields (ops := ops) h5 h7 hw
      exact wpAnyF_first ho (Region.noSelect_spec hs) (fun c a w => hQ c a _ _ w) h3 h4 _ listed a w hcl (Region.free_spec ho h2) (by simpa using h1) hy hS
        (quiet_run hs hQ hS lq _ _ _ (hcl.set (by simpa using h1)) hB hn hK)
    · have h7 : wpQuiet P ops (fun w' => ∃ e : At S, w' = e.val) K (lq.map fun j => ops.getD j default) (a.put (ops.getD i default).dst undef) := by
        simp only [List.map_cons, wpQuiet, hw] at h
        exact h
      exact wpAnyF_first ho (Region.noSelect_spec hs) (fun c a w => hQ c a _ _ w) h3 h4 _ listed a w hcl (Region.free_spec ho h2) (by simpa using h1) (.inr ⟨by simpa using hw, rfl⟩) hS
        (quiet_run hs hQ hS lq _ _ _ (hcl.set (by simpa using h1)) hB h7 hK)

theorem mix_run {fins : List Nat} (hs : Region.noSelect ops = true) (hQ : ∀ c a d v w, Q (.panic c) (Act.put a d v) w → Q (.panic c) a w) :
    ∀ (l : List (List Nat × Nat × Bool)) (listed : Array Bool) (a : Act) (w : World), Closed md ops listed → mixB md ops fins l listed = true → (S w ∨ l.all (fun x => x.2.2 && x.1.isEmpty) = true) →
      wpMix P ops S Q (mixOf ops l) a w → wpAnyF P md ops Q S fins (mixFuel l) listed a w
  | [], listed, a, w, _, hB, _, h => ⟨by simpa [mixB] using hB, h⟩
  | (lq, i, f) :: rest, listed, a, w, hcl, hB, hS, h => by
    simp only [mixB] at hB
    split at hB
    case h_1 => cases hB
    rename_i listed' hq
    simp only [Bool.and_eq_true, decide_eq_true_eq, beq_iff_eq] at hB
    obtain ⟨⟨⟨⟨h1, h2⟩, h3⟩, h4⟩, h5⟩ := hB
    have ho : ops[i]? = some (ops.getD i default) := by simp [Array.getD, h4]
    have step : ∀ (K : Act → World → Prop) (a' : Act) (w1 : World), wpList P ops (Exit.then K Q) [ops.getD i default] a' w1 → (∀ a'' w'', K a'' w'' → (i ∈ fins ∨ S w'') ∧ wpAnyF P md ops Q S fins (mixFuel rest) (listed'.setIfInBounds i true) a'' w'') →
        wpAnyF P md ops Q S fins (mixFuel rest + 1) listed' a' w1 := fun K a' w1 hl hK => by
      refine ⟨fun h0 => (by rw [h1] at h0; cases h0), fun j hj => ?_⟩
      rw [h1, List.mem_singleton] at hj
      subst hj
      exact wpOp_mono (fun a'' w'' hk => hK a'' w'' hk) (wpOp_of_list ho hl)
    have hfu : mixFuel ((lq, i, f) :: rest) = lq.length + (mixFuel rest + 1) := by simp only [mixFuel]; omega
    rw [hfu]
    cases f with
    | false =>
      have hS1 : S w := by
        rcases hS with hS | hS
        · exact hS
        · simp at hS
      simp only [mixOf, List.map_cons, wpMix] at h
      exact quiet_run hs hQ hS1 lq listed listed' a hcl hq h fun a' hcl' hl => step _ a' w hl fun a'' w'' ⟨hs2, hm⟩ => ⟨.inr hs2, mix_run hs hQ rest _ a'' w'' (hcl'.set (by rw [h1]; exact List.mem_singleton.2 rfl)) h5 (.inl hs2) hm⟩
    | true =>
      have hif : i ∈ fins := by simpa using h2.symm
      simp only [Bool.not_true, Bool.false_or, Bool.and_eq_true, List.isEmpty_iff] at h3
      obtain ⟨rfl, hr⟩ := h3
      simp only [quietB, Option.some.injEq] at hq
      subst hq
      simp only [mixOf, List.map_cons, List.map_nil, wpMix, wpQuiet] at h
      rw [List.length_nil, Nat.zero_add]
      exact step _ a w h fun a'' w'' hm => ⟨.inl hif, mix_run hs hQ rest _ a'' w'' (hcl.set (by rw [h1]; exact List.mem_singleton.2 rfl)) h5 (.inr hr) hm⟩

/-- THE RULE. l: of each step the numbers of what only reads, taken first; then a call, a store ..; the final ones marked 'true'. -/
theorem wp_region_mix {id : Nat} {a : Act} {w : World} (S : World → Prop) (fins : List Nat) (l : List (List Nat × Nat × Bool)) (hm : P.follows .mixedOrders = true)
    (hB : (Region.noSelect ops && mixB .any ops fins l (Array.replicate ops.size false) && decide (mixFuel l = ops.size)) = true) (hQ : ∀ c a d v w, Q (.panic c) (Act.put a d v) w → Q (.panic c) a w) (hS : S w.drew)
    (h : wpMix P ops S Q (mixOf ops l) a w.drew) : (Code.region id ops true).wp P Q a w := by
  simp only [Bool.and_eq_true, decide_eq_true_eq] at hB
  refine wp_region_any hm (wpAny_of_F (S := S) (fins := fins) _ _ _ _ ?_)
  rw [← hB.2]
  exact mix_run hB.1.1 hQ l _ a _ (fun j oj _ hl => by rw [getD_replicate_false] at hl; cases hl) (by rw [hB.2]; exact hB.1.2) (.inl hS) h
end

/-- S: nothing that was there has changed. -/
def Old (W : World) (w' : World) : Prop := Below W.heap.size W w'
instance (W : World) : Nonempty (At (Old W)) := ⟨⟨W, Below.refl _ _⟩⟩
theorem At.cell {W : World} (x : At (Old W)) {a : Addr} {v : Value} (h : W.cell? a = some v) : x.val.cell? a = some v := below_cell x.ok h
theorem Old.cell' {W w : World} (x : Old W w) {a : Addr} {v : Value} (h : W.cell? a = some v) : w.cell? a = some v := below_cell x h
theorem Old.drew (W : World) : Old W W.drew := Below.drew (Below.refl _ _)
theorem Old.step {W w w' : World} (h : Old W w) (hb : Below w.heap.size w w') : Old W w' := below_step h hb
end Go.Proofs.Ytafhjfkdlmijdaa
