/- What wharfagelaw11.Make makes may be. No program in sight. -/
import Derived.Test.YtafhjfkdlmijdaaGc
import Derived.Test.YtafhjfkdlmijdaaGb
namespace Go.Proofs.Ytafhjfkdlmijdaa
open Go.RowKit

structure SmallWf (x : SmallD) : Prop where
  fin : wf8 x.fin
  trucks : wf8 x.trucks
  troom : wf8 x.troom
  bikes : wf8 x.bikes
  broom : wf8 x.broom
  sats : ∀ s ∈ x.sats, wf8 s.room ∧ wf8 s.hold
  custs : ∀ c ∈ x.custs, wf8 c.load ∧ wf8 c.opn ∧ wf8 c.wide ∧ wf8 c.stay
theorem small_wf {w : World} {F : Nat → Prop} {x : SmallD} {cs : List Value} (h : smallS.rep w F x cs) : SmallWf x := by
  obtain ⟨_, _, _, _, rfl, h0, h1, h2, -, -⟩ := h
  obtain ⟨_, _, _, _, -, -, -, -, -, -, hs⟩ := lsats_open h1
  obtain ⟨_, _, _, _, -, -, -, -, -, -, hc⟩ := lwhos_open h2
  exact ⟨h0.1, h0.2.1, h0.2.2.1, h0.2.2.2.1, h0.2.2.2.2, hs, hc⟩
theorem wide_bd (x : SmallD) : wideOf x = 1 ∨ wideOf x = 9 := by unfold wideOf; split <;> simp
theorem rowSt_cell (l : List Int) (n i k0 : Nat) : ∀ m j : Nat, 0 ≤ (rowSt l n i k0 m).1.getD j 0 ∧ (rowSt l n i k0 m).1.getD j 0 ≤ 29 ∧ (i = j → (rowSt l n i k0 m).1.getD j 0 = 0)
  | 0, j => by
    have : (List.replicate n (0 : Int)).getD j 0 = 0 := by rw [List.getD_eq_getElem?_getD, List.getElem?_replicate]; split <;> rfl
    show 0 ≤ (List.replicate n (0 : Int)).getD j 0 ∧ (List.replicate n (0 : Int)).getD j 0 ≤ 29 ∧ (i = j → (List.replicate n (0 : Int)).getD j 0 = 0)
    rw [this]; simp
  | m + 1, j => by
    have ih := rowSt_cell l n i k0 m j
    simp only [rowSt]
    split
    · rename_i hc
      simp only [List.getD_eq_getElem?_getD, List.getElem?_set] at ih ⊢
      split
      · rename_i e
        split
        · simp only [Option.getD_some]
          refine ⟨by omega, by omega, fun h => absurd (h.trans e.symm) hc.1⟩
        · simp
      · exact ih
    · exact ih
theorem sqSt_row (l : List Int) (n : Nat) : ∀ i j (h : j < (sqSt l n i).1.length), ((sqSt l n i).1[j]).length = n ∧ ∀ k, 0 ≤ ((sqSt l n i).1[j]).getD k 0 ∧ ((sqSt l n i).1[j]).getD k 0 ≤ 29 ∧ (j = k → ((sqSt l n i).1[j]).getD k 0 = 0)
  | 0, j, h => by simp [sqSt] at h
  | i + 1, j, h => by
    have hl := sqSt_len l n i
    by_cases hj : j < i
    · have e : (sqSt l n (i + 1)).1[j] = (sqSt l n i).1[j]'(by omega) := by
        simp only [sqSt]; rw [List.getElem_append_left (by omega)]
      rw [e]; exact sqSt_row l n i j _
    · have hji : j = i := by rw [sqSt_len] at h; omega
      subst hji
      have e : (sqSt l n (j + 1)).1[j] = (rowSt l n j (sqSt l n j).2 n).1 := by
        simp only [sqSt]; rw [List.getElem_append_right (by omega)]; simp [hl]
      rw [e]
      exact ⟨rowSt_len _ _ _ _ _, fun k => rowSt_cell l n j _ n k⟩
theorem square_good (l : List Int) (n : Nat) : squareB (square11 l n) (n : Int) = true ∧ matB (square11 l n) (square11 l n).length = true := by
  have hl : (square11 l n).length = n := by unfold square11; exact sqSt_len l n n
  refine ⟨?_, ?_⟩
  · simp only [squareB, Bool.and_eq_true, beq_iff_eq, Bool.not_eq_true', List.any_eq_false, bne_iff_ne, ne_eq, Decidable.not_not]
    refine ⟨by rw [hl], fun r hr => ?_⟩
    obtain ⟨j, hj, rfl⟩ := List.getElem_of_mem hr
    rw [show ((square11 l n)[j]).length = n from (sqSt_row l n n j hj).1]
  · simp only [matB, List.all_eq_true, List.mem_range]
    intro i hi
    rw [List.getD_eq_getElem?_getD, List.getElem?_eq_getElem hi]
    simp only [rowB, Option.getD_some, List.all_eq_true, List.mem_range]
    intro k _
    have h := (sqSt_row l n n i hi).2 k
    simp only [cellB, mayB, Bool.and_eq_true, decide_eq_true_eq, Bool.or_eq_true, bne_iff_ne, ne_eq, beq_iff_eq]
    refine ⟨⟨h.1, by have := h.2.1; show ((sqSt l n n).1[i]).getD k 0 ≤ _; omega⟩, ?_⟩
    by_cases e : i = k
    · exact .inr (h.2.2 e)
    · left; omega
theorem sat_may {x : SmallD} (h : SmallWf x) : ∀ s ∈ satsOf x, (0 ≤ s.room ∧ s.room ≤ 1000) ∧ 0 ≤ s.hold ∧ s.hold ≤ 1000 := by
  intro s hs
  have hw := wide_bd x
  unfold satsOf at hs
  split at hs
  · simp at hs; subst hs; simp
  · unfold satsUp at hs
    obtain ⟨t, ht, rfl⟩ := List.mem_map.1 hs
    have := h.sats t (List.mem_of_mem_take (List.mem_of_mem_take ht))
    unfold wf8 at this
    unfold satOf
    rcases hw with e | e <;> rw [e] <;> simp only [] <;> omega
theorem cust_may {x : SmallD} (h : SmallWf x) : ∀ c ∈ custsOf x, (1 ≤ c.load ∧ c.load ≤ 1000) ∧ (0 ≤ c.opn ∧ c.opn ≤ 1000) ∧ (c.opn ≤ c.cls ∧ c.cls ≤ 10000) ∧ 0 ≤ c.stay ∧ c.stay ≤ 1000 := by
  intro s hs
  have hw := wide_bd x
  unfold custsOf at hs
  split at hs
  · simp at hs; subst hs; simp
  · unfold custsUp at hs
    obtain ⟨t, ht, rfl⟩ := List.mem_map.1 hs
    have := h.custs t (List.mem_of_mem_take (List.mem_of_mem_take ht))
    unfold wf8 at this
    unfold custOf loadOf
    rcases hw with e | e <;> rw [e] <;> simp only [] <;> split <;> omega
theorem may_of {n l : Int} (h : l ≤ n) (h2 : n ≤ 1000000000) : mayB n l = true := by simp [mayB, h, h2]
theorem make_check {x : SmallD} (h : SmallWf x) : check (makeD x) = 0 := by
  have hw := wide_bd x
  have h0 := h.fin
  have h1 := h.trucks
  have h2 := h.troom
  have h3 := h.bikes
  have h4 := h.broom
  unfold wf8 at h0 h1 h2 h3 h4
  have hs := satsOf_len x
  have hc := custsOf_len x
  have hcount : countB (makeD x) = true := by
    show (manyB (1 + x.trucks % 4) 60 && manyB (1 + x.bikes % 6) 60 && manyB (satsOf x).length 12 && manyB (custsOf x).length 48) = true
    simp only [manyB, Bool.and_eq_true, decide_eq_true_eq]; omega
  have hsize : sizeB (makeD x) = true := by
    have e : nodes (makeD x) = nodesOf x := rfl
    simp only [sizeB, e, Bool.and_eq_true]
    exact ⟨(square_good _ _).1, (square_good _ _).1⟩
  have hnum : numbersB (makeD x) = true := by
    simp only [numbersB, headB, Bool.and_eq_true, List.all_eq_true]
    refine ⟨⟨⟨⟨⟨⟨?_, ?_⟩, ?_⟩, fun s hs => ?_⟩, fun c hc => ?_⟩, (square_good _ _).2⟩, (square_good _ _).2⟩
    · refine may_of ?_ ?_ <;> simp only [makeD] <;> rcases hw with e | e <;> rw [e] <;> omega
    · refine may_of ?_ ?_ <;> simp only [makeD] <;> rcases hw with e | e <;> rw [e] <;> omega
    · refine may_of ?_ ?_ <;> simp only [makeD] <;> rcases hw with e | e <;> rw [e] <;> omega
    · have := sat_may h s hs
      simp only [satB, Bool.and_eq_true]; exact ⟨may_of (by omega) (by omega), may_of (by omega) (by omega)⟩
    · have := cust_may h c hc
      simp only [custB, Bool.and_eq_true]; exact ⟨⟨⟨may_of (by omega) (by omega), may_of (by omega) (by omega)⟩, may_of (by omega) (by omega)⟩, may_of (by omega) (by omega)⟩
  unfold check
  rw [hcount, hsize, hnum]; rfl
theorem make_wf {x : SmallD} (h : SmallWf x) : InstWf (makeD x) := by
  have g := good_of (make_check h)
  have hn := nodesOf_le x
  have e : nodes (makeD x) = nodesOf x := rfl
  refine ⟨?_, fun s hs => ?_, fun c hc => ?_, fun r hr => ?_, fun r hr => ?_⟩
  · have h1 := g.fin; have h2 := g.tmany; have h3 := g.troom; have h4 := g.bmany; have h5 := g.broom
    unfold wf64; omega
  · have := g.sat s hs; unfold wf64; omega
  · have := g.cust c hc; unfold wf64; omega
  · exact ⟨by rw [g.costR r hr]; unfold maxLen; omega, fun v hv => by have := g.cost r hr v hv; unfold wf64; omega⟩
  · exact ⟨by rw [g.timeR r hr]; unfold maxLen; omega, fun v hv => by have := g.time r hr v hv; unfold wf64; omega⟩
end Go.Proofs.Ytafhjfkdlmijdaa
