/- Insertion from the right, and that the library's insertion sort is it. No program in sight. -/
import Derived.Test.YtafhjfkdlmijdaaOwn
import Derived.Sort.Defs
namespace Go.Proofs.Ytafhjfkdlmijdaa
open Go.RowKit

def insRev {α : Type} (lt : α → α → Bool) (x : α) : List α → List α
  | [] => [x]
  | y :: ys => if lt x y then y :: insRev lt x ys else x :: y :: ys
/-- x, from the right, ahead of all that it is less than. -/
def insR {α : Type} (lt : α → α → Bool) (x : α) (l : List α) : List α := (insRev lt x l.reverse).reverse
def sortD {α : Type} (lt : α → α → Bool) (l : List α) : List α := l.foldl (fun acc x => insR lt x acc) []
theorem insR_nil {α : Type} (lt : α → α → Bool) (x : α) : insR lt x [] = [x] := rfl
theorem insR_snoc {α : Type} (lt : α → α → Bool) (x y : α) (l : List α) : insR lt x (l ++ [y]) = if lt x y then insR lt x l ++ [y] else l ++ [y, x] := by
  unfold insR
  rw [List.reverse_append]
  simp only [List.reverse_cons, List.reverse_nil, List.nil_append, List.cons_append, insRev]
  split <;> simp
theorem insRev_len {α : Type} (lt : α → α → Bool) (x : α) : ∀ l : List α, (insRev lt x l).length = l.length + 1
  | [] => rfl
  | y :: ys => by unfold insRev; split <;> simp [insRev_len lt x ys]
theorem insR_len {α : Type} (lt : α → α → Bool) (x : α) (l : List α) : (insR lt x l).length = l.length + 1 := by unfold insR; rw [List.length_reverse, insRev_len, List.length_reverse]
theorem insRev_mem {α : Type} (lt : α → α → Bool) (x z : α) : ∀ l : List α, z ∈ insRev lt x l ↔ z = x ∨ z ∈ l
  | [] => by simp [insRev]
  | y :: ys => by unfold insRev; split <;> simp [insRev_mem lt x z ys]; grind
theorem insR_mem {α : Type} (lt : α → α → Bool) (x z : α) (l : List α) : z ∈ insR lt x l ↔ z = x ∨ z ∈ l := by unfold insR; rw [List.mem_reverse, insRev_mem, List.mem_reverse]
theorem foldR_len {α : Type} (lt : α → α → Bool) : ∀ (l acc : List α), (l.foldl (fun acc x => insR lt x acc) acc).length = acc.length + l.length
  | [], acc => rfl
  | y :: l, acc => by rw [List.foldl_cons, foldR_len lt l, insR_len, List.length_cons]; omega
theorem foldR_mem {α : Type} (lt : α → α → Bool) (z : α) : ∀ (l acc : List α), z ∈ l.foldl (fun acc x => insR lt x acc) acc ↔ z ∈ acc ∨ z ∈ l
  | [], acc => by simp
  | y :: l, acc => by rw [List.foldl_cons, foldR_mem lt z l, insR_mem, List.mem_cons]; grind
theorem sortD_len {α : Type} (lt : α → α → Bool) (l : List α) : (sortD lt l).length = l.length := by unfold sortD; rw [foldR_len]; simp
theorem sortD_mem {α : Type} (lt : α → α → Bool) (z : α) (l : List α) : z ∈ sortD lt l ↔ z ∈ l := by unfold sortD; rw [foldR_mem]; simp
theorem insRev_map {α β : Type} (f : α → β) {lt : α → α → Bool} {lt' : β → β → Bool} (h : ∀ x y, lt' (f x) (f y) = lt x y) (x : α) : ∀ l : List α, (insRev lt x l).map f = insRev lt' (f x) (l.map f)
  | [] => rfl
  | y :: ys => by
    rw [List.map_cons]
    unfold insRev
    rw [h]
    split <;> simp [insRev_map f h x ys]
theorem insR_map {α β : Type} (f : α → β) {lt : α → α → Bool} {lt' : β → β → Bool} (h : ∀ x y, lt' (f x) (f y) = lt x y) (x : α) (l : List α) : (insR lt x l).map f = insR lt' (f x) (l.map f) := by
  unfold insR; rw [List.map_reverse, insRev_map f h, List.map_reverse]
theorem sortD_map {α β : Type} (f : α → β) {lt : α → α → Bool} {lt' : β → β → Bool} (h : ∀ x y, lt' (f x) (f y) = lt x y) (l : List α) : (sortD lt l).map f = sortD lt' (l.map f) := by
  unfold sortD
  suffices ∀ acc : List α, (l.foldl (fun acc x => insR lt x acc) acc).map f = (l.map f).foldl (fun acc x => insR lt' x acc) (acc.map f) from this []
  induction l with
  | nil => intro acc; rfl
  | cons y l ih => intro acc; rw [List.foldl_cons, ih, insR_map f h]; rfl

section
variable {α : Type} [Inhabited α]
theorem inner_list (lt : α → α → Bool) (x : α) : ∀ (n : Nat) (P R : List α), P.length = n → Sort.insInner lt 0 n (P ++ x :: R).toArray = (insR lt x P ++ R).toArray
  | 0, P, R, h => by
    obtain rfl := List.eq_nil_of_length_eq_zero h
    rfl
  | n + 1, P, R, h => by
    obtain ⟨P', y, rfl⟩ : ∃ P' y, P = P' ++ [y] := ⟨P.dropLast, P.getLast (by intro e; rw [e] at h; cases h), (List.dropLast_concat_getLast _).symm⟩
    have hl : P'.length = n := by simpa using h
    unfold Sort.insInner
    have e1 : ((P' ++ [y] ++ x :: R).toArray)[n + 1]! = x := by
      rw [List.getElem!_toArray, List.getElem!_eq_getElem?_getD, List.append_assoc, List.getElem?_append_right (by omega)]
      rw [show n + 1 - P'.length = 1 by omega]; rfl
    have e2 : ((P' ++ [y] ++ x :: R).toArray)[n]! = y := by
      rw [List.getElem!_toArray, List.getElem!_eq_getElem?_getD, List.append_assoc, List.getElem?_append_right (by omega)]
      rw [show n - P'.length = 0 by omega]; rfl
    rw [e1, e2, insR_snoc]
    cases hlt : lt x y
    · simp
    · simp only [Nat.zero_lt_succ, decide_true, Bool.true_and, if_true, gt_iff_lt]
      have e3 : Sort.swp (P' ++ [y] ++ x :: R).toArray (n + 1) n = (P' ++ x :: (y :: R)).toArray := by
        unfold Sort.swp
        rw [e1, e2]
        apply Array.ext'
        simp only [Array.toList_setIfInBounds]
        subst hl
        rw [List.append_assoc, List.set_append_right _ _ (by omega), List.set_append_right _ _ (by omega)]
        simp
      rw [e3, inner_list lt x n P' (y :: R) hl]
      simp
theorem outer_list (lt : α → α → Bool) : ∀ (R S : List α), Sort.insOuter lt 0 (S.length + R.length) S.length (S ++ R).toArray = (R.foldl (fun acc y => insR lt y acc) S).toArray
  | [], S => by
    unfold Sort.insOuter
    rw [if_neg (by simp)]; simp
  | y :: R, S => by
    unfold Sort.insOuter
    rw [if_pos (by simp), inner_list lt y S.length S R rfl]
    have := outer_list lt R (insR lt y S)
    rw [insR_len] at this
    rw [List.foldl_cons, ← this, List.length_cons]
    congr 1; omega
theorem sort_list (lt : α → α → Bool) (l : List α) : Sort.insertionSort lt l.toArray 0 l.length = (sortD lt l).toArray := by
  unfold Sort.insertionSort
  cases l with
  | nil => unfold Sort.insOuter; rfl
  | cons x l =>
    have := outer_list lt l [x]
    simp only [List.length_cons, List.length_nil, Nat.zero_add, List.cons_append, List.nil_append] at this ⊢
    rw [Nat.add_comm l.length 1, this]
    rfl
end
end Go.Proofs.Ytafhjfkdlmijdaa
