/- The law's order, crosswise, is haul.Order's, by floats. No program in sight. -/
import Derived.Test.YtafhjfkdlmijdaaOrder
import Derived.Test.YtafhjfkdlmijdaaRatio
namespace Go.Proofs.Ytafhjfkdlmijdaa
open Go.RowKit

theorem insRev_congr {α : Type} {lt lt' : α → α → Bool} {x : α} : ∀ {l : List α}, (∀ y ∈ l, lt x y = lt' x y) → insRev lt x l = insRev lt' x l
  | [], _ => rfl
  | y :: ys, h => by
    unfold insRev
    rw [h y (List.mem_cons_self ..), insRev_congr (fun z hz => h z (List.mem_cons_of_mem _ hz))]
theorem insR_congr {α : Type} {lt lt' : α → α → Bool} {x : α} {l : List α} (h : ∀ y ∈ l, lt x y = lt' x y) : insR lt x l = insR lt' x l := by
  unfold insR; rw [insRev_congr (fun y hy => h y (List.mem_reverse.1 hy))]
theorem foldR_congr {α : Type} {lt lt' : α → α → Bool} : ∀ (l acc : List α), (∀ a ∈ l, ∀ b, b ∈ acc ∨ b ∈ l → lt a b = lt' a b) → l.foldl (fun acc x => insR lt x acc) acc = l.foldl (fun acc x => insR lt' x acc) acc
  | [], _, _ => rfl
  | y :: l, acc, h => by
    rw [List.foldl_cons, List.foldl_cons, insR_congr (fun z hz => h y (List.mem_cons_self ..) z (.inl hz))]
    refine foldR_congr l _ fun a ha b hb => h a (List.mem_cons_of_mem _ ha) b ?_
    rcases hb with hb | hb
    · rcases (insR_mem _ _ _ _).1 hb with rfl | hb
      · exact .inr (List.mem_cons_self ..)
      · exact .inl hb
    · exact .inr (List.mem_cons_of_mem _ hb)
theorem sortD_congr {α : Type} {lt lt' : α → α → Bool} {l : List α} (h : ∀ a ∈ l, ∀ b ∈ l, lt a b = lt' a b) : sortD lt l = sortD lt' l :=
  foldR_congr l [] fun a ha b hb => h a ha b (hb.resolve_left (fun h => by cases h))
theorem sortD_snoc {α : Type} (lt : α → α → Bool) (l : List α) (x : α) : sortD lt (l ++ [x]) = insR lt x (sortD lt l) := by unfold sortD; rw [List.foldl_append]; rfl
theorem insR_all {α : Type} {lt : α → α → Bool} {x : α} (A : List α) : ∀ (n : Nat) (B : List α), B.length = n → (∀ y ∈ B, lt x y = true) → insR lt x (A ++ B) = insR lt x A ++ B
  | 0, B, hn, _ => by
    obtain rfl := List.eq_nil_of_length_eq_zero hn
    simp
  | n + 1, B, hn, h => by
    obtain ⟨B', y, rfl⟩ : ∃ B' y, B = B' ++ [y] := ⟨B.dropLast, B.getLast (by intro e; rw [e] at hn; cases hn), (List.dropLast_concat_getLast _).symm⟩
    rw [← List.append_assoc, insR_snoc, if_pos (h y (by simp)), insR_all A n B' (by simpa using hn) (fun z hz => h z (by simp [hz])), List.append_assoc]
/-- Where the search from the right stops, there it comes. -/
theorem insR_at {α : Type} {lt : α → α → Bool} {x : α} {l : List α} {k : Nat} (hk : k ≤ l.length) (h1 : ∀ j (h : j < l.length), k ≤ j → lt x l[j] = true) (h2 : ∀ (h : k - 1 < l.length), 0 < k → lt x l[k - 1] = false) :
    insR lt x l = l.take k ++ x :: l.drop k := by
  have e : l = l.take k ++ l.drop k := (List.take_append_drop k l).symm
  have hB : ∀ y ∈ l.drop k, lt x y = true := fun y hy => by
    obtain ⟨i, hi, rfl⟩ := List.getElem_of_mem hy
    rw [List.getElem_drop]
    exact h1 _ (by rw [List.length_drop] at hi; omega) (Nat.le_add_right _ _)
  conv => lhs; rw [e]
  rw [insR_all _ _ _ rfl hB]
  have hA : insR lt x (l.take k) = l.take k ++ [x] := by
    by_cases h0 : k = 0
    · subst h0; simp [insR_nil]
    · have hlt : k - 1 < l.length := by omega
      have e2 : l.take k = l.take (k - 1) ++ [l[k - 1]] := by
        conv => lhs; rw [show k = k - 1 + 1 by omega]
        rw [List.take_add_one, List.getElem?_eq_getElem hlt]; rfl
      rw [e2, insR_snoc, h2 hlt (by omega)]
      simp only [Bool.false_eq_true, if_false, List.append_assoc, List.cons_append, List.nil_append]
  rw [hA, List.append_assoc]; rfl

/-- The law's comparison: crosswise, in whole numbers. -/
def ltW (x : InstD) (l : List Int) (a b : Nat) : Bool := decide (costAt x 0 (1 + a) * l.getD b 0 < costAt x 0 (1 + b) * l.getD a 0)
def orderW (x : InstD) (l : List Int) (k : Nat) : List Nat := sortD (ltW x l) (idxs l k)
theorem orderW_no {x : InstD} {l : List Int} {k : Nat} (h : ¬ 0 < l.getD k 0) : orderW x l (k + 1) = orderW x l k := by unfold orderW; rw [idxs_no h]
theorem orderW_yes {x : InstD} {l : List Int} {k : Nat} (h : 0 < l.getD k 0) : orderW x l (k + 1) = insR (ltW x l) k (orderW x l k) := by unfold orderW; rw [idxs_yes h, sortD_snoc]
theorem orderW_lt {x : InstD} {l : List Int} {k i : Nat} (h : i ∈ orderW x l k) : i < k := idxs_lt ((sortD_mem _ _ _).1 h)
theorem orderW_len (x : InstD) (l : List Int) (k : Nat) : (orderW x l k).length ≤ k := by unfold orderW; rw [sortD_len]; exact idxs_len l k
theorem keysUp_at {x : InstD} {l : List Int} {i : Nat} (hi : i ∈ idxs l l.length) : (keysUp x l l.length).getD i 0 = ratioF (costAt x 0 (1 + i)) (l.getD i 0) := by
  have h1 := idxs_lt hi
  have h2 : 0 < l.getD i 0 := by unfold idxs at hi; exact of_decide_eq_true (List.mem_filter.1 hi).2
  rw [List.getD_eq_getElem?_getD, List.getElem?_eq_getElem (by rw [keysUp_len]; exact h1), Option.getD_some]
  simp only [keysUp, List.getElem_map, List.getElem_range]
  rw [if_pos ⟨h1, h2⟩]
theorem order_law {x : InstD} {l : List Int} (hck : check x = 0) (hl : l.length = x.sats.length) (hc : ∀ k, 0 ≤ costAt x 0 k ∧ costAt x 0 k < 30) (hb : ∀ v ∈ l, v ≤ 255) : orderD x l = orderW x l l.length := by
  unfold orderD orderW
  rw [if_pos ⟨hck, hl⟩]
  refine sortD_congr fun a ha b hbb => ?_
  unfold ltK ltW
  rw [keysUp_at ha, keysUp_at hbb]
  have pos : ∀ i ∈ idxs l l.length, 0 < l.getD i 0 ∧ l.getD i 0 ≤ 255 := fun i hi => by
    refine ⟨by unfold idxs at hi; exact of_decide_eq_true (List.mem_filter.1 hi).2, ?_⟩
    rw [List.getD_eq_getElem?_getD, List.getElem?_eq_getElem (idxs_lt hi)]
    exact hb _ (List.getElem_mem _)
  have pa := pos a ha
  have pb := pos b hbb
  have ca := hc (1 + a)
  have cb := hc (1 + b)
  generalize costAt x 0 (1 + a) = p at *
  generalize costAt x 0 (1 + b) = q at *
  generalize l.getD a 0 = n at *
  generalize l.getD b 0 = m at *
  obtain ⟨p', rfl⟩ := Int.eq_ofNat_of_zero_le ca.1
  obtain ⟨q', rfl⟩ := Int.eq_ofNat_of_zero_le cb.1
  obtain ⟨n', rfl⟩ := Int.eq_ofNat_of_zero_le (by omega : 0 ≤ n)
  obtain ⟨m', rfl⟩ := Int.eq_ofNat_of_zero_le (by omega : 0 ≤ m)
  have := ratio_cross (a := p') (n := n') (b := q') (m := m') (by omega) (by omega) (by omega) (by omega) (by omega) (by omega)
  rw [decide_eq_decide, this]
  norm_cast
end Go.Proofs.Ytafhjfkdlmijdaa
