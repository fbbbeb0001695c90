/- What cells set one behind the other leave in a row of one's own. No program in sight. -/
import Derived.Test.YtafhjfkdlmijdaaOrder
import Derived.Shelf.Spec.SlicesInsertGrow
namespace Go.Proofs.Ytafhjfkdlmijdaa
open Go.RowKit

theorem heap_setCells_in (b e : Nat) (fz : Nat × Nat) : ∀ (vs M A R : List Value) (o : Nat) (w : World) (cur : Array Value), w.heap[b]? = some (.cells cur e fz) → cur.toList = A ++ M ++ R → A.length = o → M.length = vs.length →
    ∃ cur' : Array Value, (w.setCells b o vs).heap[b]? = some (.cells cur' e fz) ∧ cur'.toList = A ++ vs ++ R
  | [], M, A, R, o, w, cur, h, hc, _, hm => by
    obtain rfl := List.eq_nil_of_length_eq_zero hm
    exact ⟨cur, h, hc⟩
  | v :: vs, [], A, R, o, w, cur, h, hc, _, hm => by cases hm
  | v :: vs, m :: M, A, R, o, w, cur, h, hc, ho, hm => by
    have h' : (w.setCell ⟨b, o, none⟩ v).heap[b]? = some (.cells (cur.setIfInBounds o v) e fz) := by simp [World.setCell, Array.getElem?_modify, h]
    have hc' : (cur.setIfInBounds o v).toList = (A ++ [v]) ++ M ++ R := by
      rw [Array.toList_setIfInBounds, hc, ← ho, List.append_assoc, List.set_append_right _ _ (Nat.le_refl _), Nat.sub_self]
      simp
    obtain ⟨cur', h1, h2⟩ := heap_setCells_in b e fz vs M (A ++ [v]) R (o + 1) _ _ h' hc' (by simp [ho]) (by simpa using hm)
    exact ⟨cur', h1, by rw [h2]; simp⟩
theorem grown_step {a b c : World} {row : Option Nat} (h : a.grownBy b row) (h2 : b.grownBy c row) : a.grownBy c row :=
  ⟨h2.os.trans h.os, h2.tape.trans h.tape, h2.output.trans h.output, Nat.le_trans h.size h2.size, fun k hk hne => (h2.block k (Nat.lt_of_lt_of_le hk h.size) hne).trans (h.block k hk hne)⟩
theorem grown_refl (w : World) (row : Option Nat) : w.grownBy w row := ⟨rfl, rfl, rfl, Nat.le_refl _, fun _ _ _ => rfl⟩
theorem grown_setCells (b : Nat) : ∀ (vs : List Value) (o : Nat) (w : World), w.grownBy (w.setCells b o vs) (some b)
  | [], _, w => grown_refl w _
  | v :: vs, o, w => grown_step (grown_set w ⟨b, o, none⟩ v) (grown_setCells b vs (o + 1) _)
theorem grown_drew (w : World) (row : Option Nat) : w.grownBy w.drew row := ⟨rfl, rfl, rfl, Nat.le_refl _, fun _ _ _ => rfl⟩
theorem grown_alloc (w : World) (o : Obj) (row : Option Nat) : w.grownBy (w.alloc o) row := ⟨rfl, rfl, rfl, by simp, fun _ hk _ => heap_alloc_old w _ hk⟩
/-- A block beyond the world's old end counts as no row of it. -/
theorem grown_new {a b : World} {g : Nat} (h : a.grownBy b (some g)) (hg : a.heap.size ≤ g) (row : Option Nat) : a.grownBy b row :=
  ⟨h.os, h.tape, h.output, h.size, fun k hk _ => h.block k hk (by rintro ⟨⟩; omega)⟩
theorem shape_of {w : World} {b : Nat} {c : Array Value} {e : TypeId} {fz : Nat × Nat} (h : w.heap[b]? = some (.cells c e fz)) : w.shape? b = some (e, c.size) := by simp [World.shape?, h]
theorem frozen_of {w : World} {b k : Nat} {c : Array Value} {e : TypeId} (h : w.heap[b]? = some (.cells c e (0, 0))) : w.frozen? ⟨b, k, none⟩ = false := by simp [World.frozen?, h]
theorem cell_of {w : World} {b k : Nat} {c : Array Value} {e : TypeId} {fz : Nat × Nat} (h : w.heap[b]? = some (.cells c e fz)) : w.cell? ⟨b, k, none⟩ = c[k]? := by simp [World.cell?, h]
theorem owns_ins {w' : World} {B T g n i cap : Nat} {xs : List Value} {x : Value} {cur : Array Value} (hg : B ≤ g) (hx : xs.length = n) (hi : i ≤ n) (hn : n + 1 ≤ cap) (hc : cap ≤ maxLen)
    (hh : w'.heap[g]? = some (.cells cur T (0, 0))) (hs : cur.size = cap) {R : List Value} (hcur : cur.toList = xs.take i ++ x :: xs.drop i ++ R) : w'.ownsRow B T 1 (.slice (some ⟨g, 0, none⟩) (n + 1) cap) (n + 1) (xs.take i ++ x :: xs.drop i) := by
  have hl : (xs.take i ++ x :: xs.drop i).length = n + 1 := by simp; omega
  exact ⟨by rw [hl, Nat.mul_one], .inr ⟨g, cap, cur, rfl, hg, hh, hn, hc, by rw [hs, Nat.mul_one], by rw [hcur, Nat.mul_one, ← hl]; exact List.take_left⟩⟩
end Go.Proofs.Ytafhjfkdlmijdaa
