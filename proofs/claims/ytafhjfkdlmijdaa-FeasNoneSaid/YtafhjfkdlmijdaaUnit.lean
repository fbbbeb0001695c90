/- wharfagelaw22.Trucks, load by load, does what haul.Trucks does, truck by truck. No program in sight. -/
import Derived.Test.YtafhjfkdlmijdaaHTrucks
import Derived.Test.YtafhjfkdlmijdaaGf
namespace Go.Proofs.Ytafhjfkdlmijdaa
open Go.RowKit

def lastT (out : List (List StopD)) : List StopD := out.getD (out.length - 1) []
def lastS (t : List StopD) : StopD := t.getD (t.length - 1) ⟨0, 0⟩
def newS (s : Int) (t : List StopD) : Bool := t.length == 0 || (lastS t).sat != s
/-- One load more for s, in a truck. -/
def bumpD (s : Int) (t : List StopD) : List StopD := if newS s t then t ++ [⟨s, 1⟩] else t.set (t.length - 1) ⟨s, (lastS t).load + 1⟩
def setLast (out : List (List StopD)) (t : List StopD) : List (List StopD) := out.set (out.length - 1) t
def readyT (room : Int) (st : List (List StopD) × Int) : List (List StopD) × Int := if st.2 = 0 then (st.1 ++ [[]], room) else st
def unit1 (room : Int) (s : Nat) (st : List (List StopD) × Int) : List (List StopD) × Int := (setLast (readyT room st).1 (bumpD s (lastT (readyT room st).1)), (readyT room st).2 - 1)
def unitN (room : Int) (s : Nat) : Nat → List (List StopD) × Int → List (List StopD) × Int
  | 0, st => st
  | n + 1, st => unit1 room s (unitN room s n st)
def unitAll (room : Int) (l : List Int) : List Nat → List (List StopD) × Int → List (List StopD) × Int
  | [], st => st
  | s :: ss, st => unitAll room l ss (unitN room s (l.getD s 0).toNat st)
/-- wharfagelaw22.Trucks -/
def trucksW (x : InstD) (l : List Int) : List (List StopD) := (unitAll x.troom l (orderW x l l.length) ([], 0)).1
theorem unitN_add (room : Int) (s a : Nat) : ∀ (b : Nat) (st : List (List StopD) × Int), unitN room s (a + b) st = unitN room s b (unitN room s a st)
  | 0, _ => rfl
  | b + 1, st => by
    show unit1 room s (unitN room s (a + b) st) = unit1 room s (unitN room s b (unitN room s a st))
    rw [unitN_add room s a b]
theorem setLast_len (out : List (List StopD)) (t : List StopD) : (setLast out t).length = out.length := by unfold setLast; simp
theorem addLast_len (out : List (List StopD)) (s : StopD) : (addLast out s).length = out.length := by unfold addLast; simp
theorem unit1_len (room : Int) (s : Nat) (st : List (List StopD) × Int) : st.1.length ≤ (unit1 room s st).1.length ∧ (st.2 = 0 → (unit1 room s st).1.length = st.1.length + 1) := by
  unfold unit1
  rw [setLast_len]
  unfold readyT
  split
  · rw [List.length_append]; simp
  · rename_i h; exact ⟨Nat.le_refl _, fun h' => absurd h' h⟩
theorem unitN_len (room : Int) (s : Nat) : ∀ (n : Nat) (st : List (List StopD) × Int), st.1.length ≤ (unitN room s n st).1.length
  | 0, _ => Nat.le_refl _
  | n + 1, st => Nat.le_trans (unitN_len room s n st) (unit1_len _ _ _).1
theorem unitAll_len (room : Int) (l : List Int) : ∀ (ss : List Nat) (st : List (List StopD) × Int), st.1.length ≤ (unitAll room l ss st).1.length
  | [], _ => Nat.le_refl _
  | s :: ss, st => Nat.le_trans (unitN_len room s _ st) (unitAll_len room l ss _)
theorem lastT_set {out : List (List StopD)} {t : List StopD} (h : 0 < out.length) : lastT (out.set (out.length - 1) t) = t := by
  unfold lastT
  rw [List.length_set, List.getD_eq_getElem?_getD, List.getElem?_set_self (by omega)]; rfl
theorem lastT_push (out : List (List StopD)) : lastT (out ++ [[]]) = [] := by
  unfold lastT
  rw [List.length_append, List.length_singleton, Nat.add_sub_cancel, List.getD_eq_getElem?_getD, List.getElem?_append_right (Nat.le_refl _)]; simp
theorem lastS_snoc (t : List StopD) (s : StopD) : lastS (t ++ [s]) = s := by
  unfold lastS
  rw [List.length_append, List.length_singleton, Nat.add_sub_cancel, List.getD_eq_getElem?_getD, List.getElem?_append_right (Nat.le_refl _)]; simp
theorem bump_new {s : Int} {t : List StopD} (h : newS s t = true) : bumpD s t = t ++ [⟨s, 1⟩] := if_pos h
theorem bump_old (s : Int) (t : List StopD) (k : Int) : bumpD s (t ++ [⟨s, k⟩]) = t ++ [⟨s, k + 1⟩] := by
  unfold bumpD
  rw [if_neg (by unfold newS; rw [lastS_snoc]; simp), lastS_snoc, List.length_append, List.length_singleton, Nat.add_sub_cancel, List.set_append_right _ _ (Nat.le_refl _), Nat.sub_self]; rfl
theorem newS_snoc {s s' : Int} (t : List StopD) (k : Int) (h : s ≠ s') : newS s' (t ++ [⟨s, k⟩]) = true := by
  unfold newS; rw [lastS_snoc]; simp [h]
/-- So many loads in one truck, in one stop. -/
theorem unit_batch {room left : Int} {s : Nat} {out : List (List StopD)} (ho : 0 < out.length) (hf : newS s (lastT out) = true) : ∀ k : Nat, (k : Int) + 1 ≤ left → unitN room s (k + 1) (out, left) = (addLast out ⟨s, ((k + 1 : Nat) : Int)⟩, left - ((k + 1 : Nat) : Int))
  | 0, h => by
    show unit1 room s (out, left) = _
    unfold unit1 readyT
    rw [if_neg (by show left ≠ 0; omega), bump_new hf]
    simp [setLast, addLast, lastT]
  | k + 1, h => by
    show unit1 room s (unitN room s (k + 1) (out, left)) = _
    rw [unit_batch ho hf k (by push_cast at h; omega)]
    unfold unit1 readyT
    rw [if_neg (by show left - _ ≠ 0; push_cast at h ⊢; omega)]
    have e : lastT (addLast out ⟨s, ((k + 1 : Nat) : Int)⟩) = lastT out ++ [⟨s, ((k + 1 : Nat) : Int)⟩] := by unfold addLast; rw [lastT_set ho]; rfl
    rw [e, bump_old]
    refine Prod.ext ?_ ?_
    · show setLast (addLast out _) _ = _
      unfold setLast addLast
      rw [List.length_set, List.set_set]
      push_cast; rfl
    · show left - _ - 1 = left - _
      push_cast; omega
theorem unit_push {room : Int} {s : Nat} {out : List (List StopD)} (hr : room ≠ 0) : ∀ k : Nat, unitN room s (k + 1) (out, 0) = unitN room s (k + 1) (out ++ [[]], room)
  | 0 => by
    show unit1 room s (out, 0) = unit1 room s (out ++ [[]], room)
    unfold unit1 readyT
    rw [if_pos rfl, if_neg hr]
  | k + 1 => by
    show unit1 room s (unitN room s (k + 1) _) = unit1 room s (unitN room s (k + 1) _)
    rw [unit_push hr k]
/-- May s stop anew? -/
def Fresh (s : Int) (out : List (List StopD)) : Prop := newS s (lastT out) = true
theorem fresh_nil {s : Int} (out : List (List StopD)) : Fresh s (out ++ [[]]) := by unfold Fresh; rw [lastT_push]; rfl
theorem fresh_add {s s' : Int} {k : Int} {out : List (List StopD)} (ho : 0 < out.length) (h : s ≠ s') : Fresh s' (addLast out ⟨s, k⟩) := by
  unfold Fresh addLast; rw [lastT_set ho]; exact newS_snoc _ _ h
theorem fill_unit {many room : Int} (hr : 1 ≤ room) {s : Nat} : ∀ (f : Nat) (n : Nat) (out : List (List StopD)) (left : Int), n ≤ f → 0 ≤ left → left ≤ room → (0 < left → 0 < out.length) → (0 < left → 0 < n → Fresh s out) → (out.length : Int) ≤ many →
    match fillOne many room s f n out left with
    | some (o, l) => unitN room s n (out, left) = (o, l) ∧ (o.length : Int) ≤ many ∧ 0 ≤ l ∧ l ≤ room ∧ (0 < l → 0 < o.length) ∧ ∀ s' : Int, (s : Int) ≠ s' → Fresh s' out → Fresh s' o
    | none => many < ((unitN room s n (out, left)).1.length : Int)
  | 0, n, out, left, hn, h0, h1, h2, h3, h4 => by
    obtain rfl : n = 0 := by omega
    exact ⟨rfl, h4, h0, h1, h2, fun _ _ h => h⟩
  | f + 1, n, out, left, hn, h0, h1, h2, h3, h4 => by
    by_cases hz : n = 0
    · subst hz
      rw [fillOne_done (by simp)]
      exact ⟨rfl, h4, h0, h1, h2, fun _ _ h => h⟩
    have hpos : (0 : Int) < (n : Int) := by omega
    -- one batch, then the rest
    have key : ∀ (o1 : List (List StopD)) (l1 : Int), 0 < o1.length → (o1.length : Int) ≤ many → Fresh s o1 → 0 < l1 → l1 ≤ room → unitN room s n (out, left) = unitN room s n (o1, l1) → (∀ s' : Int, Fresh s' out → Fresh s' o1 ∨ True) →
        match fillOne many room s f ((n : Int) - min (n : Int) l1) (addLast o1 ⟨s, min (n : Int) l1⟩) (l1 - min (n : Int) l1) with
        | some (o, l) => unitN room s n (out, left) = (o, l) ∧ (o.length : Int) ≤ many ∧ 0 ≤ l ∧ l ≤ room ∧ (0 < l → 0 < o.length) ∧ ∀ s' : Int, (s : Int) ≠ s' → Fresh s' out → Fresh s' o
        | none => many < ((unitN room s n (out, left)).1.length : Int) := by
      intro o1 l1 k1 k2 k3 k4 k5 k6 _
      obtain ⟨m, hm⟩ : ∃ m : Nat, (m : Int) + 1 = min (n : Int) l1 := ⟨(min (n : Int) l1 - 1).toNat, by omega⟩
      have hm1 : (m : Int) + 1 ≤ l1 := by omega
      have hm2 : m + 1 ≤ n := by omega
      have hb := unit_batch (room := room) k1 k3 m hm1
      have hsum : n = (m + 1) + (n - (m + 1)) := by omega
      have hu : unitN room s n (out, left) = unitN room s (n - (m + 1)) (addLast o1 ⟨s, min (n : Int) l1⟩, l1 - min (n : Int) l1) := by
        rw [k6]
        conv => lhs; rw [hsum]
        rw [unitN_add, hb]
        push_cast
        rw [hm]
      have e1 : (n : Int) - min (n : Int) l1 = ((n - (m + 1) : Nat) : Int) := by omega
      have ih := fill_unit hr (s := s) (many := many) f (n - (m + 1)) (addLast o1 ⟨s, min (n : Int) l1⟩) (l1 - min (n : Int) l1) (by omega) (by omega) (by omega) (fun _ => by rw [addLast_len]; exact k1) (fun a b => by omega) (by rw [addLast_len]; exact k2)
      rw [e1, hu]
      split at ih
      · exact ⟨ih.1, ih.2.1, ih.2.2.1, ih.2.2.2.1, ih.2.2.2.2.1, fun s' hs _ => ih.2.2.2.2.2 s' hs (fresh_add k1 hs)⟩
      · exact ih
    by_cases hl : left = 0
    · subst hl
      by_cases hfull : (out.length : Int) = many
      · rw [fillOne_none hpos (.inl hfull)]
        obtain ⟨k, rfl⟩ : ∃ k, n = k + 1 := ⟨n - 1, by omega⟩
        have a1 := (unit1_len room s (out, 0)).2 rfl
        have a2 := unitN_len room s k (unitN room s 1 (out, 0))
        rw [← unitN_add, Nat.add_comm 1 k] at a2
        have a3 : (unitN room s 1 (out, 0)).1.length = out.length + 1 := a1
        show many < _
        omega
      · rw [fillOne_push hpos (fun h => h.elim hfull (fun h => by omega))]
        obtain ⟨k, rfl⟩ : ∃ k, n = k + 1 := ⟨n - 1, by omega⟩
        exact key (out ++ [[]]) room (by simp) (by rw [List.length_append]; simp; omega) (fresh_nil _) (by omega) (Int.le_refl _) (unit_push (by omega) k) (fun _ _ => .inr trivial)
    · rw [fillOne_step hpos hl]
      exact key out left (h2 (by omega)) h4 (h3 (by omega) (by omega)) (by omega) h1 rfl (fun _ _ => .inr trivial)
theorem fillAll_unit {many room : Int} (hr : 1 ≤ room) {l : List Int} (hl : ∀ s, 0 ≤ l.getD s 0) : ∀ (ss : List Nat) (out : List (List StopD)) (left : Int), ss.Nodup → 0 ≤ left → left ≤ room → (0 < left → 0 < out.length) → (∀ s ∈ ss, Fresh (s : Nat) out) → (out.length : Int) ≤ many →
    match fillAll many room l ss out left with
    | some o => (unitAll room l ss (out, left)).1 = o ∧ (o.length : Int) ≤ many
    | none => many < ((unitAll room l ss (out, left)).1.length : Int)
  | [], out, left, _, _, _, _, _, h4 => ⟨rfl, h4⟩
  | s :: ss, out, left, hn, h0, h1, h2, h3, h4 => by
    rw [fillAll_cons]
    have hnd := List.nodup_cons.1 hn
    have h5 := fill_unit hr (s := s) (many := many) (l.getD s 0).toNat (l.getD s 0).toNat out left (Nat.le_refl _) h0 h1 h2 (fun _ _ => h3 s (List.mem_cons_self ..)) h4
    rw [Int.toNat_of_nonneg (hl s)] at h5
    show match (match fillOne many room s (l.getD s 0).toNat (l.getD s 0) out left with
      | none => none
      | some (o, lf) => fillAll many room l ss o lf) with
      | some o => (unitAll room l ss (unitN room s (l.getD s 0).toNat (out, left))).1 = o ∧ (o.length : Int) ≤ many
      | none => many < ((unitAll room l ss (unitN room s (l.getD s 0).toNat (out, left))).1.length : Int)
    split at h5
    · rename_i o lf heq
      rw [heq, h5.1]
      refine fillAll_unit hr hl ss o lf hnd.2 h5.2.2.1 h5.2.2.2.1 h5.2.2.2.2.1 (fun s' hs' => h5.2.2.2.2.2 s' ?_ (h3 s' (List.mem_cons_of_mem _ hs'))) h5.2.1
      intro e
      have : s = s' := by omega
      subst this
      exact hnd.1 hs'
    · rename_i heq
      rw [heq]
      have := unitAll_len room l ss (unitN room s (l.getD s 0).toNat (out, left))
      show many < _
      omega
theorem insRev_nodup {α : Type} {lt : α → α → Bool} {x : α} : ∀ {l : List α}, x ∉ l → l.Nodup → (insRev lt x l).Nodup
  | [], _, _ => by simp [insRev]
  | y :: ys, hx, hn => by
    have h := List.nodup_cons.1 hn
    unfold insRev
    split
    · refine List.nodup_cons.2 ⟨fun hm => ?_, insRev_nodup (fun hm => hx (List.mem_cons_of_mem _ hm)) h.2⟩
      rcases (insRev_mem _ _ _ _).1 hm with rfl | hm
      · exact hx (List.mem_cons_self ..)
      · exact h.1 hm
    · exact List.nodup_cons.2 ⟨hx, hn⟩
theorem insR_nodup {α : Type} {lt : α → α → Bool} {x : α} {l : List α} (hx : x ∉ l) (hn : l.Nodup) : (insR lt x l).Nodup := by
  unfold insR
  exact List.pairwise_reverse.2 ((insRev_nodup (lt := lt) (fun h => hx (List.mem_reverse.1 h)) (List.pairwise_reverse.2 (hn.imp fun h => h.symm))).imp fun h => h.symm)
theorem orderW_nodup (x : InstD) (l : List Int) : ∀ k, (orderW x l k).Nodup
  | 0 => by simp [orderW, idxs, sortD]
  | k + 1 => by
    by_cases h : 0 < l.getD k 0
    · rw [orderW_yes h]
      exact insR_nodup (fun hm => absurd (orderW_lt hm) (Nat.lt_irrefl _)) (orderW_nodup x l k)
    · rw [orderW_no h]; exact orderW_nodup x l k
/-- What the two make of loads that may be. -/
theorem trucks_law {x : InstD} {l : List Int} (hck : check x = 0) (hl : l.length = x.sats.length) (hlb : ∀ s, 0 ≤ l.getD s 0 ∧ (s < x.sats.length → l.getD s 0 ≤ (x.sats.getD s ⟨0, 0⟩).room)) (ho : orderD x l = orderW x l l.length) (hr : 1 ≤ x.troom) (hm : 0 ≤ x.tmany) :
    (trucksW x l).length ≤ x.tmany ∧ trucksH x l = (trucksW x l, 0) ∨ x.tmany < (trucksW x l).length ∧ trucksH x l = ([], 11) := by
  have hb : badLoads x l l.length = false := by
    unfold badLoads
    rw [List.any_eq_false]
    intro i hi
    have h1 := hlb i
    have h2 := h1.2 (by rw [← hl]; exact List.mem_range.1 hi)
    unfold badLoad
    simp only [Bool.or_eq_true, decide_eq_true_eq]
    omega
  have e : trucksH x l = fillRes (fillAll x.tmany x.troom l (orderW x l l.length) [] 0) := by
    unfold trucksH
    rw [if_neg (by simpa using hck), if_neg (by simpa using hl), hb, if_neg (by decide), ho]
  have h := fillAll_unit (many := x.tmany) hr (l := l) (fun s => (hlb s).1) (orderW x l l.length) [] 0 (orderW_nodup _ _ _) (Int.le_refl _) (by omega) (fun h => absurd h (by decide)) (fun s _ => rfl) hm
  rw [e]
  unfold trucksW
  split at h
  · rename_i o heq
    rw [heq, h.1]
    exact .inl ⟨h.2, rfl⟩
  · rename_i heq
    rw [heq]
    exact .inr ⟨h, rfl⟩
end Go.Proofs.Ytafhjfkdlmijdaa
