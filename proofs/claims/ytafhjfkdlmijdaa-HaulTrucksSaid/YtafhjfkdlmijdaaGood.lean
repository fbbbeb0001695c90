/- What an instance that may be keeps; what a plan whose stops may be keeps. No program in sight. -/
import Derived.Test.YtafhjfkdlmijdaaInstD
import Derived.Test.YtafhjfkdlmijdaaDrops
import Derived.Test.YtafhjfkdlmijdaaTrucks
import Derived.Test.YtafhjfkdlmijdaaBikes
namespace Go.Proofs.Ytafhjfkdlmijdaa
open Go.RowKit

structure Good (x : InstD) : Prop where
  tmany : 1 ≤ x.tmany ∧ x.tmany ≤ 60
  bmany : 1 ≤ x.bmany ∧ x.bmany ≤ 60
  sats : 1 ≤ x.sats.length ∧ x.sats.length ≤ 12
  custs : 1 ≤ x.custs.length ∧ x.custs.length ≤ 48
  fin : 0 ≤ x.fin ∧ x.fin ≤ 1000000000
  troom : 0 ≤ x.troom ∧ x.troom ≤ 1000000000
  broom : 0 ≤ x.broom ∧ x.broom ≤ 1000000000
  sat : ∀ s ∈ x.sats, (0 ≤ s.room ∧ s.room ≤ 1000000000) ∧ 0 ≤ s.hold ∧ s.hold ≤ 1000000000
  cust : ∀ c ∈ x.custs, (1 ≤ c.load ∧ c.load ≤ 1000000000) ∧ (0 ≤ c.opn ∧ c.opn ≤ 1000000000) ∧ (c.opn ≤ c.cls ∧ c.cls ≤ 1000000000) ∧ 0 ≤ c.stay ∧ c.stay ≤ 1000000000
  costL : x.cost.length = nodes x
  timeL : x.time.length = nodes x
  costR : ∀ r ∈ x.cost, r.length = nodes x
  timeR : ∀ r ∈ x.time, r.length = nodes x
  cost : ∀ r ∈ x.cost, ∀ v ∈ r, 0 ≤ v ∧ v ≤ 1000000000
  time : ∀ r ∈ x.time, ∀ v ∈ r, 0 ≤ v ∧ v ≤ 1000000000

theorem mayB_iff {n l : Int} (h : mayB n l = true) : l ≤ n ∧ n ≤ 1000000000 := by simpa [mayB] using h
theorem squareB_iff {l : List (List Int)} {n : Nat} (h : squareB l (n : Int) = true) : l.length = n ∧ ∀ r ∈ l, r.length = n := by
  simp only [squareB, Bool.and_eq_true, beq_iff_eq, Bool.not_eq_true', List.any_eq_false, bne_iff_ne, ne_eq, Decidable.not_not] at h
  exact ⟨by omega, fun r hr => by have := h.2 r hr; omega⟩
theorem matB_iff {l : List (List Int)} (h : matB l l.length = true) : ∀ r ∈ l, ∀ v ∈ r, 0 ≤ v ∧ v ≤ 1000000000 := by
  intro r hr v hv
  obtain ⟨i, hi, rfl⟩ := List.getElem_of_mem hr
  obtain ⟨j, hj, rfl⟩ := List.getElem_of_mem hv
  simp only [matB, List.all_eq_true, List.mem_range] at h
  have h1 := h i hi
  rw [List.getD_eq_getElem?_getD, List.getElem?_eq_getElem hi] at h1
  simp only [rowB, Option.getD_some, List.all_eq_true, List.mem_range] at h1
  have h2 := h1 j hj
  rw [List.getD_eq_getElem?_getD, List.getElem?_eq_getElem hj] at h2
  simp only [cellB, Bool.and_eq_true] at h2
  exact mayB_iff h2.1
theorem good_of {x : InstD} (h : check x = 0) : Good x := by
  unfold check at h
  split at h
  case isFalse => cases h
  rename_i hc
  split at h
  case isFalse => cases h
  rename_i hs
  split at h
  case isFalse => cases h
  rename_i hn
  simp only [countB, manyB, Bool.and_eq_true, decide_eq_true_eq] at hc
  simp only [sizeB, Bool.and_eq_true] at hs
  simp only [numbersB, headB, Bool.and_eq_true, List.all_eq_true] at hn
  obtain ⟨⟨⟨⟨⟨⟨n0, n1⟩, n2⟩, n3⟩, n4⟩, n5⟩, n6⟩ := hn
  have s1 := squareB_iff hs.1
  have s2 := squareB_iff hs.2
  exact { tmany := by omega, bmany := by omega, sats := by omega, custs := by omega, fin := mayB_iff n0, troom := mayB_iff n1, broom := mayB_iff n2,
          sat := fun s hs' => by have := n3 s hs'; simp only [satB, Bool.and_eq_true] at this; exact ⟨mayB_iff this.1, mayB_iff this.2⟩,
          cust := fun c hc' => by have := n4 c hc'; simp only [custB, Bool.and_eq_true] at this; exact ⟨mayB_iff this.1.1.1, mayB_iff this.1.1.2, mayB_iff this.1.2, mayB_iff this.2⟩,
          costL := s1.1, timeL := s2.1, costR := s1.2, timeR := s2.2, cost := matB_iff n5, time := matB_iff n6 }

theorem stopBad_false {x : InstD} {m : Nat} {s : StopD} (h : stopBad x m s = false) : StopOk x s := by
  simp only [stopBad, Bool.or_eq_false_iff, decide_eq_false_iff_not] at h
  unfold StopOk; omega
theorem stops_some {x : InstD} : ∀ (l : List StopD) (m : Nat) (left : Int) (r : Nat × Int), l.foldl (stopSt x) (some (m, left)) = some r → ∀ s ∈ l, StopOk x s
  | [], _, _, _, _, s, hs => by cases hs
  | a :: l, m, left, r, h, s, hs => by
    rw [List.foldl_cons] at h
    cases hb : stopBad x m a
    · rw [stopSt_ok hb] at h
      rcases List.mem_cons.1 hs with rfl | hs
      · exact stopBad_false hb
      · exact stops_some l _ _ r h s hs
    · rw [stopSt_bad hb, stops_none] at h; cases h
theorem truckGo_some {x : InstD} : ∀ (l : List (List StopD)) (r d : Bool), (truckGo x l r d).1 = true → r = true ∧ ∀ t ∈ l, 0 < t.length ∧ ∀ s ∈ t, StopOk x s
  | [], r, d, h => ⟨h, fun _ h => by cases h⟩
  | a :: l, r, d, h => by
    cases ha : truckSt x a with
    | none => rw [truckGo_bad ha] at h; cases h
    | some q =>
      obtain ⟨m, left⟩ := q
      rw [truckGo_ok ha] at h
      obtain ⟨h1, h2⟩ := truckGo_some l _ _ h
      simp only [Bool.and_eq_true, decide_eq_true_eq] at h1
      refine ⟨h1.1, fun t ht => ?_⟩
      rcases List.mem_cons.1 ht with rfl | ht
      · exact ⟨h1.2, stops_some t _ _ _ ha⟩
      · exact h2 t ht
theorem trucksB_ok {x : InstD} {l : List (List StopD)} (h : (trucksB x l).1 = true) : ∀ t ∈ l, 0 < t.length ∧ ∀ s ∈ t, StopOk x s := (truckGo_some l true true h).2

/-- Some numbers add up to no less than each. -/
theorem le_sum : ∀ (l : List Nat) (a : Nat), a ∈ l → a ≤ l.sum
  | b :: l, a, h => by
    rw [List.sum_cons]
    rcases List.mem_cons.1 h with rfl | h
    · omega
    · have := le_sum l a h; omega
theorem stopsUp_all {l : List BikeD} {b : BikeD} (h : b ∈ l) : b.stops.length ≤ stopsUp l l.length := by
  unfold stopsUp; rw [List.take_length]; exact le_sum _ _ (List.mem_map_of_mem h)
theorem tstopsUp_all {l : List (List StopD)} {t : List StopD} (h : t ∈ l) : t.length ≤ tstopsUp l l.length := by
  unfold tstopsUp; rw [List.take_length]; exact le_sum _ _ (List.mem_map_of_mem h)
end Go.Proofs.Ytafhjfkdlmijdaa
