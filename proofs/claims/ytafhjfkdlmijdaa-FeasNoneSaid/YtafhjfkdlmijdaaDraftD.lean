/- wharfagelaw17.Draft in plain words. No program in sight. -/
import Derived.Test.YtafhjfkdlmijdaaGg
import Derived.Test.YtafhjfkdlmijdaaTrucksW
namespace Go.Proofs.Ytafhjfkdlmijdaa
open Go.RowKit

structure WishD where
  sats : List Int
  order : List Int
  cuts : List Int
def wishS : Shape WishD where
  sz := 3
  rep := fun w F x cs => ∃ s o c, cs = [s, o, c] ∧ bytesS.rep w F x.sats [s] ∧ bytesS.rep w F x.order [o] ∧ bytesS.rep w F x.cuts [c]
  len := by rintro w F x cs ⟨_, _, _, rfl, _⟩; rfl
  keep := by rintro w w' F x cs ⟨_, _, _, rfl, h1, h2, h3⟩ ha; exact ⟨_, _, _, rfl, bytesS.keep h1 ha, bytesS.keep h2 ha, bytesS.keep h3 ha⟩
  weak := by rintro w F G x cs ⟨_, _, _, rfl, h1, h2, h3⟩ ha; exact ⟨_, _, _, rfl, bytesS.weak h1 ha, bytesS.weak h2 ha, bytesS.weak h3 ha⟩
  lt := by rintro w F x cs ⟨_, _, _, rfl, h1, h2, h3⟩; exact ⟨_, _, _, rfl, bytesS.lt h1, bytesS.lt h2, bytesS.lt h3⟩
/-- wharfagelaw17.at -/
def atD (l : List Int) (i : Nat) : Int := l.getD (i % l.length) 0
def Bytes (l : List Int) : Prop := ∀ v ∈ l, wf8 v
theorem at_bd {l : List Int} (h : Bytes l) (i : Nat) : 0 ≤ atD l i ∧ atD l i ≤ 255 := by
  unfold atD
  rw [List.getD_eq_getElem?_getD]
  by_cases hk : i % l.length < l.length
  · rw [List.getElem?_eq_getElem hk]; exact h _ (List.getElem_mem hk)
  · rw [List.getElem?_eq_none (by omega)]; simp
/-- In which order the customers are taken. -/
def insAt (o : List Int) (c n : Nat) : Nat := (atD o c % ((n : Int) + 1)).toNat
def orderUp (o : List Int) : Nat → List Nat
  | 0 => []
  | c + 1 => (orderUp o c).take (insAt o c (orderUp o c).length) ++ c :: (orderUp o c).drop (insAt o c (orderUp o c).length)
theorem insAt_le {o : List Int} (_h : Bytes o) (c n : Nat) : insAt o c n ≤ n ∧ ((insAt o c n : Nat) : Int) = atD o c % ((n : Int) + 1) := by
  have h1 := Int.emod_nonneg (atD o c) (show (n : Int) + 1 ≠ 0 by omega)
  have h2 := Int.emod_lt_of_pos (atD o c) (show 0 < (n : Int) + 1 by omega)
  unfold insAt
  omega
theorem orderUp_len (o : List Int) : ∀ c, (orderUp o c).length = c
  | 0 => rfl
  | c + 1 => by
    have := orderUp_len o c
    simp only [orderUp, List.length_append, List.length_take, List.length_cons, List.length_drop, this]; omega
theorem orderUp_lt (o : List Int) : ∀ c, ∀ i ∈ orderUp o c, i < c
  | 0, i, h => by cases h
  | c + 1, i, h => by
    have ih := orderUp_lt o c
    simp only [orderUp, List.mem_append, List.mem_cons] at h
    rcases h with h | rfl | h
    · have := ih i (List.mem_of_mem_take h); omega
    · omega
    · have := ih i (List.mem_of_mem_drop h); omega
/-- The last of the first so many bikes of a satellite. -/
def lastUp (bs : List BikeD) (s : Int) : Nat → Int
  | 0 => -1
  | k + 1 => if (bs.getD k ⟨0, []⟩).sat = s then (k : Int) else lastUp bs s k
theorem lastUp_bd (bs : List BikeD) (s : Int) : ∀ k, -1 ≤ lastUp bs s k ∧ lastUp bs s k < k
  | 0 => by simp [lastUp]
  | k + 1 => by
    have := lastUp_bd bs s k
    simp only [lastUp]
    split <;> push_cast <;> omega
def custD (x : InstD) (c : Int) : CustD := x.custs.getD c.toNat ⟨0, 0, 0, 0⟩
def sumUp (x : InstD) (l : List Int) (n : Int) (j : Nat) : Int := n + ((l.take j).map fun c => (custD x c).load).sum
theorem sumUp_succ {x : InstD} {l : List Int} {n : Int} {j : Nat} (h : j < l.length) : sumUp x l n (j + 1) = sumUp x l n j + (custD x l[j]).load := by
  unfold sumUp
  rw [List.take_succ_eq_append_getElem h, List.map_append, List.sum_append]
  simp only [List.map_cons, List.map_nil, List.sum_cons, List.sum_nil]; omega
def satOfC (x : InstD) (w : WishD) (c : Nat) : Nat := (atD w.sats c % (x.sats.length : Int)).toNat
/-- Does the customer go with the last bike? -/
def joinB (x : InstD) (w : WishD) (i c : Nat) (bs : List BikeD) : Bool :=
  decide (0 ≤ lastUp bs (satOfC x w c) bs.length) && (decide (0 < atD w.cuts i % 4) && decide (sumUp x (bs.getD (lastUp bs (satOfC x w c) bs.length).toNat ⟨0, []⟩).stops (custD x c).load (bs.getD (lastUp bs (satOfC x w c) bs.length).toNat ⟨0, []⟩).stops.length ≤ x.broom))
def addBk (bs : List BikeD) (k : Nat) (c : Int) : List BikeD := bs.set k ⟨(bs.getD k ⟨0, []⟩).sat, (bs.getD k ⟨0, []⟩).stops ++ [c]⟩
def bikeStep (x : InstD) (w : WishD) (i c : Nat) (bs : List BikeD) : List BikeD :=
  if joinB x w i c bs then addBk bs (lastUp bs (satOfC x w c) bs.length).toNat c else bs ++ [⟨satOfC x w c, [(c : Int)]⟩]
def loadStep (x : InstD) (w : WishD) (c : Nat) (lo : List Int) : List Int := lo.set (satOfC x w c) (lo.getD (satOfC x w c) 0 + (custD x c).load)
def draftUp (x : InstD) (w : WishD) (os : List Nat) : Nat → List Int × List BikeD
  | 0 => (List.replicate x.sats.length 0, [])
  | k + 1 => (loadStep x w (os.getD k 0) (draftUp x w os k).1, bikeStep x w k (os.getD k 0) (draftUp x w os k).2)
/-- What holds of the bikes so far. -/
structure BkOk (x : InstD) (k : Nat) (lo : List Int) (bs : List BikeD) : Prop where
  loL : lo.length = x.sats.length
  loB : ∀ v ∈ lo, 0 ≤ v ∧ v ≤ 1000 * (k : Int)
  bsL : bs.length ≤ k
  bsB : ∀ b ∈ bs, (0 ≤ b.sat ∧ b.sat < x.sats.length) ∧ b.stops.length ≤ k ∧ ∀ c ∈ b.stops, 0 ≤ c ∧ c < x.custs.length
theorem BkOk.nil (x : InstD) : BkOk x 0 (List.replicate x.sats.length 0) [] :=
  ⟨List.length_replicate, fun v hv => by rw [List.eq_of_mem_replicate hv]; simp, Nat.le_refl _, fun _ h => by cases h⟩
theorem satOfC_lt {x : InstD} {w : WishD} (h : 0 < x.sats.length) (c : Nat) : satOfC x w c < x.sats.length ∧ ((satOfC x w c : Nat) : Int) = atD w.sats c % (x.sats.length : Int) := by
  have h1 := Int.emod_nonneg (atD w.sats c) (show (x.sats.length : Int) ≠ 0 by omega)
  have h2 := Int.emod_lt_of_pos (atD w.sats c) (show 0 < (x.sats.length : Int) by omega)
  unfold satOfC
  omega
theorem BkOk.load {x : InstD} {k : Nat} {lo : List Int} {bs : List BikeD} (h : BkOk x k lo bs) (w : WishD) (c : Nat) (hc : 0 ≤ (custD x c).load ∧ (custD x c).load ≤ 1000) :
    (loadStep x w c lo).length = x.sats.length ∧ ∀ v ∈ loadStep x w c lo, 0 ≤ v ∧ v ≤ 1000 * ((k + 1 : Nat) : Int) := by
  refine ⟨by unfold loadStep; rw [List.length_set]; exact h.loL, fun v hv => ?_⟩
  rcases List.mem_or_eq_of_mem_set hv with hv | rfl
  · have := h.loB v hv; push_cast; omega
  · have : 0 ≤ lo.getD (satOfC x w c) 0 ∧ lo.getD (satOfC x w c) 0 ≤ 1000 * (k : Int) := by
      rw [List.getD_eq_getElem?_getD]
      by_cases hk : satOfC x w c < lo.length
      · rw [List.getElem?_eq_getElem hk]; exact h.loB _ (List.getElem_mem hk)
      · rw [List.getElem?_eq_none (by omega)]; simp; omega
    push_cast; omega
theorem BkOk.step {x : InstD} {k : Nat} {lo : List Int} {bs : List BikeD} (h : BkOk x k lo bs) (w : WishD) {i c : Nat} (hc : 0 ≤ (custD x c).load ∧ (custD x c).load ≤ 1000) (hs : 0 < x.sats.length) (hcl : c < x.custs.length) : BkOk x (k + 1) (loadStep x w c lo) (bikeStep x w i c bs) := by
  have h1 := h.load w c hc
  refine ⟨h1.1, h1.2, ?_, fun b hb => ?_⟩
  · unfold bikeStep addBk
    have := h.bsL
    split
    · rw [List.length_set]; omega
    · rw [List.length_append]; simp; omega
  · unfold bikeStep at hb
    split at hb
    · rename_i hj
      unfold joinB at hj
      simp only [Bool.and_eq_true, decide_eq_true_eq] at hj
      have hl := lastUp_bd bs (satOfC x w c) bs.length
      have hk : (lastUp bs (satOfC x w c) bs.length).toNat < bs.length := by omega
      unfold addBk at hb
      rcases List.mem_or_eq_of_mem_set hb with hb | rfl
      · have := h.bsB b hb; exact ⟨this.1, by omega, this.2.2⟩
      · rw [List.getD_eq_getElem?_getD, List.getElem?_eq_getElem hk, Option.getD_some]
        have := h.bsB _ (List.getElem_mem hk)
        refine ⟨this.1, by rw [List.length_append]; simp; omega, fun d hd => ?_⟩
        rcases List.mem_append.1 hd with hd | hd
        · exact this.2.2 d hd
        · obtain rfl := List.mem_singleton.1 hd; omega
    · rcases List.mem_append.1 hb with hb | hb
      · have := h.bsB b hb; exact ⟨this.1, by omega, this.2.2⟩
      · obtain rfl := List.mem_singleton.1 hb
        have := (satOfC_lt (w := w) hs c).1
        refine ⟨by simp only []; omega, by simp, fun d hd => ?_⟩
        obtain rfl := List.mem_singleton.1 hd; omega
theorem draftUp_ok {x : InstD} (w : WishD) {os : List Nat} (hc : ∀ c ∈ x.custs, 0 ≤ c.load ∧ c.load ≤ 1000) (hs : 0 < x.sats.length) (ho : ∀ c ∈ os, c < x.custs.length) : ∀ k, k ≤ os.length → BkOk x k (draftUp x w os k).1 (draftUp x w os k).2
  | 0, _ => BkOk.nil x
  | k + 1, h => by
    have hk : os.getD k 0 < x.custs.length := by rw [List.getD_eq_getElem?_getD, List.getElem?_eq_getElem (by omega)]; exact ho _ (List.getElem_mem _)
    refine (draftUp_ok w hc hs ho k (by omega)).step w ?_ hs hk
    unfold custD
    rw [Int.toNat_natCast, List.getD_eq_getElem?_getD, List.getElem?_eq_getElem hk]
    exact hc _ (List.getElem_mem hk)
/-- What one satellite gets, truck by truck; a new truck where the cuts say so. -/
def readyQ (many room : Int) (q : Bool) (st : List (List StopD) × Int) : List (List StopD) × Int := if st.2 = 0 ∨ (q = true ∧ (st.1.length : Int) < many) then (st.1 ++ [[]], room) else st
def dOne (many room : Int) (q : Bool) (s : Nat) : Nat → Int → List (List StopD) × Int → List (List StopD) × Int
  | 0, _, st => st
  | f + 1, n, st => if n ≤ 0 then st else
      dOne many room q s f (n - min n (readyQ many room q st).2) (addLast (readyQ many room q st).1 ⟨s, min n (readyQ many room q st).2⟩, (readyQ many room q st).2 - min n (readyQ many room q st).2)
def cutQ (w : WishD) (s : Nat) : Bool := decide (atD w.cuts s % 7 = 6)
def dUp (x : InstD) (w : WishD) (lo : List Int) : Nat → List (List StopD) × Int
  | 0 => ([], 0)
  | s + 1 => dOne x.tmany x.troom (cutQ w s) s (lo.getD s 0).toNat (lo.getD s 0) (dUp x w lo s)
/-- wharfagelaw17.Draft -/
def draftOrd (x : InstD) (w : WishD) : List Nat := orderUp w.order x.custs.length
def draftLB (x : InstD) (w : WishD) : List Int × List BikeD := draftUp x w (draftOrd x w) (draftOrd x w).length
def draftD (x : InstD) (w : WishD) : PlanD := ⟨(dUp x w (draftLB x w).1 (draftLB x w).1.length).1, (draftLB x w).2⟩
theorem dOne_done {many room : Int} {q : Bool} {s f : Nat} {n : Int} {st : List (List StopD) × Int} (h : n ≤ 0) : dOne many room q s f n st = st := by
  cases f with
  | zero => rfl
  | succ f => unfold dOne; rw [if_pos h]
theorem UnitOk.readyQ {many room left : Int} {q : Bool} {cnt : Nat} {out : List (List StopD)} (h : UnitOk room cnt out left) (hr : 1 ≤ room) :
    ∃ o l, Go.Proofs.Ytafhjfkdlmijdaa.readyQ many room q (out, left) = (o, l) ∧ 0 < l ∧ l ≤ room ∧ 0 < o.length ∧ o.length ≤ cnt + 1 ∧ ∀ t ∈ o, t.length ≤ cnt ∧ ∀ s ∈ t, (0 ≤ s.sat ∧ s.sat ≤ 1000) ∧ 0 ≤ s.load ∧ s.load ≤ cnt := by
  have hl := h.leftB
  have hn := h.lenB
  unfold Go.Proofs.Ytafhjfkdlmijdaa.readyQ
  by_cases hz : left = 0 ∨ (q = true ∧ (out.length : Int) < many)
  · rw [if_pos hz]
    refine ⟨_, _, rfl, by omega, Int.le_refl _, by simp, by simp; omega, fun t ht => ?_⟩
    rcases List.mem_append.1 ht with ht | ht
    · exact h.stB t ht
    · obtain rfl := List.mem_singleton.1 ht
      exact ⟨Nat.zero_le _, fun s hs => by cases hs⟩
  · rw [if_neg hz]
    have hz2 : left ≠ 0 := fun e => hz (.inl e)
    exact ⟨out, left, rfl, by omega, hl.2, h.someB (by omega), by omega, h.stB⟩
theorem UnitOk.batch {room l much : Int} {cnt s : Nat} {o : List (List StopD)} (hl : 0 < l ∧ l ≤ room) (ho : 0 < o.length ∧ o.length ≤ cnt + 1) (hst : ∀ t ∈ o, t.length ≤ cnt ∧ ∀ s ∈ t, (0 ≤ s.sat ∧ s.sat ≤ 1000) ∧ 0 ≤ s.load ∧ s.load ≤ cnt) (hm : 1 ≤ much ∧ much ≤ l) (hs : s ≤ 1000) :
    UnitOk room (cnt + much.toNat) (addLast o ⟨s, much⟩) (l - much) := by
  refine ⟨by omega, by rw [addLast_len]; omega, fun _ => by rw [addLast_len]; exact ho.1, fun t ht => ?_⟩
  unfold addLast at ht
  rcases List.mem_or_eq_of_mem_set ht with ht | rfl
  · have := hst t ht; exact ⟨by omega, fun u hu => by have := this.2 u hu; push_cast; omega⟩
  · have := hst _ (lastT_mem ho.1)
    unfold lastT at this
    refine ⟨by rw [List.length_append, List.length_singleton]; omega, fun u hu => ?_⟩
    rcases List.mem_append.1 hu with hu | hu
    · have := this.2 u hu; push_cast; omega
    · obtain rfl := List.mem_singleton.1 hu
      show (0 ≤ (s : Int) ∧ (s : Int) ≤ 1000) ∧ 0 ≤ much ∧ much ≤ ((cnt + much.toNat : Nat) : Int)
      omega
end Go.Proofs.Ytafhjfkdlmijdaa
