/- What haul.Trucks makes fits: trucks that are full, each one's stops at satellites of its own, all loads brought. No program in sight. -/
import Derived.Test.YtafhjfkdlmijdaaCodeD
import Derived.Test.YtafhjfkdlmijdaaWhole
import Derived.Test.YtafhjfkdlmijdaaTrucksW
import Derived.Test.YtafhjfkdlmijdaaDraftD
namespace Go.Proofs.Ytafhjfkdlmijdaa
open Go.RowKit

/-! Sums. -/
theorem sum_set : ∀ (l : List Int) (k : Nat) (h : k < l.length) (v : Int), (l.set k v).sum = l.sum + (v - l[k])
  | a :: l, 0, _, v => by simp; omega
  | a :: l, k + 1, h, v => by
    rw [List.set_cons_succ, List.sum_cons, List.sum_cons, sum_set l k (Nat.lt_of_succ_lt_succ h) v, List.getElem_cons_succ]; omega
def bump (l : List Int) (k : Nat) (v : Int) : List Int := l.set k (l.getD k 0 + v)
theorem bump_len (l : List Int) (k : Nat) (v : Int) : (bump l k v).length = l.length := by unfold bump; simp
theorem bump_get (l : List Int) {k : Nat} (h : k < l.length) (v : Int) (i : Nat) : (bump l k v).getD i 0 = l.getD i 0 + if k = i then v else 0 := by
  unfold bump
  rw [List.getD_eq_getElem?_getD, List.getElem?_set]
  by_cases e : k = i
  · subst e; rw [if_pos rfl, if_pos rfl, if_pos h]; rfl
  · rw [if_neg e, if_neg e, List.getD_eq_getElem?_getD]; omega
theorem bump_sum {l : List Int} {k : Nat} (h : k < l.length) (v : Int) : (bump l k v).sum = l.sum + v := by
  unfold bump
  rw [sum_set l k h, List.getD_eq_getElem?_getD, List.getElem?_eq_getElem h, Option.getD_some]; omega
theorem list_ext_getD {a b : List Int} (h : a.length = b.length) (he : ∀ i, i < a.length → a.getD i 0 = b.getD i 0) : a = b := by
  refine List.ext_getElem h fun i h1 h2 => ?_
  have := he i h1
  rw [List.getD_eq_getElem?_getD, List.getD_eq_getElem?_getD, List.getElem?_eq_getElem h1, List.getElem?_eq_getElem h2] at this
  exact this
theorem bump_bump {l : List Int} {k : Nat} (h : k < l.length) (a b : Int) : bump (bump l k a) k b = bump l k (a + b) := by
  refine list_ext_getD (by simp only [bump_len]) fun i _ => ?_
  rw [bump_get _ (by rw [bump_len]; exact h), bump_get _ h, bump_get _ h]
  split <;> omega
theorem bump_zero {l : List Int} {k : Nat} (h : k < l.length) : bump l k 0 = l := by
  refine list_ext_getD (bump_len _ _ _) fun i _ => ?_
  rw [bump_get _ h]; split <;> omega
theorem bumps_len (l : List Int) : ∀ (ss : List Nat) (d : List Int), (ss.foldl (fun d s => bump d s (l.getD s 0)) d).length = d.length
  | [], _ => rfl
  | s :: ss, d => by rw [List.foldl_cons, bumps_len l ss, bump_len]
theorem bumps_get (l : List Int) : ∀ (ss : List Nat) (d : List Int), ss.Nodup → (∀ s ∈ ss, s < d.length) → ∀ i, (ss.foldl (fun d s => bump d s (l.getD s 0)) d).getD i 0 = d.getD i 0 + if i ∈ ss then l.getD i 0 else 0
  | [], d, _, _, i => by simp
  | s :: ss, d, hn, hl, i => by
    have hn' := List.nodup_cons.1 hn
    have hs := hl s (List.mem_cons_self ..)
    rw [List.foldl_cons, bumps_get l ss _ hn'.2 (fun t ht => by rw [bump_len]; exact hl t (List.mem_cons_of_mem _ ht)), bump_get _ hs]
    by_cases e : s = i
    · subst e
      rw [if_pos rfl, if_neg hn'.1, if_pos (List.mem_cons_self ..)]; omega
    · rw [if_neg e]
      by_cases e2 : i ∈ ss
      · rw [if_pos e2, if_pos (List.mem_cons_of_mem _ e2)]; omega
      · rw [if_neg e2, if_neg (fun h => by rcases List.mem_cons.1 h with h | h; exact e h.symm; exact e2 h)]; omega
theorem foldR_nodup {α : Type} {lt : α → α → Bool} : ∀ (l acc : List α), l.Nodup → acc.Nodup → (∀ a ∈ l, a ∉ acc) → (l.foldl (fun acc x => insR lt x acc) acc).Nodup
  | [], acc, _, h, _ => h
  | x :: l, acc, hl, ha, hd => by
    have hl' := List.nodup_cons.1 hl
    rw [List.foldl_cons]
    refine foldR_nodup l _ hl'.2 (insR_nodup (hd x (List.mem_cons_self ..)) ha) fun a hal hm => ?_
    rcases (insR_mem _ _ _ _).1 hm with rfl | hm
    · exact hl'.1 hal
    · exact hd a (List.mem_cons_of_mem _ hal) hm
theorem sortD_nodup {α : Type} {lt : α → α → Bool} {l : List α} (h : l.Nodup) : (sortD lt l).Nodup := foldR_nodup l [] h List.nodup_nil fun _ _ h => by cases h
theorem idxs_nodup (l : List Int) (k : Nat) : (idxs l k).Nodup := List.Pairwise.filter _ List.nodup_range

/-! Trucks that may go. -/
def loadSum (t : List StopD) : Int := (t.map StopD.load).sum
theorem loadSum_snoc (t : List StopD) (s : StopD) : loadSum (t ++ [s]) = loadSum t + s.load := by
  unfold loadSum; rw [List.map_append, List.sum_append]; simp
structure TruckFit (x : InstD) (t : List StopD) : Prop where
  pos : 0 < t.length
  ok : ∀ o ∈ t, StopOk x o
  nodup : (t.map StopD.sat).Nodup
  room : loadSum t ≤ x.troom
theorem truckSt_fit {x : InstD} : ∀ (t pre : List StopD) (m : Nat) (left : Int), SeenS m pre → (∀ o ∈ t, StopOk x o) → ((pre ++ t).map StopD.sat).Nodup → ∃ m', t.foldl (stopSt x) (some (m, left)) = some (m', left - loadSum t)
  | [], pre, m, left, hs, _, _ => ⟨m, by simp [loadSum]⟩
  | s :: t, pre, m, left, hs, ho, hn => by
    have h0 := ho s (List.mem_cons_self ..)
    have hc : codeStop x pre s = true := by
      simp only [codeStop, thereB, Bool.and_eq_true, decide_eq_true_eq, List.all_eq_true, bne_iff_ne]
      refine ⟨⟨⟨h0.1, h0.2.1⟩, h0.2.2⟩, fun o ho e => ?_⟩
      rw [List.map_append, List.nodup_append] at hn
      exact hn.2.2 _ (List.mem_map_of_mem ho) s.sat (by simp) e
    have hb : stopBad x m s = false := by rw [codeStop_bad hs] at hc; simpa using hc
    obtain ⟨m', h⟩ := truckSt_fit t (pre ++ [s]) (m ||| 2 ^ s.sat.toNat) (left - s.load) (hs.push h0.1.1) (fun o h => ho o (List.mem_cons_of_mem _ h)) (by rw [List.append_assoc]; exact hn)
    refine ⟨m', ?_⟩
    rw [List.foldl_cons, stopSt_ok hb, h]
    simp only [loadSum, List.map_cons, List.sum_cons]
    congr 2; omega
theorem trucksB_fit {x : InstD} : ∀ l : List (List StopD), (∀ t ∈ l, TruckFit x t) → truckGo x l true true = (true, true)
  | [], _ => rfl
  | t :: l, h => by
    have ht := h t (List.mem_cons_self ..)
    obtain ⟨m, e⟩ := truckSt_fit t [] 0 x.troom SeenS.nil ht.ok ht.nodup
    rw [truckGo_ok (m := m) (left := x.troom - loadSum t) e, decide_eq_true ht.pos, decide_eq_true (by have := ht.room; omega)]
    exact trucksB_fit l fun t h' => h t (List.mem_cons_of_mem _ h')

theorem addLast_snoc (l : List (List StopD)) (t : List StopD) (s : StopD) : addLast (l ++ [t]) s = l ++ [t ++ [s]] := by
  unfold addLast
  rw [List.length_append, List.length_singleton, Nat.add_sub_cancel, List.getD_eq_getElem?_getD, List.getElem?_append_right (Nat.le_refl _), Nat.sub_self, List.set_append_right _ _ (Nat.le_refl _), Nat.sub_self]; rfl
theorem lastT_snoc (l : List (List StopD)) (t : List StopD) : lastT (l ++ [t]) = t := by
  unfold lastT
  rw [List.length_append, List.length_singleton, Nat.add_sub_cancel, List.getD_eq_getElem?_getD, List.getElem?_append_right (Nat.le_refl _), Nat.sub_self]; rfl
theorem snoc_of_pos {α : Type} {l : List α} (h : 0 < l.length) : ∃ l' a, l = l' ++ [a] := ⟨l.dropLast, l.getLast (List.ne_nil_of_length_pos h), (List.dropLast_concat_getLast _).symm⟩

/-- What holds of the trucks while they are filled; D: from where their stops may be. -/
structure Fit (x : InstD) (D : Nat → Prop) (dr : List Int) (out : List (List StopD)) (left : Int) : Prop where
  drop : out.foldl addTruck (zerosD x.sats.length) = dr
  many : (out.length : Int) ≤ x.tmany
  leftB : 0 ≤ left ∧ left < x.troom
  sum : dr.sum = x.troom * (out.length : Int) - left
  cnt : (((out.map List.length).sum : Nat) : Int) ≤ dr.sum
  trucks : ∀ t ∈ out, TruckFit x t
  last : 0 < left → 0 < out.length ∧ loadSum (lastT out) = x.troom - left
  sats : ∀ t ∈ out, ∀ o ∈ t, D o.sat.toNat
theorem Fit.len {x : InstD} {D : Nat → Prop} {dr : List Int} {out : List (List StopD)} {left : Int} (h : Fit x D dr out left) : dr.length = x.sats.length := by
  rw [← h.drop, addTrucks_len]; simp [zerosD]
theorem Fit.nil {x : InstD} {D : Nat → Prop} (hr : 1 ≤ x.troom) (hm : 0 ≤ x.tmany) : Fit x D (zerosD x.sats.length) [] 0 :=
  ⟨rfl, hm, by omega, by simp [zerosD], by simp [zerosD], (fun _ h => by cases h), fun h => absurd h (by decide), fun _ h => by cases h⟩
theorem Fit.imp {x : InstD} {D D' : Nat → Prop} {dr : List Int} {out : List (List StopD)} {left : Int} (h : Fit x D dr out left) (hd : ∀ s, D s → D' s) : Fit x D' dr out left :=
  ⟨h.drop, h.many, h.leftB, h.sum, h.cnt, h.trucks, h.last, fun t ht o ho => hd _ (h.sats t ht o ho)⟩
theorem Fit.stop {x : InstD} {D : Nat → Prop} {dr : List Int} {out : List (List StopD)} {left k : Int} {s : Nat} (h : Fit x D dr out left) (hl : 0 < left) (hs : s < x.sats.length) (hD : D s) (hns : ∀ o ∈ lastT out, o.sat ≠ s) (hk : 1 ≤ k ∧ k ≤ left) (hr : x.troom ≤ 1000000000) :
    Fit x D (bump dr s k) (addLast out ⟨s, k⟩) (left - k) := by
  obtain ⟨h1, h2⟩ := h.last hl
  obtain ⟨l, t, rfl⟩ := snoc_of_pos h1
  rw [lastT_snoc] at h2 hns
  have hb := h.leftB
  have hsum := h.sum
  have hcnt := h.cnt
  have hsl : s < dr.length := by rw [h.len]; exact hs
  have ht := h.trucks t (by simp)
  rw [addLast_snoc]
  refine ⟨?_, ?_, by omega, ?_, ?_, fun t' ht' => ?_, fun _ => ⟨by simp, ?_⟩, fun t' ht' o ho => ?_⟩
  · have hd := h.drop
    rw [List.foldl_append, List.foldl_cons, List.foldl_nil] at hd ⊢
    unfold addTruck at hd ⊢
    rw [List.foldl_append, hd]; rfl
  · have := h.many; simp only [List.length_append, List.length_singleton] at this ⊢; exact this
  · rw [bump_sum hsl, hsum]; simp only [List.length_append, List.length_singleton]; omega
  · rw [bump_sum hsl]
    simp only [List.map_append, List.sum_append, List.map_cons, List.map_nil, List.sum_cons, List.sum_nil, List.length_append, List.length_singleton, Nat.add_zero] at hcnt ⊢
    push_cast at hcnt ⊢; omega
  · rcases List.mem_append.1 ht' with ht' | ht'
    · exact h.trucks t' (List.mem_append_left _ ht')
    · obtain rfl := List.mem_singleton.1 ht'
      refine ⟨by simp, fun o ho => ?_, ?_, by rw [loadSum_snoc]; show _ + k ≤ _; omega⟩
      · rcases List.mem_append.1 ho with ho | ho
        · exact ht.ok o ho
        · obtain rfl := List.mem_singleton.1 ho
          exact ⟨⟨Int.natCast_nonneg _, by show ((s : Nat) : Int) < _; omega⟩, by show 1 ≤ k; omega, by show k ≤ _; omega⟩
      · rw [List.map_append, List.nodup_append]
        refine ⟨ht.nodup, by simp, fun a ha b hb e => ?_⟩
        obtain ⟨o, ho, rfl⟩ := List.mem_map.1 ha
        simp only [List.map_cons, List.map_nil, List.mem_singleton] at hb
        exact hns o ho (e.trans hb)
  · rw [lastT_snoc, loadSum_snoc, h2]; show _ + k = _; omega
  · rcases List.mem_append.1 ht' with ht' | ht'
    · exact h.sats t' (List.mem_append_left _ ht') o ho
    · obtain rfl := List.mem_singleton.1 ht'
      rcases List.mem_append.1 ho with ho | ho
      · exact h.sats t (by simp) o ho
      · obtain rfl := List.mem_singleton.1 ho
        show D ((s : Int)).toNat
        rw [Int.toNat_natCast]; exact hD
theorem Fit.push {x : InstD} {D : Nat → Prop} {dr : List Int} {out : List (List StopD)} {k : Int} {s : Nat} (h : Fit x D dr out 0) (hm : (out.length : Int) ≠ x.tmany) (hs : s < x.sats.length) (hD : D s) (hk : 1 ≤ k ∧ k ≤ x.troom) (hr : x.troom ≤ 1000000000) :
    Fit x D (bump dr s k) (addLast (out ++ [[]]) ⟨s, k⟩) (x.troom - k) := by
  have hb := h.leftB
  have hsum := h.sum
  have hcnt := h.cnt
  have hsl : s < dr.length := by rw [h.len]; exact hs
  have hmm := h.many
  rw [addLast_snoc, List.nil_append]
  refine ⟨?_, ?_, by omega, ?_, ?_, fun t' ht' => ?_, fun _ => ⟨by simp, ?_⟩, fun t' ht' o ho => ?_⟩
  · rw [List.foldl_append, h.drop]; rfl
  · simp only [List.length_append, List.length_singleton]; push_cast; omega
  · rw [bump_sum hsl, hsum]; simp only [List.length_append, List.length_singleton]; push_cast; rw [Int.mul_add]; omega
  · rw [bump_sum hsl]
    simp only [List.map_append, List.sum_append, List.map_cons, List.map_nil, List.sum_cons, List.sum_nil, List.length_singleton, Nat.add_zero] at hcnt ⊢
    push_cast at hcnt ⊢; omega
  · rcases List.mem_append.1 ht' with ht' | ht'
    · exact h.trucks t' ht'
    · obtain rfl := List.mem_singleton.1 ht'
      refine ⟨by simp, fun o ho => ?_, by simp, by show (List.map StopD.load [⟨(s : Int), k⟩]).sum ≤ _; simp; omega⟩
      obtain rfl := List.mem_singleton.1 ho
      exact ⟨⟨Int.natCast_nonneg _, by show ((s : Nat) : Int) < _; omega⟩, by show 1 ≤ k; omega, by show k ≤ _; omega⟩
  · rw [lastT_snoc]; show (List.map StopD.load [⟨(s : Int), k⟩]).sum = _; simp; omega
  · rcases List.mem_append.1 ht' with ht' | ht'
    · exact h.sats t' ht' o ho
    · obtain rfl := List.mem_singleton.1 ht'
      obtain rfl := List.mem_singleton.1 ho
      show D ((s : Int)).toNat
      rw [Int.toNat_natCast]; exact hD
theorem fillOne_fit {x : InstD} (hr : 1 ≤ x.troom ∧ x.troom ≤ 1000000000) {s : Nat} (hs : s < x.sats.length) {D : Nat → Prop} (hD : D s) : ∀ (f : Nat) (n : Int) (out : List (List StopD)) (left : Int) (dr : List Int) (o : List (List StopD)) (l : Int), n.toNat ≤ f → 0 ≤ n → Fit x D dr out left →
    (0 < n → 0 < left → ∀ o ∈ lastT out, o.sat ≠ s) → fillOne x.tmany x.troom s f n out left = some (o, l) → Fit x D (bump dr s n) o l
  | 0, n, out, left, dr, o, l, hn, h0, h, hne, e => by
    obtain rfl : n = 0 := by omega
    unfold fillOne at e
    obtain ⟨rfl, rfl⟩ := Prod.mk.inj (Option.some.inj e)
    rw [bump_zero (by rw [h.len]; exact hs)]; exact h
  | f + 1, n, out, left, dr, o, l, hn, h0, h, hne, e => by
    have hsl : s < dr.length := by rw [h.len]; exact hs
    by_cases hn0 : n ≤ 0
    · obtain rfl : n = 0 := by omega
      rw [fillOne_done (Int.le_refl _)] at e
      obtain ⟨rfl, rfl⟩ := Prod.mk.inj (Option.some.inj e)
      rw [bump_zero hsl]; exact h
    · have hlb := h.leftB
      by_cases hl0 : left = 0
      · subst hl0
        by_cases hno : (out.length : Int) = x.tmany ∨ x.troom = 0
        · rw [fillOne_none (by omega) hno] at e; cases e
        · rw [fillOne_push (by omega) hno] at e
          have hp := h.push (s := s) (k := min n x.troom) (fun e => hno (.inl e)) hs hD (by omega) hr.2
          have ih := fillOne_fit hr hs hD f (n - min n x.troom) _ _ _ o l (by omega) (by omega) hp (fun h1 h2 => by omega) e
          rw [bump_bump hsl, show min n x.troom + (n - min n x.troom) = n by omega] at ih
          exact ih
      · rw [fillOne_step (by omega) hl0] at e
        have hp := h.stop (s := s) (k := min n left) (by omega) hs hD (hne (by omega) (by omega)) (by omega) hr.2
        have ih := fillOne_fit hr hs hD f (n - min n left) _ _ _ o l (by omega) (by omega) hp (fun h1 h2 => by omega) e
        rw [bump_bump hsl, show min n left + (n - min n left) = n by omega] at ih
        exact ih
theorem lastT_none : lastT ([] : List (List StopD)) = [] := rfl
theorem fillAll_fit {x : InstD} (hr : 1 ≤ x.troom ∧ x.troom ≤ 1000000000) {l : List Int} (hl : ∀ s, 0 ≤ l.getD s 0) : ∀ (ss : List Nat) (D : Nat → Prop) (dr : List Int) (out : List (List StopD)) (left : Int) (res : List (List StopD)), ss.Nodup → (∀ s ∈ ss, s < x.sats.length ∧ ¬ D s) →
    Fit x D dr out left → fillAll x.tmany x.troom l ss out left = some res → ∃ D' left', Fit x D' (ss.foldl (fun d s => bump d s (l.getD s 0)) dr) res left'
  | [], D, dr, out, left, res, _, _, h, e => by
    obtain rfl := Option.some.inj e
    exact ⟨D, left, h⟩
  | s :: ss, D, dr, out, left, res, hn, hs, h, e => by
    have hn' := List.nodup_cons.1 hn
    have hs0 := hs s (List.mem_cons_self ..)
    rw [fillAll_cons] at e
    split at e
    · cases e
    · rename_i o l' he
      have h1 := fillOne_fit hr hs0.1 (D := fun i => D i ∨ i = s) (.inr rfl) _ _ out left dr o l' (Nat.le_refl _) (hl s) (h.imp fun _ => .inl) (fun _ h2 u hu e => by
        obtain ⟨h3, -⟩ := h.last h2
        have := h.sats _ (lastT_mem h3) u hu
        rw [e, Int.toNat_natCast] at this
        exact hs0.2 this) he
      exact fillAll_fit hr hl ss _ _ _ _ _ hn'.2 (fun t ht => ⟨(hs t (List.mem_cons_of_mem _ ht)).1, fun hd => by
        rcases hd with hd | rfl
        · exact (hs t (List.mem_cons_of_mem _ ht)).2 hd
        · exact hn'.1 ht⟩) h1 e
/-- The trucks that haul.Trucks makes. -/
theorem trucksH_fit {x : InstD} {l : List Int} (hr : 1 ≤ x.troom ∧ x.troom ≤ 1000000000) (hm : 0 ≤ x.tmany) (hl : l.length = x.sats.length) (he : (trucksH x l).2 = 0) (hck : check x = 0) :
    ∃ D left, Fit x D l (trucksH x l).1 left := by
  unfold trucksH at he ⊢
  rw [if_neg (by simpa using hck), if_neg (by simpa using hl)] at he ⊢
  cases hb : badLoads x l l.length with
  | true => rw [hb, if_pos rfl] at he; exact absurd he (by decide)
  | false =>
    rw [hb] at he
    rw [if_neg (by decide)] at he ⊢
    have hlb : ∀ s, 0 ≤ l.getD s 0 := fun s => by
      by_cases hs : s < l.length
      · unfold badLoads at hb
        rw [List.any_eq_false] at hb
        have := hb s (List.mem_range.2 hs)
        simp only [badLoad, Bool.or_eq_true, decide_eq_true_eq, not_or] at this
        omega
      · rw [List.getD_eq_getElem?_getD, List.getElem?_eq_none (by omega)]; exact Int.le_refl _
    cases hf : fillAll x.tmany x.troom l (orderD x l) [] 0 with
    | none => rw [hf] at he; exact absurd he (by decide)
    | some res =>
      have hon : (orderD x l).Nodup := by
        unfold orderD
        split
        · exact sortD_nodup (idxs_nodup _ _)
        · exact List.nodup_nil
      obtain ⟨D, left, h⟩ := fillAll_fit hr hlb (orderD x l) (fun _ => False) (zerosD x.sats.length) [] 0 res hon (fun s hs => ⟨by rw [← hl]; exact orderD_lt hs, id⟩) (Fit.nil hr.1 hm) hf
      refine ⟨D, left, ?_⟩
      have e : (orderD x l).foldl (fun d s => bump d s (l.getD s 0)) (zerosD x.sats.length) = l := by
        refine list_ext_getD (by rw [bumps_len]; simp [zerosD, hl]) fun i hi => ?_
        rw [bumps_get l _ _ hon (fun s hs => by have := orderD_lt hs; simp only [zerosD, List.length_replicate]; omega)]
        have hz : (zerosD x.sats.length).getD i 0 = 0 := by
          unfold zerosD
          rw [List.getD_eq_getElem?_getD, List.getElem?_replicate]; split <;> rfl
        rw [hz]
        have hmem : i ∈ orderD x l ↔ i ∈ idxs l l.length := by
          unfold orderD
          rw [if_pos ⟨hck, hl⟩, sortD_mem]
        by_cases hp : 0 < l.getD i 0
        · rw [if_pos, Int.zero_add]
          rw [hmem]
          refine List.mem_filter.2 ⟨List.mem_range.2 ?_, by simpa using hp⟩
          rw [bumps_len] at hi; simp only [zerosD, List.length_replicate] at hi; omega
        · rw [if_neg, Int.zero_add]
          · have := hlb i; omega
          · rw [hmem]
            intro h'
            have := (List.mem_filter.1 h').2
            exact hp (by simpa using this)
      rw [e] at h
      exact h
theorem trucksH_err {x : InstD} {l : List Int} (hck : check x = 0) (he : (trucksH x l).2 ≠ 0) : (trucksH x l).2 = 11 ∨ (trucksH x l).2 = 2 := by
  unfold trucksH at he ⊢
  rw [if_neg (by simpa using hck)] at he ⊢
  by_cases h1 : l.length ≠ x.sats.length
  · rw [if_pos h1]; exact .inr rfl
  · rw [if_neg h1] at he ⊢
    cases hb : badLoads x l l.length with
    | true => exact .inr (by rw [if_pos rfl])
    | false =>
      rw [hb] at he
      rw [if_neg (by decide)] at he ⊢
      cases hf : fillAll x.tmany x.troom l (orderD x l) [] 0 with
      | none => exact .inl rfl
      | some res => rw [hf] at he; exact absurd rfl he

/-! The loads of a draft's bikes, all together. -/
def sumLoads (x : InstD) (bs : List BikeD) : Int := (bs.map fun b => (b.stops.map fun c => (custD x c).load).sum).sum
def BikesIn (x : InstD) (bs : List BikeD) : Prop := ∀ b ∈ bs, (0 ≤ b.sat ∧ b.sat < x.sats.length) ∧ ∀ c ∈ b.stops, 0 ≤ c ∧ c < x.custs.length
theorem addLoads_sum {x : InstD} {sat : Int} (hs : 0 ≤ sat ∧ sat < x.sats.length) : ∀ (l : List Int) (out : List Int), out.length = x.sats.length → (∀ c ∈ l, 0 ≤ c ∧ c < x.custs.length) → (l.foldl (addLoad x sat) out).sum = out.sum + (l.map fun c => (custD x c).load).sum
  | [], out, _, _ => by simp
  | c :: l, out, ho, hc => by
    have h0 := hc c (List.mem_cons_self ..)
    rw [List.foldl_cons, addLoads_sum hs l _ (by rw [addLoad_len]; exact ho) (fun d hd => hc d (List.mem_cons_of_mem _ hd)), List.map_cons, List.sum_cons]
    have e : addLoad x sat out c = bump out sat.toNat (custD x c).load := by
      unfold addLoad
      rw [if_pos (by rw [ho]; omega)]; rfl
    rw [e, bump_sum (by omega)]; omega
theorem addBikes_sum {x : InstD} : ∀ (l : List BikeD) (out : List Int), out.length = x.sats.length → BikesIn x l → (l.foldl (addBike x) out).sum = out.sum + sumLoads x l
  | [], out, _, _ => by simp [sumLoads]
  | b :: l, out, ho, hb => by
    have h0 := hb b (List.mem_cons_self ..)
    rw [List.foldl_cons, addBikes_sum l _ (by unfold addBike; rw [addLoads_len]; exact ho) (fun d hd => hb d (List.mem_cons_of_mem _ hd))]
    unfold addBike
    rw [addLoads_sum h0.1 _ _ ho h0.2]
    simp only [sumLoads, List.map_cons, List.sum_cons]; omega
theorem loadsD_sum {x : InstD} {l : List BikeD} (h : BikesIn x l) : (loadsD x l).sum = sumLoads x l := by
  unfold loadsD
  rw [addBikes_sum l _ (by simp) h]; simp
theorem sumLoads_step {x : InstD} (w : WishD) (i c : Nat) (bs : List BikeD) : sumLoads x (bikeStep x w i c bs) = sumLoads x bs + (custD x c).load := by
  unfold bikeStep
  split
  · rename_i hj
    have hl := lastUp_bd bs (satOfC x w c) bs.length
    unfold joinB at hj
    simp only [Bool.and_eq_true, decide_eq_true_eq] at hj
    have hk : (lastUp bs (satOfC x w c) bs.length).toNat < bs.length := by omega
    generalize (lastUp bs (satOfC x w c) bs.length).toNat = k at hk
    unfold addBk sumLoads
    rw [List.map_set, sum_set _ k (by rw [List.length_map]; exact hk), List.getElem_map, List.getD_eq_getElem?_getD, List.getElem?_eq_getElem hk, Option.getD_some, List.map_append, List.sum_append]
    simp only [List.map_cons, List.map_nil, List.sum_cons, List.sum_nil]; omega
  · unfold sumLoads
    rw [List.map_append, List.sum_append]
    simp only [List.map_cons, List.map_nil, List.sum_cons, List.sum_nil]; omega
theorem sumLoads_draft {x : InstD} (w : WishD) (os : List Nat) : ∀ k, k ≤ os.length → sumLoads x (draftUp x w os k).2 = ((os.take k).map fun c => (custD x (c : Nat)).load).sum
  | 0, _ => by simp [draftUp, sumLoads]
  | k + 1, h => by
    show sumLoads x (bikeStep x w k (os.getD k 0) (draftUp x w os k).2) = _
    rw [sumLoads_step, sumLoads_draft w os k (by omega), List.take_succ_eq_append_getElem (by omega), List.map_append, List.sum_append, List.getD_eq_getElem?_getD, List.getElem?_eq_getElem (by omega)]
    simp
theorem orderUp_sum (o : List Int) (f : Nat → Int) : ∀ c, ((orderUp o c).map f).sum = ((List.range c).map f).sum
  | 0 => rfl
  | c + 1 => by
    have ih := orderUp_sum o f c
    generalize hk : insAt o c (orderUp o c).length = k
    have e : (((orderUp o c).take k).map f).sum + (((orderUp o c).drop k).map f).sum = ((orderUp o c).map f).sum := by
      rw [← List.sum_append, ← List.map_append, List.take_append_drop]
    simp only [orderUp]
    rw [hk, List.range_succ]
    simp only [List.map_append, List.map_cons, List.map_nil, List.sum_append, List.sum_cons, List.sum_nil]
    omega
theorem custs_sum (x : InstD) : ∀ k, k ≤ x.custs.length → ((List.range k).map fun c => (custD x (c : Nat)).load).sum = ((x.custs.take k).map CustD.load).sum
  | 0, _ => by simp
  | k + 1, h => by
    rw [List.range_succ, List.map_append, List.sum_append, custs_sum x k (by omega), loadUp_succ (by omega)]
    simp only [List.map_cons, List.map_nil, List.sum_cons, List.sum_nil, custD, Int.toNat_natCast]
    rw [List.getD_eq_getElem?_getD, List.getElem?_eq_getElem (by omega)]
    simp
theorem loadAll_bd {x : InstD} {n : Int} (h : ∀ c ∈ x.custs, 0 ≤ c.load ∧ c.load ≤ n) : 0 ≤ loadAll x ∧ loadAll x ≤ n * (x.custs.length : Int) := by
  unfold loadAll
  generalize x.custs = l at h
  induction l with
  | nil => simp
  | cons a l ih =>
    have h1 := h a (List.mem_cons_self ..)
    have h2 := ih fun c hc => h c (List.mem_cons_of_mem _ hc)
    rw [List.map_cons, List.sum_cons, List.length_cons]
    push_cast
    rw [Int.mul_add]; omega
theorem draft_loads {x : InstD} (w : WishD) (hc : ∀ c ∈ x.custs, 0 ≤ c.load ∧ c.load ≤ 1000) (hs : 0 < x.sats.length) : (loadsD x (draftD x w).bikes).sum = loadAll x := by
  have hk := draftUp_ok (x := x) w (os := draftOrd x w) hc hs (orderUp_lt _ _) (draftOrd x w).length (Nat.le_refl _)
  show (loadsD x (draftUp x w (draftOrd x w) (draftOrd x w).length).2).sum = _
  rw [loadsD_sum (fun b hb => ⟨(hk.bsB b hb).1, (hk.bsB b hb).2.2⟩), sumLoads_draft w _ _ (Nat.le_refl _), List.take_length]
  unfold draftOrd
  rw [orderUp_sum w.order (fun c => (custD x (c : Nat)).load), custs_sum x _ (Nat.le_refl _), List.take_length]; rfl
/-- HaulFits. -/
theorem fits_law {x : InstD} (w : WishD) (hck : check x = 0) (hc : ∀ c ∈ x.custs, 0 ≤ c.load ∧ c.load ≤ 1000) (hs : 0 < x.sats.length) (hr : 1 ≤ x.troom ∧ x.troom ≤ 1000000000) (hm : 0 ≤ x.tmany)
    (he : (wholeD x (draftD x w).bikes).2 = 0) : (((wholeD x (draftD x w).bikes).1.trucks.length : Nat) : Int) = (loadAll x + x.troom - 1) / x.troom ∧ (planCheck x (draftD x w) = 0 → planCheck x (wholeD x (draftD x w).bikes).1 = 0) ∧
      (wholeD x (draftD x w).bikes).1.bikes = (draftD x w).bikes ∧ ((tstopsUp (wholeD x (draftD x w).bikes).1.trucks (wholeD x (draftD x w).bikes).1.trucks.length : Nat) : Int) ≤ loadAll x := by
  have hll : (loadsD x (draftD x w).bikes).length = x.sats.length := loadsD_len x _
  have hsum := draft_loads w hc hs
  unfold wholeD at he ⊢
  by_cases e0 : (trucksH x (loadsD x (draftD x w).bikes)).2 = 0
  · rw [if_pos e0]
    obtain ⟨D, left, hF⟩ := trucksH_fit hr hm hll e0 hck
    generalize (trucksH x (loadsD x (draftD x w).bikes)).1 = T at hF
    refine ⟨?_, fun hp => ?_, rfl, ?_⟩
    · have h1 := hF.sum
      have h2 := hF.leftB
      rw [hsum] at h1
      show (T.length : Int) = _
      rw [h1]
      have e : x.troom * (T.length : Int) - left + x.troom - 1 = (x.troom - 1 - left) + x.troom * (T.length : Int) := by omega
      rw [e, Int.add_mul_ediv_left _ _ (by omega), Int.ediv_eq_zero_of_lt (by omega) (by omega)]; omega
    · unfold planCheck at hp ⊢
      rw [if_neg (by simpa using hck)] at hp ⊢
      by_cases a1 : x.tmany < (draftD x w).trucks.length ∨ x.bmany < (draftD x w).bikes.length
      · rw [if_pos a1] at hp; cases hp
      · rw [if_neg a1] at hp
        have hmm := hF.many
        rw [if_neg (by show ¬ (x.tmany < (T.length : Int) ∨ x.bmany < (draftD x w).bikes.length); omega)]
        by_cases a2 : (trucksB x (draftD x w).trucks).1 = false ∨ (bikesB x (draftD x w).bikes).1 = false
        · rw [if_pos a2] at hp; cases hp
        · rw [if_neg a2] at hp
          have ht : trucksB x T = (true, true) := trucksB_fit T hF.trucks
          show (if (trucksB x T).1 = false ∨ (bikesB x (draftD x w).bikes).1 = false then (15 : Int) else if (bikesB x (draftD x w).bikes).2.1 = false then 8 else if (trucksB x T).2 = false ∨ (bikesB x (draftD x w).bikes).2.2 = false then 10 else
            if overB x (loadsD x (draftD x w).bikes) x.sats.length = true then 10 else if loadsD x (draftD x w).bikes = dropsD x T then 0 else 13) = 0
          rw [ht]
          have hd : dropsD x T = loadsD x (draftD x w).bikes := hF.drop
          rw [hd, if_pos (rfl : loadsD x (draftD x w).bikes = loadsD x (draftD x w).bikes)]
          rw [if_neg (fun h => a2 (.inr (h.resolve_left (by decide))))]
          by_cases a3 : (bikesB x (draftD x w).bikes).2.1 = false
          · rw [if_pos a3] at hp; cases hp
          · rw [if_neg a3] at hp ⊢
            by_cases a4 : (trucksB x (draftD x w).trucks).2 = false ∨ (bikesB x (draftD x w).bikes).2.2 = false
            · rw [if_pos a4] at hp; cases hp
            · rw [if_neg a4] at hp
              rw [if_neg (fun h => a4 (.inr (h.resolve_left (by decide))))]
              by_cases a5 : overB x (loadsD x (draftD x w).bikes) x.sats.length = true
              · rw [if_pos a5] at hp; cases hp
              · rw [if_neg a5]
    · have h1 := hF.cnt
      rw [hsum] at h1
      unfold tstopsUp
      show ((((T.take T.length).map List.length).sum : Nat) : Int) ≤ _
      rw [List.take_length]
      exact h1
  · rw [if_neg e0] at he
    exact absurd he e0
theorem whole_err {x : InstD} {l : List BikeD} (hck : check x = 0) (he : (wholeD x l).2 ≠ 0) : (wholeD x l).2 = 11 ∨ (wholeD x l).2 = 2 := by
  unfold wholeD at he ⊢
  by_cases e0 : (trucksH x (loadsD x l)).2 = 0
  · rw [if_pos e0] at he; exact absurd rfl he
  · rw [if_neg e0]
    exact trucksH_err hck e0
end Go.Proofs.Ytafhjfkdlmijdaa
