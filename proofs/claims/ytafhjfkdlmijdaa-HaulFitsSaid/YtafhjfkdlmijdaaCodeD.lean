/- wharfagelaw17.Code, step by step: it goes the way that plan.Check goes. No program in sight. -/
import Derived.Test.YtafhjfkdlmijdaaLoadAll
namespace Go.Proofs.Ytafhjfkdlmijdaa
open Go.RowKit

/-- The satellites of these stops are the bits of m. -/
def SeenS (m : Nat) (pre : List StopD) : Prop := (∀ o ∈ pre, 0 ≤ o.sat) ∧ ∀ i, m.testBit i = pre.any (fun o => o.sat.toNat == i)
theorem SeenS.nil : SeenS 0 [] := ⟨fun _ h => (List.not_mem_nil h).elim, fun i => by simp⟩
theorem SeenS.push {m : Nat} {pre : List StopD} {s : StopD} (h : SeenS m pre) (hs : 0 ≤ s.sat) : SeenS (m ||| 2 ^ s.sat.toNat) (pre ++ [s]) := by
  refine ⟨fun o ho => ?_, fun i => ?_⟩
  · rcases List.mem_append.1 ho with ho | ho
    · exact h.1 o ho
    · rw [List.mem_singleton.1 ho]; exact hs
  · rw [Nat.testBit_or, Nat.testBit_two_pow, h.2 i, List.any_append, List.any_cons, List.any_nil, Bool.or_false]
    congr 1
def thereB (x : InstD) (s : Int) : Bool := decide (0 ≤ s) && decide (s < x.sats.length)
def codeStop (x : InstD) (pre : List StopD) (s : StopD) : Bool := ((thereB x s.sat && decide (1 ≤ s.load)) && decide (s.load ≤ 1000000000)) && pre.all (fun o => o.sat != s.sat)
theorem codeStop_bad {x : InstD} {m : Nat} {pre : List StopD} {s : StopD} (h : SeenS m pre) : codeStop x pre s = !stopBad x m s := by
  by_cases h0 : 0 ≤ s.sat
  · have e : m.testBit s.sat.toNat = !pre.all (fun o => o.sat != s.sat) := by
      rw [h.2, List.not_all_eq_any_not]
      rw [Bool.eq_iff_iff, List.any_eq_true, List.any_eq_true]
      constructor
      · rintro ⟨o, ho, e⟩
        refine ⟨o, ho, ?_⟩
        have := h.1 o ho
        simp at e ⊢; omega
      · rintro ⟨o, ho, e⟩
        refine ⟨o, ho, ?_⟩
        have := h.1 o ho
        simp at e ⊢; omega
    unfold codeStop stopBad thereB
    rw [e, Bool.eq_iff_iff]
    simp only [Bool.and_eq_true, decide_eq_true_eq, Bool.not_eq_true', Bool.or_eq_false_iff, decide_eq_false_iff_not, Bool.not_eq_false']
    constructor
    · rintro ⟨⟨⟨h1, h2⟩, h3⟩, h4⟩
      exact ⟨⟨⟨⟨by omega, by omega⟩, h4⟩, by omega⟩, by omega⟩
    · rintro ⟨⟨⟨⟨h1, h2⟩, h4⟩, h3⟩, h5⟩
      exact ⟨⟨⟨⟨by omega, by omega⟩, by omega⟩, by omega⟩, h4⟩
  · unfold codeStop stopBad thereB
    rw [decide_eq_false h0, decide_eq_true (show s.sat < 0 by omega)]; simp
theorem codeStop_ok {x : InstD} {pre : List StopD} {s : StopD} (h : codeStop x pre s = true) : StopOk x s := by
  simp only [codeStop, thereB, Bool.and_eq_true, decide_eq_true_eq] at h
  exact ⟨h.1.1.1, h.1.1.2, h.1.2⟩
theorem truckGo_false (x : InstD) : ∀ (l : List (List StopD)) (ld : Bool), (truckGo x l false ld).1 = false
  | [], _ => rfl
  | t :: ts, ld => by
    unfold truckGo
    cases truckSt x t with
    | none => rfl
    | some p => rw [Bool.false_and]; exact truckGo_false x ts _
def zerosD (n : Nat) : List Int := List.replicate n 0
structure TInv (x : InstD) (l : List (List StopD)) (k : Nat) (r ld : Bool) (out : List Int) : Prop where
  len : out.length = x.sats.length
  yes : r = true → trucksB x l = truckGo x (l.drop k) true ld ∧ out = (l.take k).foldl addTruck (List.replicate x.sats.length 0) ∧ Small9 out (tstopsUp l k)
  no : r = false → (trucksB x l).1 = false
theorem TInv.start (x : InstD) (l : List (List StopD)) : TInv x l 0 true true (zerosD x.sats.length) :=
  ⟨by simp [zerosD], fun _ => ⟨rfl, rfl, Small9.zero _⟩, fun h => by cases h⟩
structure SInv (x : InstD) (l : List (List StopD)) (k : Nat) (t : List StopD) (j : Nat) (r ld : Bool) (sum : Int) (out : List Int) : Prop where
  len : out.length = x.sats.length
  sumB : 0 ≤ sum ∧ sum ≤ 1000000000 * (j : Int)
  yes : r = true → (∃ m, SeenS m (t.take j) ∧ truckSt x t = (t.drop j).foldl (stopSt x) (some (m, x.troom - sum))) ∧ trucksB x l = truckGo x (l.drop k) true ld ∧ 0 < t.length ∧
    out = (t.take j).foldl addStop ((l.take k).foldl addTruck (List.replicate x.sats.length 0)) ∧ Small9 out (tstopsUp l k + j)
  no : r = false → (trucksB x l).1 = false
theorem SInv.start {x : InstD} {l : List (List StopD)} {k : Nat} {r ld : Bool} {out : List Int} (h : TInv x l k r ld out) (hk : k < l.length) : SInv x l k l[k] 0 (r && decide (0 < l[k].length)) ld 0 out := by
  refine ⟨h.len, by decide, fun hr => ?_, fun hr => ?_⟩
  · simp only [Bool.and_eq_true, decide_eq_true_eq] at hr
    obtain ⟨h1, h2, h3⟩ := h.yes hr.1
    exact ⟨⟨0, SeenS.nil, by simp only [truckSt, List.drop_zero, Int.sub_zero]⟩, h1, hr.2, h2, h3⟩
  · cases r with
    | false => exact h.no rfl
    | true =>
      have h0 : l[k].length = 0 := by simpa using hr
      rw [(h.yes rfl).1, List.drop_eq_getElem_cons hk, List.eq_nil_of_length_eq_zero h0, truckGo_ok (m := 0) (left := x.troom) rfl]
      exact truckGo_false x _ _
theorem SInv.step {x : InstD} {l : List (List StopD)} {k : Nat} {t : List StopD} {j : Nat} {r ld : Bool} {sum : Int} {out : List Int} (h : SInv x l k t j r ld sum out) (hj : j < t.length)
    (hr : (r && codeStop x (t.take j) t[j]) = true) : SInv x l k t (j + 1) true ld (sum + t[j].load) (addStop out t[j]) := by
  simp only [Bool.and_eq_true] at hr
  have ho := codeStop_ok hr.2
  obtain ⟨⟨m, hm, ht⟩, h1, h2, h3, h4⟩ := h.yes hr.1
  have hb := codeStop_bad (x := x) (s := t[j]) hm
  rw [hr.2] at hb
  have hb2 : stopBad x m t[j] = false := by simpa using hb.symm
  have hl := ho.2
  have hs := h.sumB
  refine ⟨by rw [addStop_len]; exact h.len, by push_cast; omega, fun _ => ⟨⟨m ||| 2 ^ t[j].sat.toNat, ?_, ?_⟩, h1, h2, ?_, ?_⟩, fun h => by cases h⟩
  · rw [List.take_succ_eq_append_getElem hj]; exact hm.push ho.1.1
  · rw [ht, List.drop_eq_getElem_cons hj, List.foldl_cons, stopSt_ok hb2, show x.troom - sum - t[j].load = x.troom - (sum + t[j].load) by omega]
  · rw [foldl_take_succ _ _ _ _ hj, ← h3]
  · unfold addStop
    refine h4.add ?_ ⟨by omega, hl.2⟩
    have hlt : t[j].sat.toNat < out.length := by have := ho.1; rw [h.len]; omega
    rw [List.getD_eq_getElem?_getD, List.getElem?_eq_getElem hlt]
    exact h4.get hlt
theorem truckGo_none {x : InstD} {l : List (List StopD)} {k : Nat} (hk : k < l.length) {ld : Bool} (h : truckSt x l[k] = none) : (truckGo x (l.drop k) true ld).1 = false := by
  rw [List.drop_eq_getElem_cons hk, truckGo_bad h]
theorem SInv.stop {x : InstD} {l : List (List StopD)} {k : Nat} (hk : k < l.length) {j : Nat} {r ld : Bool} {sum : Int} {out : List Int} (h : SInv x l k l[k] j r ld sum out) (hj : j < l[k].length)
    (hr : (r && codeStop x (l[k].take j) (l[k])[j]) = false) : SInv x l k l[k] (j + 1) false ld sum out := by
  refine ⟨h.len, (by have := h.sumB; push_cast; omega), (fun h => by cases h), fun _ => ?_⟩
  cases r with
  | false => exact h.no rfl
  | true =>
    rw [Bool.true_and] at hr
    obtain ⟨⟨m, hm, ht⟩, h1, -, -, -⟩ := h.yes rfl
    have hb := codeStop_bad (x := x) (s := (l[k])[j]) hm
    rw [hr] at hb
    have hb2 : stopBad x m (l[k])[j] = true := by simpa using hb.symm
    rw [h1]
    refine truckGo_none hk ?_
    rw [ht, List.drop_eq_getElem_cons hj, List.foldl_cons, stopSt_bad hb2, stops_none]
theorem SInv.done {x : InstD} {l : List (List StopD)} {k : Nat} (hk : k < l.length) {r ld : Bool} {sum : Int} {out : List Int} (h : SInv x l k l[k] l[k].length r ld sum out) : TInv x l (k + 1) r (ld && decide (sum ≤ x.troom)) out := by
  refine ⟨h.len, fun hr => ?_, h.no⟩
  obtain ⟨⟨m, hm, ht⟩, h1, h2, h3, h4⟩ := h.yes hr
  rw [List.drop_length, List.foldl_nil] at ht
  rw [List.take_length] at h3
  refine ⟨?_, ?_, ?_⟩
  · rw [h1, List.drop_eq_getElem_cons hk, truckGo_ok ht, decide_eq_true h2, Bool.and_true]
    congr 2
    rw [Bool.eq_iff_iff]; simp
  · rw [foldl_take_succ _ _ _ _ hk, h3]; rfl
  · rw [tstopsUp_succ hk]; exact h4
theorem SInv.start2 {x : InstD} {l : List (List StopD)} {k : Nat} {t : List StopD} {r ld : Bool} {out : List Int} (h : TInv x l k r ld out) (hk : k < l.length) (ht : t = l[k]) : SInv x l k t 0 (r && decide (0 < t.length)) ld 0 out := by
  subst ht; exact SInv.start h hk
theorem SInv.stop2 {x : InstD} {l : List (List StopD)} {k : Nat} (hk : k < l.length) {t : List StopD} (ht : t = l[k]) {j : Nat} {r ld : Bool} {sum : Int} {out : List Int} (h : SInv x l k t j r ld sum out) (hj : j < t.length)
    (hr : (r && codeStop x (t.take j) t[j]) = false) : SInv x l k t (j + 1) false ld sum out := by
  subst ht; exact h.stop hk hj hr
theorem SInv.done2 {x : InstD} {l : List (List StopD)} {k : Nat} (hk : k < l.length) {t : List StopD} (ht : t = l[k]) {r ld : Bool} {sum : Int} {out : List Int} (h : SInv x l k t t.length r ld sum out) : TInv x l (k + 1) r (ld && decide (sum ≤ x.troom)) out := by
  subst ht; exact h.done hk
theorem TInv.done {x : InstD} {l : List (List StopD)} {r ld : Bool} {out : List Int} (h : TInv x l l.length r ld out) : (r = true → trucksB x l = (true, ld) ∧ out = dropsD x l) ∧ (r = false → (trucksB x l).1 = false) :=
  ⟨fun hr => by
    obtain ⟨h1, h2, -⟩ := h.yes hr
    rw [List.drop_length] at h1
    rw [List.take_length] at h2
    exact ⟨h1, h2⟩, h.no⟩

/-! Bikes. -/
def bitsL (m n : Nat) : List Int := (List.range n).map fun i => if m.testBit i then 1 else 0
theorem bitsL_len (m n : Nat) : (bitsL m n).length = n := by simp [bitsL]
theorem bitsL_get (m n i : Nat) (h : i < (bitsL m n).length) : (bitsL m n)[i] = if m.testBit i then 1 else 0 := by simp [bitsL]
theorem bitsL_set (m n i : Nat) (v : Int) (hv : v = 1) : (bitsL m n).set i v = bitsL (m ||| 2 ^ i) n := by
  subst hv
  refine List.ext_getElem (by simp [bitsL]) fun j h1 h2 => ?_
  rw [List.getElem_set]
  simp only [bitsL, List.getElem_map, List.getElem_range, Nat.testBit_or, Nat.testBit_two_pow]
  by_cases e : i = j <;> simp [e]
theorem bitsL_zero (n : Nat) : bitsL 0 n = zerosD n := by
  refine List.ext_getElem (by simp [bitsL, zerosD]) fun j h1 h2 => ?_
  simp [bitsL, zerosD]
def codeCust (x : InstD) (m : Nat) (c : Int) : Bool := ((decide (0 ≤ c)) && decide (c < x.custs.length)) && !m.testBit c.toNat
theorem codeCust_bad (x : InstD) (m : Nat) (c : Int) : codeCust x m c = !custBad x m c := by
  unfold codeCust custBad
  rw [Bool.eq_iff_iff]
  simp only [Bool.and_eq_true, decide_eq_true_eq, Bool.not_eq_true', Bool.or_eq_false_iff, decide_eq_false_iff_not]
  constructor
  · rintro ⟨⟨h1, h2⟩, h3⟩
    exact ⟨⟨by omega, by omega⟩, h3⟩
  · rintro ⟨⟨h1, h2⟩, h3⟩
    exact ⟨⟨by omega, by omega⟩, h3⟩
/-- Behind k bikes; tr: whether the trucks may be, lt: whether they have room; sv: how often each customer is served. -/
structure BInv (x : InstD) (l : List BikeD) (tr lt : Bool) (k : Nat) (r ld : Bool) (sv out : List Int) : Prop where
  len : out.length = x.sats.length
  svL : sv.length = x.custs.length
  yes : r = true → tr = true ∧ (∃ (m : Nat) (lb : Bool), bikesB x l = bikeGo x (l.drop k) m lb ∧ ld = (lt && lb) ∧ sv = bitsL m x.custs.length ∧ m < 2 ^ x.custs.length) ∧ out = (l.take k).foldl (addBike x) (List.replicate x.sats.length 0) ∧ Small9 out (stopsUp l k)
  no : r = false → tr = false ∨ (bikesB x l).1 = false
theorem BInv.start (x : InstD) (l : List BikeD) (tr lt : Bool) : BInv x l tr lt 0 tr lt (zerosD x.custs.length) (zerosD x.sats.length) :=
  ⟨by simp [zerosD], by simp [zerosD], fun h => ⟨h, ⟨0, true, rfl, by simp, (bitsL_zero _).symm, Nat.two_pow_pos _⟩, rfl, Small9.zero _⟩, fun h => .inl h⟩
structure CInv (x : InstD) (l : List BikeD) (tr lt : Bool) (k : Nat) (b : BikeD) (j : Nat) (r ld : Bool) (sum : Int) (sv out : List Int) : Prop where
  len : out.length = x.sats.length
  svL : sv.length = x.custs.length
  sumB : 0 ≤ sum ∧ sum ≤ 1000000000 * (j : Int)
  yes : r = true → tr = true ∧ (∃ (m0 m : Nat) (lb : Bool), bikesB x l = bikeGo x (l.drop k) m0 lb ∧ ld = (lt && lb) ∧ bikeBad x b = false ∧ bikeSt x m0 b.stops = (b.stops.drop j).foldl (custSt x) (some (m, x.broom - sum)) ∧
    sv = bitsL m x.custs.length ∧ m < 2 ^ x.custs.length) ∧ out = (b.stops.take j).foldl (addLoad x b.sat) ((l.take k).foldl (addBike x) (List.replicate x.sats.length 0)) ∧ Small9 out (stopsUp l k + j)
  no : r = false → tr = false ∨ (bikesB x l).1 = false
theorem bikeBad_iff (x : InstD) (b : BikeD) : bikeBad x b = !(decide (0 < b.stops.length) && thereB x b.sat) := by
  unfold bikeBad thereB
  rw [Bool.eq_iff_iff]
  simp only [Bool.or_eq_true, decide_eq_true_eq, Bool.not_eq_true', Bool.and_eq_false_iff, decide_eq_false_iff_not]
  omega
theorem CInv.start {x : InstD} {l : List BikeD} {tr lt : Bool} {k : Nat} {r ld : Bool} {sv out : List Int} (h : BInv x l tr lt k r ld sv out) (hk : k < l.length) :
    CInv x l tr lt k l[k] 0 ((r && decide (0 < l[k].stops.length)) && thereB x l[k].sat) ld 0 sv out := by
  refine ⟨h.len, h.svL, by decide, fun hr => ?_, fun hr => ?_⟩
  · rw [Bool.and_assoc, Bool.and_eq_true] at hr
    obtain ⟨h0, ⟨m, lb, h1, h2, h3, h4⟩, h5, h6⟩ := h.yes hr.1
    exact ⟨h0, ⟨m, m, lb, h1, h2, by rw [bikeBad_iff, hr.2]; rfl, by simp only [bikeSt, List.drop_zero, Int.sub_zero], h3, h4⟩, h5, h6⟩
  · cases r with
    | false => exact h.no rfl
    | true =>
      rw [Bool.true_and] at hr
      obtain ⟨h0, ⟨m, lb, h1, h2, h3, h4⟩, h5, h6⟩ := h.yes rfl
      refine .inr ?_
      rw [h1, List.drop_eq_getElem_cons hk, bikeGo_bad (by rw [bikeBad_iff, hr]; rfl)]
theorem CInv.addLoad_eq {x : InstD} {sat : Int} {out : List Int} {c : Int} (hs : thereB x sat = true) (hl : out.length = x.sats.length) (hc : 0 ≤ c ∧ c < x.custs.length) :
    addLoad x sat out c = out.set sat.toNat (out.getD sat.toNat 0 + (x.custs.getD c.toNat ⟨0, 0, 0, 0⟩).load) := by
  simp only [thereB, Bool.and_eq_true, decide_eq_true_eq] at hs
  unfold addLoad
  rw [if_pos (by rw [hl]; omega)]
theorem CInv.step {x : InstD} {l : List BikeD} {tr lt : Bool} {k : Nat} {b : BikeD} {j : Nat} {ld : Bool} {sum : Int} {sv out : List Int} (h : CInv x l tr lt k b j true ld sum sv out) (hj : j < b.stops.length)
    (hcu : ∀ c ∈ x.custs, 0 ≤ c.load ∧ c.load ≤ 1000000000) (hc : 0 ≤ b.stops[j] ∧ b.stops[j] < x.custs.length) (h0 : sv.getD (b.stops[j]).toNat 0 = 0) :
    CInv x l tr lt k b (j + 1) true ld (sum + (x.custs.getD (b.stops[j]).toNat ⟨0, 0, 0, 0⟩).load) (sv.set (b.stops[j]).toNat 1) (addLoad x b.sat out b.stops[j]) := by
  obtain ⟨t0, ⟨m0, m, lb, h1, h2, h3, h4, h5, h6⟩, h7, h8⟩ := h.yes rfl
  obtain ⟨c, hce⟩ : ∃ c, c = b.stops[j] := ⟨_, rfl⟩
  rw [← hce] at hc h0 ⊢
  have hcl : c.toNat < x.custs.length := by omega
  have hld := hcu _ (List.getElem_mem hcl)
  have hcd : (x.custs.getD c.toNat ⟨0, 0, 0, 0⟩) = x.custs[c.toNat] := by rw [List.getD_eq_getElem?_getD, List.getElem?_eq_getElem hcl]; rfl
  have hsb := h.sumB
  have htb : m.testBit c.toNat = false := by
    rw [h5, List.getD_eq_getElem?_getD, List.getElem?_eq_getElem (by rw [bitsL_len]; exact hcl), Option.getD_some, bitsL_get] at h0
    cases e : m.testBit c.toNat with
    | false => rfl
    | true => rw [e] at h0; cases h0
  have hcb : custBad x m c = false := by
    have := codeCust_bad x m c
    unfold codeCust at this
    rw [decide_eq_true hc.1, decide_eq_true hc.2, htb] at this
    simpa using this.symm
  have hth : thereB x b.sat = true := by
    rw [bikeBad_iff] at h3
    have : (decide (0 < b.stops.length) && thereB x b.sat) = true := by simpa using h3
    exact (Bool.and_eq_true_iff.1 this).2
  refine ⟨by rw [addLoad_len]; exact h.len, by rw [List.length_set]; exact h.svL, by rw [hcd]; push_cast; omega, fun _ => ⟨t0, ⟨m0, m ||| 2 ^ c.toNat, lb, h1, h2, h3, ?_, ?_, ?_⟩, ?_, ?_⟩, fun h => by cases h⟩
  · rw [h4, List.drop_eq_getElem_cons hj, List.foldl_cons, ← hce, custSt_ok hcb]
    show List.foldl (custSt x) (some (m ||| 2 ^ c.toNat, x.broom - sum - (x.custs.getD c.toNat ⟨0, 0, 0, 0⟩).load)) _ = _
    rw [Int.sub_sub]
  · rw [h5, bitsL_set _ _ _ _ rfl]
  · exact Nat.or_lt_two_pow h6 (Nat.pow_lt_pow_right (by decide) hcl)
  · rw [foldl_take_succ _ _ _ _ hj, ← h7, ← hce]
  · rw [CInv.addLoad_eq hth h.len hc, ← Nat.add_assoc]
    have hs2 : b.sat.toNat < out.length := by
      simp only [thereB, Bool.and_eq_true, decide_eq_true_eq] at hth
      rw [h.len]; omega
    refine h8.add ?_ (by rw [hcd]; exact hld)
    rw [List.getD_eq_getElem?_getD, List.getElem?_eq_getElem hs2]
    exact h8.get hs2
theorem CInv.twice {x : InstD} {l : List BikeD} {tr lt : Bool} {k : Nat} (hk : k < l.length) {j : Nat} {r ld : Bool} {sum : Int} {sv out : List Int} (h : CInv x l tr lt k l[k] j r ld sum sv out) (hj : j < l[k].stops.length)
    (hr : r = true → ¬ ((0 ≤ (l[k]).stops[j] ∧ (l[k]).stops[j] < x.custs.length) ∧ sv.getD ((l[k]).stops[j]).toNat 0 = 0)) : r = true → (bikesB x l).1 = false := by
  intro hrt
  obtain ⟨t0, ⟨m0, m, lb, h1, h2, h3, h4, h5, h6⟩, h7, h8⟩ := h.yes hrt
  have hr := hr hrt
  obtain ⟨c, hce⟩ : ∃ c, c = (l[k]).stops[j] := ⟨_, rfl⟩
  rw [← hce] at hr
  have hcb : custBad x m c = true := by
    have := codeCust_bad x m c
    cases e : custBad x m c with
    | true => rfl
    | false =>
      rw [e] at this
      simp only [codeCust, Bool.and_eq_true, decide_eq_true_eq, Bool.not_eq_true', Bool.not_false] at this
      refine absurd ⟨this.1, ?_⟩ hr
      rw [h5, List.getD_eq_getElem?_getD, List.getElem?_eq_getElem (by rw [bitsL_len]; omega), Option.getD_some, bitsL_get, this.2]; rfl
  rw [h1, List.drop_eq_getElem_cons hk, bikeGo_none (by rw [h4, List.drop_eq_getElem_cons hj, List.foldl_cons, ← hce, custSt_bad hcb, custs_none])]
/-- A stop that may not be: whatever is written down there. -/
theorem CInv.stop {x : InstD} {l : List BikeD} {tr lt : Bool} {k : Nat} (hk : k < l.length) {j : Nat} {r ld : Bool} {sum sum' : Int} {sv out sv' out' : List Int} (h : CInv x l tr lt k l[k] j r ld sum sv out) (hj : j < l[k].stops.length)
    (hr : r = true → ¬ ((0 ≤ (l[k]).stops[j] ∧ (l[k]).stops[j] < x.custs.length) ∧ sv.getD ((l[k]).stops[j]).toNat 0 = 0)) (hl : out'.length = x.sats.length) (hs : sv'.length = x.custs.length) (hb : 0 ≤ sum' ∧ sum' ≤ 1000000000 * ((j + 1 : Nat) : Int)) :
    CInv x l tr lt k l[k] (j + 1) false ld sum' sv' out' :=
  ⟨hl, hs, hb, (fun h => by cases h), fun _ => (by
    rcases Bool.eq_false_or_eq_true r with e | e
    · exact .inr (h.twice hk hj hr e)
    · exact h.no e)⟩
theorem CInv.done {x : InstD} {l : List BikeD} {tr lt : Bool} {k : Nat} (hk : k < l.length) {r ld : Bool} {sum : Int} {sv out : List Int} (h : CInv x l tr lt k l[k] l[k].stops.length r ld sum sv out) :
    BInv x l tr lt (k + 1) r (ld && decide (sum ≤ x.broom)) sv out := by
  refine ⟨h.len, h.svL, fun hr => ?_, h.no⟩
  obtain ⟨t0, ⟨m0, m, lb, h1, h2, h3, h4, h5, h6⟩, h7, h8⟩ := h.yes hr
  rw [List.drop_length, List.foldl_nil] at h4
  rw [List.take_length] at h7
  refine ⟨t0, ⟨m, lb && decide (0 ≤ x.broom - sum), ?_, ?_, h5, h6⟩, ?_, ?_⟩
  · rw [h1, List.drop_eq_getElem_cons hk, bikeGo_ok h3 h4]
  · rw [h2, Bool.and_assoc]
    congr 2
    rw [Bool.eq_iff_iff]; simp
  · rw [foldl_take_succ _ _ _ _ hk, h7]; rfl
  · rw [stopsUp_succ hk]; exact h8
theorem CInv.start2 {x : InstD} {l : List BikeD} {tr lt : Bool} {k : Nat} {r ld : Bool} {sv out : List Int} (h : BInv x l tr lt k r ld sv out) (hk : k < l.length) {b : BikeD} (hb : b = l[k]) :
    CInv x l tr lt k b 0 ((r && decide (0 < b.stops.length)) && thereB x b.sat) ld 0 sv out := by
  subst hb; exact CInv.start h hk
theorem CInv.stop2 {x : InstD} {l : List BikeD} {tr lt : Bool} {k : Nat} (hk : k < l.length) {b : BikeD} (hbe : b = l[k]) {j : Nat} {r ld : Bool} {sum sum' : Int} {sv out sv' out' : List Int} (h : CInv x l tr lt k b j r ld sum sv out) (hj : j < b.stops.length)
    (hr : r = true → ¬ ((0 ≤ b.stops[j] ∧ b.stops[j] < x.custs.length) ∧ sv.getD (b.stops[j]).toNat 0 = 0)) (hl : out'.length = x.sats.length) (hs : sv'.length = x.custs.length) (hb : 0 ≤ sum' ∧ sum' ≤ 1000000000 * ((j + 1 : Nat) : Int)) :
    CInv x l tr lt k b (j + 1) false ld sum' sv' out' := by
  subst hbe; exact h.stop hk hj hr hl hs hb
theorem CInv.done2 {x : InstD} {l : List BikeD} {tr lt : Bool} {k : Nat} (hk : k < l.length) {b : BikeD} (hb : b = l[k]) {r ld : Bool} {sum : Int} {sv out : List Int} (h : CInv x l tr lt k b b.stops.length r ld sum sv out) :
    BInv x l tr lt (k + 1) r (ld && decide (sum ≤ x.broom)) sv out := by
  subst hb; exact h.done hk
/-- What is known of a stop that may be there while the routes may be. -/
theorem CInv.facts {x : InstD} {l : List BikeD} {tr lt : Bool} {k : Nat} {b : BikeD} {j : Nat} {ld : Bool} {sum : Int} {sv out : List Int} (h : CInv x l tr lt k b j true ld sum sv out) (c : Nat) :
    (0 ≤ b.sat ∧ b.sat < x.sats.length) ∧ (0 ≤ sv.getD c 0 ∧ sv.getD c 0 ≤ 1) ∧ Small9 out (stopsUp l k + j) := by
  obtain ⟨t0, ⟨m0, m, lb, h1, h2, h3, h4, h5, h6⟩, h7, h8⟩ := h.yes rfl
  refine ⟨?_, ?_, h8⟩
  · rw [bikeBad_iff] at h3
    have : (decide (0 < b.stops.length) && thereB x b.sat) = true := by simpa using h3
    have := (Bool.and_eq_true_iff.1 this).2
    simpa [thereB] using this
  · rw [h5, List.getD_eq_getElem?_getD]
    by_cases hc : c < (bitsL m x.custs.length).length
    · rw [List.getElem?_eq_getElem hc, Option.getD_some, bitsL_get]; split <;> decide
    · rw [List.getElem?_eq_none (by omega)]; decide
/-- A stop at a customer that there is. -/
theorem CInv.go {x : InstD} {l : List BikeD} {tr lt : Bool} {k : Nat} (hk : k < l.length) {b : BikeD} (hbe : b = l[k]) {j : Nat} {ld : Bool} {sum : Int} {sv out : List Int} (h : CInv x l tr lt k b j true ld sum sv out) (hj : j < b.stops.length)
    (hcu : ∀ c ∈ x.custs, 0 ≤ c.load ∧ c.load ≤ 1000000000) {c : Int} (hce : c = b.stops[j]) (hc : 0 ≤ c ∧ c < x.custs.length) {v ov lo : Int} (hv : sv.getD c.toNat 0 = v) (hov : out.getD b.sat.toNat 0 = ov) (hlo : (x.custs.getD c.toNat ⟨0, 0, 0, 0⟩).load = lo) :
    CInv x l tr lt k b (j + 1) (v + 1 == 1) ld (sum + lo) (sv.set c.toNat (v + 1)) (out.set b.sat.toNat (ov + lo)) := by
  subst hce hv hov hlo
  have hf := h.facts 0
  have hcl : (b.stops[j]).toNat < x.custs.length := by omega
  have hld := hcu _ (List.getElem_mem hcl)
  have hcd : (x.custs.getD (b.stops[j]).toNat ⟨0, 0, 0, 0⟩) = x.custs[(b.stops[j]).toNat] := by rw [List.getD_eq_getElem?_getD, List.getElem?_eq_getElem hcl]; rfl
  by_cases h0 : sv.getD (b.stops[j]).toNat 0 = 0
  · have := h.step hj hcu hc h0
    rw [CInv.addLoad_eq (by simp [thereB, hf.1]) h.len hc] at this
    rw [h0]
    exact this
  · have e : (sv.getD (b.stops[j]).toNat 0 + 1 == 1) = false := by rw [beq_eq_false_iff_ne]; omega
    rw [e]
    have hs := h.sumB
    exact h.stop2 hk hbe hj (fun _ hn => h0 hn.2) (by rw [List.length_set]; exact h.len) (by rw [List.length_set]; exact h.svL) (by rw [hcd]; push_cast; omega)
theorem ones_all : ∀ n, n ≤ 6 → ∀ m, m < 2 ^ n → (Lib.onesCount m = n ↔ ∀ i, i < n → m.testBit i = true) := by decide +kernel
/-- At the end: what plan.Check says. -/
theorem code_end {x : InstD} {p : PlanD} {tr lt r ld : Bool} {dr sv out : List Int} (hn : x.custs.length ≤ 6) (hck : check x = 0) (hT : TInv x p.trucks p.trucks.length tr lt dr) (hB : BInv x p.bikes tr lt p.bikes.length r ld sv out)
    (hf : ¬ (x.tmany < p.trucks.length ∨ x.bmany < p.bikes.length)) : planCheck x p = if r = false then 15 else if 0 ∈ sv then 8 else if (ld && !overB x out x.sats.length) = false then 10 else if out = dr then 0 else 13 := by
  unfold planCheck
  rw [if_neg (by simpa using hck), if_neg hf]
  have ht := hT.done
  cases r with
  | false =>
    rw [if_pos rfl, if_pos]
    rcases hB.no rfl with h | h
    · exact .inl (ht.2 h)
    · exact .inr h
  | true =>
    obtain ⟨htr, ⟨m, lb, h1, h2, h3, h4⟩, h5, h6⟩ := hB.yes rfl
    obtain ⟨h7, h8⟩ := ht.1 htr
    rw [List.drop_length] at h1
    rw [List.take_length] at h5
    have h9 : bikesB x p.bikes = (true, decide (Lib.onesCount m = x.custs.length), lb) := h1
    have h10 : out = loadsD x p.bikes := h5
    rw [h7, h9, ← h10, ← h8]
    have hz : (0 ∈ sv) ↔ ¬ Lib.onesCount m = x.custs.length := by
      rw [ones_all _ hn _ h4, h3]
      simp only [bitsL, List.mem_map, List.mem_range]
      constructor
      · rintro ⟨i, hi, e⟩ hall
        rw [hall i hi] at e; cases e
      · intro hna
        obtain ⟨i, hi⟩ := Classical.not_forall.1 hna
        obtain ⟨hi, e⟩ := Classical.not_imp.1 hi
        exact ⟨i, hi, by rw [if_neg e]⟩
    simp only [Bool.true_eq_false, or_self, if_false]
    by_cases hon : Lib.onesCount m = x.custs.length
    · have hz2 : ¬ (0 ∈ sv) := fun h => hz.1 h hon
      rw [decide_eq_true hon, if_neg hz2]
      subst h2
      cases lt <;> cases lb <;> cases overB x out x.sats.length <;> simp
    · rw [decide_eq_false hon, if_pos rfl, if_pos (hz.2 hon)]
end Go.Proofs.Ytafhjfkdlmijdaa
