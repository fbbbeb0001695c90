/- Texts of the proof, joined: Bad, Light, Feas, Awake22, LoadAll, CodeD, Whole, FitsLaw, LoadsU, MakeOk, HaulErrors, HaulOrders, HaulTrucks, HaulWholes. -/
import Derived.Deep.DeepCutAuto
import Derived.Test.YtafhjfkdlmijdaaEarly
import Derived.Test.YtafhjfkdlmijdaaDraft
import Derived.Test.YtafhjfkdlmijdaaSpoilt
set_option linter.all false
namespace Go.Proofs.Ytafhjfkdlmijdaa
open Go.RowKit
structure M0 (w0 : World) (qi qp qr : Nat) (ic pc : List Value) (w : World) : Prop where
 inst : Row w qi 33 ic
 plan : Row w qp 46 pc
 res : Row w qr 56 [.slice none 0 0, .slice none 0 0, .slice none 0 0, .slice none 0 0, .int .i64 0]
 bel : Below w0.heap.size w0 w
 resB : w0.heap.size ≤ qr
theorem M0.below {w0 w w' : World} {qi qp qr : Nat} {ic pc : List Value} (h : M0 w0 qi qp qr ic pc w) (hb : Below w.heap.size w w') : M0 w0 qi qp qr ic pc w' :=
 ⟨h.inst.below hb, h.plan.below hb, h.res.below hb, below_step h.bel hb, h.resB⟩
theorem M0.start (w : World) (ic pc : List Value) : M0 w w.heap.size (w.heap.size + 1) (w.heap.size + 1 + 1) ic pc
  (((w.alloc (.cells ic.toArray 33)).alloc (.cells pc.toArray 46)).alloc (.cells #[.slice none 0 0, .slice none 0 0, .slice none 0 0, .slice none 0 0, .int .i64 0] 56)) := by
 have h0 := FSt.start w 33 46 ic pc
 have h3 := Row.new (w := (w.alloc (.cells ic.toArray 33)).alloc (.cells pc.toArray 46)) (e := 56) (cs := [.slice none 0 0, .slice none 0 0, .slice none 0 0, .slice none 0 0, .int .i64 0]) rfl
 rw [show ((w.alloc (.cells ic.toArray 33)).alloc (.cells pc.toArray 46)).heap.size = w.heap.size + 1 + 1 by simp] at h3
 have hb : Below _ _ (((w.alloc (.cells ic.toArray 33)).alloc (.cells pc.toArray 46)).alloc (.cells #[.slice none 0 0, .slice none 0 0, .slice none 0 0, .slice none 0 0, .int .i64 0] 56)) := (Below.refl _ _).alloc (Nat.le_refl _) _
 have h1 := h0.below hb
 exact ⟨h1.one, h1.two, h3, h1.bel, by omega⟩
end Go.Proofs.Ytafhjfkdlmijdaa

namespace Go.Proofs.Ytafhjfkdlmijdaa
open Go.RowKit
structure SheetD where
 plan : PlanD
 times : TimesD
 cost : Int
def sheetS : Shape SheetD where
 sz := 5
 rep := fun w F x cs => ∃ a b c d, cs = [a, b, c, d, .int .i64 x.cost] ∧ wf64 x.cost ∧ planS.rep w F x.plan [a, b] ∧ timesS.rep w F x.times [c, d]
 len := by rintro w F x cs ⟨a, b, c, d, rfl, _⟩; rfl
 keep := by rintro w w' F x cs ⟨a, b, c, d, rfl, h0, h1, h2⟩ ha; exact ⟨a, b, c, d, rfl, h0, planS.keep h1 ha, timesS.keep h2 ha⟩
 weak := by rintro w F G x cs ⟨a, b, c, d, rfl, h0, h1, h2⟩ ha; exact ⟨a, b, c, d, rfl, h0, planS.weak h1 ha, timesS.weak h2 ha⟩
 lt := by rintro w F x cs ⟨a, b, c, d, rfl, h0, h1, h2⟩; exact ⟨a, b, c, d, rfl, h0, planS.lt h1, timesS.lt h2⟩
def feasD (x : InstD) (s : SheetD) : Int := if clockCheck x s.plan s.times ≠ 0 then clockCheck x s.plan s.times else if costOf x s.plan ≠ s.cost then 14 else 0
def makeF (x : InstD) (p : PlanD) : SheetD := if clockCheck x p (soonD x p) = 0 then ⟨p, soonD x p, costOf x p⟩ else ⟨⟨[], []⟩, ⟨[], []⟩, 0⟩
end Go.Proofs.Ytafhjfkdlmijdaa
namespace Go.Proofs.Ytafhjfkdlmijdaa
open Go.RowKit
def small22 : SmallD := ⟨0, 0, 0, 0, 0, [⟨30, 0⟩, ⟨30, 0⟩], [], [], [], false, false⟩
def inst22a : InstD := ⟨40, 1, 5, 1, 3, [⟨34, 0⟩, ⟨34, 0⟩], [⟨2, 5, 90, 1⟩], [[0, 0, 0, 0], [0, 0, 0, 0], [0, 0, 0, 0], [0, 0, 0, 0]], [[0, 0, 0, 0], [0, 0, 0, 0], [0, 0, 0, 0], [0, 0, 0, 0]]⟩
def inst22b : InstD := { inst22a with tmany := 2, troom := 6 }
def inst22 : InstD := (inst22b.putCost 0 1 5).putCost 0 2 4
end Go.Proofs.Ytafhjfkdlmijdaa
namespace Go.Proofs.Ytafhjfkdlmijdaa
open Go.RowKit
def loadAll (x : InstD) : Int := (x.custs.map CustD.load).sum
end Go.Proofs.Ytafhjfkdlmijdaa
namespace Go.Proofs.Ytafhjfkdlmijdaa
open Go.RowKit
def SeenS (m : Nat) (pre : List StopD) : Prop := (∀ o ∈ pre, 0 ≤ o.sat) ∧ ∀ i, m.testBit i = pre.any (fun o => o.sat.toNat == i)
theorem SeenS.nil : SeenS 0 [] := ⟨fun _ h => (List.not_mem_nil h).elim, fun i => by simp⟩
theorem SeenS.push {m : Nat} {pre : List StopD} {s : StopD} (h : SeenS m pre) (hs : 0 ≤ s.sat) : SeenS (m ||| 2 ^ s.sat.toNat) (pre ++ [s]) := by
 refine ⟨fun o ho => ?_, fun i => ?_⟩
 ·rcases List.mem_append.1 ho with ho | ho
  ·exact h.1 o ho
  ·rw [List.mem_singleton.1 ho]; exact hs
 ·rw [Nat.testBit_or, Nat.testBit_two_pow, h.2 i, List.any_append, List.any_cons, List.any_nil, Bool.or_false]
  congr 1
def thereB (x : InstD) (s : Int) : Bool := decide (0 ≤ s) && decide (s < x.sats.length)
def codeStop (x : InstD) (pre : List StopD) (s : StopD) : Bool := ((thereB x s.sat && decide (1 ≤ s.load)) && decide (s.load ≤ 1000000000)) && pre.all (fun o => o.sat != s.sat)
theorem codeStop_bad {x : InstD} {m : Nat} {pre : List StopD} {s : StopD} (h : SeenS m pre) : codeStop x pre s = !stopBad x m s := by
 by_cases h0 : 0 ≤ s.sat
 ·have e : m.testBit s.sat.toNat = !pre.all (fun o => o.sat != s.sat) := by
   rw [h.2, List.not_all_eq_any_not]
   rw [Bool.eq_iff_iff, List.any_eq_true, List.any_eq_true]
   constructor
   ·rintro ⟨o, ho, e⟩
    refine ⟨o, ho, ?_⟩
    have := h.1 o ho
    simp at e ⊢; omega
   ·rintro ⟨o, ho, e⟩
    refine ⟨o, ho, ?_⟩
    have := h.1 o ho
    simp at e ⊢; omega
  unfold codeStop stopBad thereB
  rw [e, Bool.eq_iff_iff]
  simp only [Bool.and_eq_true, decide_eq_true_eq, Bool.not_eq_true', Bool.or_eq_false_iff, decide_eq_false_iff_not, Bool.not_eq_false']
  constructor
  ·rintro ⟨⟨⟨h1, h2⟩, h3⟩, h4⟩
   exact ⟨⟨⟨⟨by omega, by omega⟩, h4⟩, by omega⟩, by omega⟩
  ·rintro ⟨⟨⟨⟨h1, h2⟩, h4⟩, h3⟩, h5⟩
   exact ⟨⟨⟨⟨by omega, by omega⟩, by omega⟩, by omega⟩, h4⟩
 ·unfold codeStop stopBad thereB
  rw [decide_eq_false h0, decide_eq_true (show s.sat < 0 by omega)]; simp
theorem codeStop_ok {x : InstD} {pre : List StopD} {s : StopD} (h : codeStop x pre s = true) : StopOk x s := by
 simp only [codeStop, thereB, Bool.and_eq_true, decide_eq_true_eq] at h
 exact ⟨h.1.1.1, h.1.1.2, h.1.2⟩
theorem truckGo_false (x : InstD) : ∀ (l : List (List StopD)) (ld : Bool), (truckGo x l false ld).1 = false
 | [], _ => rfl
 | t :: ts, ld => by
  unfold truckGo
  cases truckSt x t with
  | none => rfl
  | some p => rw [Bool.false_and]; exact truckGo_false x ts _
def zerosD (n : Nat) : List Int := List.replicate n 0
structure TInv (x : InstD) (l : List (List StopD)) (k : Nat) (r ld : Bool) (out : List Int) : Prop where
 len : out.length = x.sats.length
 yes : r = true → trucksB x l = truckGo x (l.drop k) true ld ∧ out = (l.take k).foldl addTruck (List.replicate x.sats.length 0) ∧ Small9 out (tstopsUp l k)
 no : r = false → (trucksB x l).1 = false
theorem TInv.start (x : InstD) (l : List (List StopD)) : TInv x l 0 true true (zerosD x.sats.length) :=
 ⟨by simp [zerosD], fun _ => ⟨rfl, rfl, Small9.zero _⟩, fun h => by cases h⟩
structure SInv (x : InstD) (l : List (List StopD)) (k : Nat) (t : List StopD) (j : Nat) (r ld : Bool) (sum : Int) (out : List Int) : Prop where
 len : out.length = x.sats.length
 sumB : 0 ≤ sum ∧ sum ≤ 1000000000 * (j : Int)
 yes : r = true → (∃ m, SeenS m (t.take j) ∧ truckSt x t = (t.drop j).foldl (stopSt x) (some (m, x.troom - sum))) ∧ trucksB x l = truckGo x (l.drop k) true ld ∧ 0 < t.length ∧
  out = (t.take j).foldl addStop ((l.take k).foldl addTruck (List.replicate x.sats.length 0)) ∧ Small9 out (tstopsUp l k + j)
 no : r = false → (trucksB x l).1 = false
theorem SInv.start {x : InstD} {l : List (List StopD)} {k : Nat} {r ld : Bool} {out : List Int} (h : TInv x l k r ld out) (hk : k < l.length) : SInv x l k l[k] 0 (r && decide (0 < l[k].length)) ld 0 out := by
 refine ⟨h.len, by decide, fun hr => ?_, fun hr => ?_⟩
 ·simp only [Bool.and_eq_true, decide_eq_true_eq] at hr
  obtain ⟨h1, h2, h3⟩ := h.yes hr.1
  exact ⟨⟨0, SeenS.nil, by simp only [truckSt, List.drop_zero, Int.sub_zero]⟩, h1, hr.2, h2, h3⟩
 ·cases r with
  | false => exact h.no rfl
  | true =>
   have h0 : l[k].length = 0 := by simpa using hr
   rw [(h.yes rfl).1, List.drop_eq_getElem_cons hk, List.eq_nil_of_length_eq_zero h0, truckGo_ok (m := 0) (left := x.troom) rfl]
   exact truckGo_false x _ _
theorem SInv.step {x : InstD} {l : List (List StopD)} {k : Nat} {t : List StopD} {j : Nat} {r ld : Bool} {sum : Int} {out : List Int} (h : SInv x l k t j r ld sum out) (hj : j < t.length)
  (hr : (r && codeStop x (t.take j) t[j]) = true) : SInv x l k t (j + 1) true ld (sum + t[j].load) (addStop out t[j]) := by
 simp only [Bool.and_eq_true] at hr
 have ho := codeStop_ok hr.2
 obtain ⟨⟨m, hm, ht⟩, h1, h2, h3, h4⟩ := h.yes hr.1
 have hb := codeStop_bad (x := x) (s := t[j]) hm
 rw [hr.2] at hb
 have hb2 : stopBad x m t[j] = false := by simpa using hb.symm
 have hl := ho.2
 have hs := h.sumB
 refine ⟨by rw [addStop_len]; exact h.len, by push_cast; omega, fun _ => ⟨⟨m ||| 2 ^ t[j].sat.toNat, ?_, ?_⟩, h1, h2, ?_, ?_⟩, fun h => by cases h⟩
 ·rw [List.take_succ_eq_append_getElem hj]; exact hm.push ho.1.1
 ·rw [ht, List.drop_eq_getElem_cons hj, List.foldl_cons, stopSt_ok hb2, show x.troom - sum - t[j].load = x.troom - (sum + t[j].load) by omega]
 ·rw [foldl_take_succ _ _ _ _ hj, ← h3]
 ·unfold addStop
  refine h4.add ?_ ⟨by omega, hl.2⟩
  have hlt : t[j].sat.toNat < out.length := by have := ho.1; rw [h.len]; omega
  rw [List.getD_eq_getElem?_getD, List.getElem?_eq_getElem hlt]
  exact h4.get hlt
theorem truckGo_none {x : InstD} {l : List (List StopD)} {k : Nat} (hk : k < l.length) {ld : Bool} (h : truckSt x l[k] = none) : (truckGo x (l.drop k) true ld).1 = false := by
 rw [List.drop_eq_getElem_cons hk, truckGo_bad h]
theorem SInv.stop {x : InstD} {l : List (List StopD)} {k : Nat} (hk : k < l.length) {j : Nat} {r ld : Bool} {sum : Int} {out : List Int} (h : SInv x l k l[k] j r ld sum out) (hj : j < l[k].length)
  (hr : (r && codeStop x (l[k].take j) (l[k])[j]) = false) : SInv x l k l[k] (j + 1) false ld sum out := by
 refine ⟨h.len, (by have := h.sumB; push_cast; omega), (fun h => by cases h), fun _ => ?_⟩
 cases r with
 | false => exact h.no rfl
 | true =>
  rw [Bool.true_and] at hr
  obtain ⟨⟨m, hm, ht⟩, h1, -, -, -⟩ := h.yes rfl
  have hb := codeStop_bad (x := x) (s := (l[k])[j]) hm
  rw [hr] at hb
  have hb2 : stopBad x m (l[k])[j] = true := by simpa using hb.symm
  rw [h1]
  refine truckGo_none hk ?_
  rw [ht, List.drop_eq_getElem_cons hj, List.foldl_cons, stopSt_bad hb2, stops_none]
theorem SInv.done {x : InstD} {l : List (List StopD)} {k : Nat} (hk : k < l.length) {r ld : Bool} {sum : Int} {out : List Int} (h : SInv x l k l[k] l[k].length r ld sum out) : TInv x l (k + 1) r (ld && decide (sum ≤ x.troom)) out := by
 refine ⟨h.len, fun hr => ?_, h.no⟩
 obtain ⟨⟨m, hm, ht⟩, h1, h2, h3, h4⟩ := h.yes hr
 rw [List.drop_length, List.foldl_nil] at ht
 rw [List.take_length] at h3
 refine ⟨?_, ?_, ?_⟩
 ·rw [h1, List.drop_eq_getElem_cons hk, truckGo_ok ht, decide_eq_true h2, Bool.and_true]
  congr 2
  rw [Bool.eq_iff_iff]; simp
 ·rw [foldl_take_succ _ _ _ _ hk, h3]; rfl
 ·rw [tstopsUp_succ hk]; exact h4
theorem SInv.stop2 {x : InstD} {l : List (List StopD)} {k : Nat} (hk : k < l.length) {t : List StopD} (ht : t = l[k]) {j : Nat} {r ld : Bool} {sum : Int} {out : List Int} (h : SInv x l k t j r ld sum out) (hj : j < t.length)
  (hr : (r && codeStop x (t.take j) t[j]) = false) : SInv x l k t (j + 1) false ld sum out := by
 subst ht; exact h.stop hk hj hr
theorem TInv.done {x : InstD} {l : List (List StopD)} {r ld : Bool} {out : List Int} (h : TInv x l l.length r ld out) : (r = true → trucksB x l = (true, ld) ∧ out = dropsD x l) ∧ (r = false → (trucksB x l).1 = false) :=
 ⟨fun hr => by
  obtain ⟨h1, h2, -⟩ := h.yes hr
  rw [List.drop_length] at h1
  rw [List.take_length] at h2
  exact ⟨h1, h2⟩, h.no⟩
/-! Bikes. -/
def bitsL (m n : Nat) : List Int := (List.range n).map fun i => if m.testBit i then 1 else 0
theorem bitsL_len (m n : Nat) : (bitsL m n).length = n := by simp [bitsL]
theorem bitsL_get (m n i : Nat) (h : i < (bitsL m n).length) : (bitsL m n)[i] = if m.testBit i then 1 else 0 := by simp [bitsL]
theorem bitsL_set (m n i : Nat) (v : Int) (hv : v = 1) : (bitsL m n).set i v = bitsL (m ||| 2 ^ i) n := by
 subst hv
 refine List.ext_getElem (by simp [bitsL]) fun j h1 h2 => ?_
 rw [List.getElem_set]
 simp only [bitsL, List.getElem_map, List.getElem_range, Nat.testBit_or, Nat.testBit_two_pow]
 by_cases e : i = j <;> simp [e]
theorem bitsL_zero (n : Nat) : bitsL 0 n = zerosD n := by
 refine List.ext_getElem (by simp [bitsL, zerosD]) fun j h1 h2 => ?_
 simp [bitsL, zerosD]
def codeCust (x : InstD) (m : Nat) (c : Int) : Bool := ((decide (0 ≤ c)) && decide (c < x.custs.length)) && !m.testBit c.toNat
theorem codeCust_bad (x : InstD) (m : Nat) (c : Int) : codeCust x m c = !custBad x m c := by
 unfold codeCust custBad
 rw [Bool.eq_iff_iff]
 simp only [Bool.and_eq_true, decide_eq_true_eq, Bool.not_eq_true', Bool.or_eq_false_iff, decide_eq_false_iff_not]
 constructor
 ·rintro ⟨⟨h1, h2⟩, h3⟩
  exact ⟨⟨by omega, by omega⟩, h3⟩
 ·rintro ⟨⟨h1, h2⟩, h3⟩
  exact ⟨⟨by omega, by omega⟩, h3⟩
structure BInv (x : InstD) (l : List BikeD) (tr lt : Bool) (k : Nat) (r ld : Bool) (sv out : List Int) : Prop where
 len : out.length = x.sats.length
 svL : sv.length = x.custs.length
 yes : r = true → tr = true ∧ (∃ (m : Nat) (lb : Bool), bikesB x l = bikeGo x (l.drop k) m lb ∧ ld = (lt && lb) ∧ sv = bitsL m x.custs.length ∧ m < 2 ^ x.custs.length) ∧ out = (l.take k).foldl (addBike x) (List.replicate x.sats.length 0) ∧ Small9 out (stopsUp l k)
 no : r = false → tr = false ∨ (bikesB x l).1 = false
theorem BInv.start (x : InstD) (l : List BikeD) (tr lt : Bool) : BInv x l tr lt 0 tr lt (zerosD x.custs.length) (zerosD x.sats.length) :=
 ⟨by simp [zerosD], by simp [zerosD], fun h => ⟨h, ⟨0, true, rfl, by simp, (bitsL_zero _).symm, Nat.two_pow_pos _⟩, rfl, Small9.zero _⟩, fun h => .inl h⟩
structure CInv (x : InstD) (l : List BikeD) (tr lt : Bool) (k : Nat) (b : BikeD) (j : Nat) (r ld : Bool) (sum : Int) (sv out : List Int) : Prop where
 len : out.length = x.sats.length
 svL : sv.length = x.custs.length
 sumB : 0 ≤ sum ∧ sum ≤ 1000000000 * (j : Int)
 yes : r = true → tr = true ∧ (∃ (m0 m : Nat) (lb : Bool), bikesB x l = bikeGo x (l.drop k) m0 lb ∧ ld = (lt && lb) ∧ bikeBad x b = false ∧ bikeSt x m0 b.stops = (b.stops.drop j).foldl (custSt x) (some (m, x.broom - sum)) ∧
  sv = bitsL m x.custs.length ∧ m < 2 ^ x.custs.length) ∧ out = (b.stops.take j).foldl (addLoad x b.sat) ((l.take k).foldl (addBike x) (List.replicate x.sats.length 0)) ∧ Small9 out (stopsUp l k + j)
 no : r = false → tr = false ∨ (bikesB x l).1 = false
theorem bikeBad_iff (x : InstD) (b : BikeD) : bikeBad x b = !(decide (0 < b.stops.length) && thereB x b.sat) := by
 unfold bikeBad thereB
 rw [Bool.eq_iff_iff]
 simp only [Bool.or_eq_true, decide_eq_true_eq, Bool.not_eq_true', Bool.and_eq_false_iff, decide_eq_false_iff_not]
 omega
theorem CInv.start {x : InstD} {l : List BikeD} {tr lt : Bool} {k : Nat} {r ld : Bool} {sv out : List Int} (h : BInv x l tr lt k r ld sv out) (hk : k < l.length) :
  CInv x l tr lt k l[k] 0 ((r && decide (0 < l[k].stops.length)) && thereB x l[k].sat) ld 0 sv out := by
 refine ⟨h.len, h.svL, by decide, fun hr => ?_, fun hr => ?_⟩
 ·rw [Bool.and_assoc, Bool.and_eq_true] at hr
  obtain ⟨h0, ⟨m, lb, h1, h2, h3, h4⟩, h5, h6⟩ := h.yes hr.1
  exact ⟨h0, ⟨m, m, lb, h1, h2, by rw [bikeBad_iff, hr.2]; rfl, by simp only [bikeSt, List.drop_zero, Int.sub_zero], h3, h4⟩, h5, h6⟩
 ·cases r with
  | false => exact h.no rfl
  | true =>
   rw [Bool.true_and] at hr
   obtain ⟨h0, ⟨m, lb, h1, h2, h3, h4⟩, h5, h6⟩ := h.yes rfl
   refine .inr ?_
   rw [h1, List.drop_eq_getElem_cons hk, bikeGo_bad (by rw [bikeBad_iff, hr]; rfl)]
theorem CInv.addLoad_eq {x : InstD} {sat : Int} {out : List Int} {c : Int} (hs : thereB x sat = true) (hl : out.length = x.sats.length) (hc : 0 ≤ c ∧ c < x.custs.length) :
  addLoad x sat out c = out.set sat.toNat (out.getD sat.toNat 0 + (x.custs.getD c.toNat ⟨0, 0, 0, 0⟩).load) := by
 simp only [thereB, Bool.and_eq_true, decide_eq_true_eq] at hs
 unfold addLoad
 rw [if_pos (by rw [hl]; omega)]
theorem CInv.step {x : InstD} {l : List BikeD} {tr lt : Bool} {k : Nat} {b : BikeD} {j : Nat} {ld : Bool} {sum : Int} {sv out : List Int} (h : CInv x l tr lt k b j true ld sum sv out) (hj : j < b.stops.length)
  (hcu : ∀ c ∈ x.custs, 0 ≤ c.load ∧ c.load ≤ 1000000000) (hc : 0 ≤ b.stops[j] ∧ b.stops[j] < x.custs.length) (h0 : sv.getD (b.stops[j]).toNat 0 = 0) :
  CInv x l tr lt k b (j + 1) true ld (sum + (x.custs.getD (b.stops[j]).toNat ⟨0, 0, 0, 0⟩).load) (sv.set (b.stops[j]).toNat 1) (addLoad x b.sat out b.stops[j]) := by
 obtain ⟨t0, ⟨m0, m, lb, h1, h2, h3, h4, h5, h6⟩, h7, h8⟩ := h.yes rfl
 obtain ⟨c, hce⟩ : ∃ c, c = b.stops[j] := ⟨_, rfl⟩
 rw [← hce] at hc h0 ⊢
 have hcl : c.toNat < x.custs.length := by omega
 have hld := hcu _ (List.getElem_mem hcl)
 have hcd : (x.custs.getD c.toNat ⟨0, 0, 0, 0⟩) = x.custs[c.toNat] := by rw [List.getD_eq_getElem?_getD, List.getElem?_eq_getElem hcl]; rfl
 have hsb := h.sumB
 have htb : m.testBit c.toNat = false := by
  rw [h5, List.getD_eq_getElem?_getD, List.getElem?_eq_getElem (by rw [bitsL_len]; exact hcl), Option.getD_some, bitsL_get] at h0
  cases e : m.testBit c.toNat with
  | false => rfl
  | true => rw [e] at h0; cases h0
 have hcb : custBad x m c = false := by
  have := codeCust_bad x m c
  unfold codeCust at this
  rw [decide_eq_true hc.1, decide_eq_true hc.2, htb] at this
  simpa using this.symm
 have hth : thereB x b.sat = true := by
  rw [bikeBad_iff] at h3
  have : (decide (0 < b.stops.length) && thereB x b.sat) = true := by simpa using h3
  exact (Bool.and_eq_true_iff.1 this).2
 refine ⟨by rw [addLoad_len]; exact h.len, by rw [List.length_set]; exact h.svL, by rw [hcd]; push_cast; omega, fun _ => ⟨t0, ⟨m0, m ||| 2 ^ c.toNat, lb, h1, h2, h3, ?_, ?_, ?_⟩, ?_, ?_⟩, fun h => by cases h⟩
 ·rw [h4, List.drop_eq_getElem_cons hj, List.foldl_cons, ← hce, custSt_ok hcb]
  show List.foldl (custSt x) (some (m ||| 2 ^ c.toNat, x.broom - sum - (x.custs.getD c.toNat ⟨0, 0, 0, 0⟩).load)) _ = _
  rw [Int.sub_sub]
 ·rw [h5, bitsL_set _ _ _ _ rfl]
 ·exact Nat.or_lt_two_pow h6 (Nat.pow_lt_pow_right (by decide) hcl)
 ·rw [foldl_take_succ _ _ _ _ hj, ← h7, ← hce]
 ·rw [CInv.addLoad_eq hth h.len hc, ← Nat.add_assoc]
  have hs2 : b.sat.toNat < out.length := by
   simp only [thereB, Bool.and_eq_true, decide_eq_true_eq] at hth
   rw [h.len]; omega
  refine h8.add ?_ (by rw [hcd]; exact hld)
  rw [List.getD_eq_getElem?_getD, List.getElem?_eq_getElem hs2]
  exact h8.get hs2
theorem CInv.twice {x : InstD} {l : List BikeD} {tr lt : Bool} {k : Nat} (hk : k < l.length) {j : Nat} {r ld : Bool} {sum : Int} {sv out : List Int} (h : CInv x l tr lt k l[k] j r ld sum sv out) (hj : j < l[k].stops.length)
  (hr : r = true → ¬ ((0 ≤ (l[k]).stops[j] ∧ (l[k]).stops[j] < x.custs.length) ∧ sv.getD ((l[k]).stops[j]).toNat 0 = 0)) : r = true → (bikesB x l).1 = false := by
 intro hrt
 obtain ⟨t0, ⟨m0, m, lb, h1, h2, h3, h4, h5, h6⟩, h7, h8⟩ := h.yes hrt
 have hr := hr hrt
 obtain ⟨c, hce⟩ : ∃ c, c = (l[k]).stops[j] := ⟨_, rfl⟩
 rw [← hce] at hr
 have hcb : custBad x m c = true := by
  have := codeCust_bad x m c
  cases e : custBad x m c with
  | true => rfl
  | false =>
   rw [e] at this
   simp only [codeCust, Bool.and_eq_true, decide_eq_true_eq, Bool.not_eq_true', Bool.not_false] at this
   refine absurd ⟨this.1, ?_⟩ hr
   rw [h5, List.getD_eq_getElem?_getD, List.getElem?_eq_getElem (by rw [bitsL_len]; omega), Option.getD_some, bitsL_get, this.2]; rfl
 rw [h1, List.drop_eq_getElem_cons hk, bikeGo_none (by rw [h4, List.drop_eq_getElem_cons hj, List.foldl_cons, ← hce, custSt_bad hcb, custs_none])]
theorem CInv.stop {x : InstD} {l : List BikeD} {tr lt : Bool} {k : Nat} (hk : k < l.length) {j : Nat} {r ld : Bool} {sum sum' : Int} {sv out sv' out' : List Int} (h : CInv x l tr lt k l[k] j r ld sum sv out) (hj : j < l[k].stops.length)
  (hr : r = true → ¬ ((0 ≤ (l[k]).stops[j] ∧ (l[k]).stops[j] < x.custs.length) ∧ sv.getD ((l[k]).stops[j]).toNat 0 = 0)) (hl : out'.length = x.sats.length) (hs : sv'.length = x.custs.length) (hb : 0 ≤ sum' ∧ sum' ≤ 1000000000 * ((j + 1 : Nat) : Int)) :
  CInv x l tr lt k l[k] (j + 1) false ld sum' sv' out' :=
 ⟨hl, hs, hb, (fun h => by cases h), fun _ => (by
  rcases Bool.eq_false_or_eq_true r with e | e
  ·exact .inr (h.twice hk hj hr e)
  ·exact h.no e)⟩
theorem CInv.done {x : InstD} {l : List BikeD} {tr lt : Bool} {k : Nat} (hk : k < l.length) {r ld : Bool} {sum : Int} {sv out : List Int} (h : CInv x l tr lt k l[k] l[k].stops.length r ld sum sv out) :
  BInv x l tr lt (k + 1) r (ld && decide (sum ≤ x.broom)) sv out := by
 refine ⟨h.len, h.svL, fun hr => ?_, h.no⟩
 obtain ⟨t0, ⟨m0, m, lb, h1, h2, h3, h4, h5, h6⟩, h7, h8⟩ := h.yes hr
 rw [List.drop_length, List.foldl_nil] at h4
 rw [List.take_length] at h7
 refine ⟨t0, ⟨m, lb && decide (0 ≤ x.broom - sum), ?_, ?_, h5, h6⟩, ?_, ?_⟩
 ·rw [h1, List.drop_eq_getElem_cons hk, bikeGo_ok h3 h4]
 ·rw [h2, Bool.and_assoc]
  congr 2
  rw [Bool.eq_iff_iff]; simp
 ·rw [foldl_take_succ _ _ _ _ hk, h7]; rfl
 ·rw [stopsUp_succ hk]; exact h8
theorem CInv.stop2 {x : InstD} {l : List BikeD} {tr lt : Bool} {k : Nat} (hk : k < l.length) {b : BikeD} (hbe : b = l[k]) {j : Nat} {r ld : Bool} {sum sum' : Int} {sv out sv' out' : List Int} (h : CInv x l tr lt k b j r ld sum sv out) (hj : j < b.stops.length)
  (hr : r = true → ¬ ((0 ≤ b.stops[j] ∧ b.stops[j] < x.custs.length) ∧ sv.getD (b.stops[j]).toNat 0 = 0)) (hl : out'.length = x.sats.length) (hs : sv'.length = x.custs.length) (hb : 0 ≤ sum' ∧ sum' ≤ 1000000000 * ((j + 1 : Nat) : Int)) :
  CInv x l tr lt k b (j + 1) false ld sum' sv' out' := by
 subst hbe; exact h.stop hk hj hr hl hs hb
theorem CInv.facts {x : InstD} {l : List BikeD} {tr lt : Bool} {k : Nat} {b : BikeD} {j : Nat} {ld : Bool} {sum : Int} {sv out : List Int} (h : CInv x l tr lt k b j true ld sum sv out) (c : Nat) :
  (0 ≤ b.sat ∧ b.sat < x.sats.length) ∧ (0 ≤ sv.getD c 0 ∧ sv.getD c 0 ≤ 1) ∧ Small9 out (stopsUp l k + j) := by
 obtain ⟨t0, ⟨m0, m, lb, h1, h2, h3, h4, h5, h6⟩, h7, h8⟩ := h.yes rfl
 refine ⟨?_, ?_, h8⟩
 ·rw [bikeBad_iff] at h3
  have : (decide (0 < b.stops.length) && thereB x b.sat) = true := by simpa using h3
  have := (Bool.and_eq_true_iff.1 this).2
  simpa [thereB] using this
 ·rw [h5, List.getD_eq_getElem?_getD]
  by_cases hc : c < (bitsL m x.custs.length).length
  ·rw [List.getElem?_eq_getElem hc, Option.getD_some, bitsL_get]; split <;> decide
  ·rw [List.getElem?_eq_none (by omega)]; decide
theorem CInv.go {x : InstD} {l : List BikeD} {tr lt : Bool} {k : Nat} (hk : k < l.length) {b : BikeD} (hbe : b = l[k]) {j : Nat} {ld : Bool} {sum : Int} {sv out : List Int} (h : CInv x l tr lt k b j true ld sum sv out) (hj : j < b.stops.length)
  (hcu : ∀ c ∈ x.custs, 0 ≤ c.load ∧ c.load ≤ 1000000000) {c : Int} (hce : c = b.stops[j]) (hc : 0 ≤ c ∧ c < x.custs.length) {v ov lo : Int} (hv : sv.getD c.toNat 0 = v) (hov : out.getD b.sat.toNat 0 = ov) (hlo : (x.custs.getD c.toNat ⟨0, 0, 0, 0⟩).load = lo) :
  CInv x l tr lt k b (j + 1) (v + 1 == 1) ld (sum + lo) (sv.set c.toNat (v + 1)) (out.set b.sat.toNat (ov + lo)) := by
 subst hce hv hov hlo
 have hf := h.facts 0
 have hcl : (b.stops[j]).toNat < x.custs.length := by omega
 have hld := hcu _ (List.getElem_mem hcl)
 have hcd : (x.custs.getD (b.stops[j]).toNat ⟨0, 0, 0, 0⟩) = x.custs[(b.stops[j]).toNat] := by rw [List.getD_eq_getElem?_getD, List.getElem?_eq_getElem hcl]; rfl
 by_cases h0 : sv.getD (b.stops[j]).toNat 0 = 0
 ·have := h.step hj hcu hc h0
  rw [CInv.addLoad_eq (by simp [thereB, hf.1]) h.len hc] at this
  rw [h0]
  exact this
 ·have e : (sv.getD (b.stops[j]).toNat 0 + 1 == 1) = false := by rw [beq_eq_false_iff_ne]; omega
  rw [e]
  have hs := h.sumB
  exact h.stop2 hk hbe hj (fun _ hn => h0 hn.2) (by rw [List.length_set]; exact h.len) (by rw [List.length_set]; exact h.svL) (by rw [hcd]; push_cast; omega)
end Go.Proofs.Ytafhjfkdlmijdaa
namespace Go.Proofs.Ytafhjfkdlmijdaa
open Go.RowKit
def wholeD (x : InstD) (l : List BikeD) : PlanD × Int := if (trucksH x (loadsD x l)).2 = 0 then (⟨(trucksH x (loadsD x l)).1, l⟩, 0) else (⟨[], []⟩, (trucksH x (loadsD x l)).2)
end Go.Proofs.Ytafhjfkdlmijdaa
namespace Go.Proofs.Ytafhjfkdlmijdaa
open Go.RowKit
/-! Sums. -/
theorem sum_set : ∀ (l : List Int) (k : Nat) (h : k < l.length) (v : Int), (l.set k v).sum = l.sum + (v - l[k])
 | a :: l, 0, _, v => by simp; omega
 | a :: l, k + 1, h, v => by
  rw [List.set_cons_succ, List.sum_cons, List.sum_cons, sum_set l k (Nat.lt_of_succ_lt_succ h) v, List.getElem_cons_succ]; omega
def bump (l : List Int) (k : Nat) (v : Int) : List Int := l.set k (l.getD k 0 + v)
theorem bump_sum {l : List Int} {k : Nat} (h : k < l.length) (v : Int) : (bump l k v).sum = l.sum + v := by
 unfold bump
 rw [sum_set l k h, List.getD_eq_getElem?_getD, List.getElem?_eq_getElem h, Option.getD_some]; omega
/-! Trucks that may go. -/
def loadSum (t : List StopD) : Int := (t.map StopD.load).sum
theorem loadSum_snoc (t : List StopD) (s : StopD) : loadSum (t ++ [s]) = loadSum t + s.load := by
 unfold loadSum; rw [List.map_append, List.sum_append]; simp
structure TruckFit (x : InstD) (t : List StopD) : Prop where
 pos : 0 < t.length
 ok : ∀ o ∈ t, StopOk x o
 nodup : (t.map StopD.sat).Nodup
 room : loadSum t ≤ x.troom
theorem addLast_snoc (l : List (List StopD)) (t : List StopD) (s : StopD) : addLast (l ++ [t]) s = l ++ [t ++ [s]] := by
 unfold addLast
 rw [List.length_append, List.length_singleton, Nat.add_sub_cancel, List.getD_eq_getElem?_getD, List.getElem?_append_right (Nat.le_refl _), Nat.sub_self, List.set_append_right _ _ (Nat.le_refl _), Nat.sub_self]; rfl
theorem lastT_snoc (l : List (List StopD)) (t : List StopD) : lastT (l ++ [t]) = t := by
 unfold lastT
 rw [List.length_append, List.length_singleton, Nat.add_sub_cancel, List.getD_eq_getElem?_getD, List.getElem?_append_right (Nat.le_refl _), Nat.sub_self]; rfl
theorem snoc_of_pos {α : Type} {l : List α} (h : 0 < l.length) : ∃ l' a, l = l' ++ [a] := ⟨l.dropLast, l.getLast (List.ne_nil_of_length_pos h), (List.dropLast_concat_getLast _).symm⟩
structure Fit (x : InstD) (D : Nat → Prop) (dr : List Int) (out : List (List StopD)) (left : Int) : Prop where
 drop : out.foldl addTruck (zerosD x.sats.length) = dr
 many : (out.length : Int) ≤ x.tmany
 leftB : 0 ≤ left ∧ left < x.troom
 sum : dr.sum = x.troom * (out.length : Int) - left
 cnt : (((out.map List.length).sum : Nat) : Int) ≤ dr.sum
 trucks : ∀ t ∈ out, TruckFit x t
 last : 0 < left → 0 < out.length ∧ loadSum (lastT out) = x.troom - left
 sats : ∀ t ∈ out, ∀ o ∈ t, D o.sat.toNat
theorem Fit.len {x : InstD} {D : Nat → Prop} {dr : List Int} {out : List (List StopD)} {left : Int} (h : Fit x D dr out left) : dr.length = x.sats.length := by
 rw [← h.drop, addTrucks_len]; simp [zerosD]
theorem Fit.nil {x : InstD} {D : Nat → Prop} (hr : 1 ≤ x.troom) (hm : 0 ≤ x.tmany) : Fit x D (zerosD x.sats.length) [] 0 :=
 ⟨rfl, hm, by omega, by simp [zerosD], by simp [zerosD], (fun _ h => by cases h), fun h => absurd h (by decide), fun _ h => by cases h⟩
theorem Fit.imp {x : InstD} {D D' : Nat → Prop} {dr : List Int} {out : List (List StopD)} {left : Int} (h : Fit x D dr out left) (hd : ∀ s, D s → D' s) : Fit x D' dr out left :=
 ⟨h.drop, h.many, h.leftB, h.sum, h.cnt, h.trucks, h.last, fun t ht o ho => hd _ (h.sats t ht o ho)⟩
theorem Fit.stop {x : InstD} {D : Nat → Prop} {dr : List Int} {out : List (List StopD)} {left k : Int} {s : Nat} (h : Fit x D dr out left) (hl : 0 < left) (hs : s < x.sats.length) (hD : D s) (hns : ∀ o ∈ lastT out, o.sat ≠ s) (hk : 1 ≤ k ∧ k ≤ left) (hr : x.troom ≤ 1000000000) :
  Fit x D (bump dr s k) (addLast out ⟨s, k⟩) (left - k) := by
 obtain ⟨h1, h2⟩ := h.last hl
 obtain ⟨l, t, rfl⟩ := snoc_of_pos h1
 rw [lastT_snoc] at h2 hns
 have hb := h.leftB
 have hsum := h.sum
 have hcnt := h.cnt
 have hsl : s < dr.length := by rw [h.len]; exact hs
 have ht := h.trucks t (by simp)
 rw [addLast_snoc]
 refine ⟨?_, ?_, by omega, ?_, ?_, fun t' ht' => ?_, fun _ => ⟨by simp, ?_⟩, fun t' ht' o ho => ?_⟩
 ·have hd := h.drop
  rw [List.foldl_append, List.foldl_cons, List.foldl_nil] at hd ⊢
  unfold addTruck at hd ⊢
  rw [List.foldl_append, hd]; rfl
 ·have := h.many; simp only [List.length_append, List.length_singleton] at this ⊢; exact this
 ·rw [bump_sum hsl, hsum]; simp only [List.length_append, List.length_singleton]; omega
 ·rw [bump_sum hsl]
  simp only [List.map_append, List.sum_append, List.map_cons, List.map_nil, List.sum_cons, List.sum_nil, List.length_append, List.length_singleton, Nat.add_zero] at hcnt ⊢
  push_cast at hcnt ⊢; omega
 ·rcases List.mem_append.1 ht' with ht' | ht'
  ·exact h.trucks t' (List.mem_append_left _ ht')
  ·obtain rfl := List.mem_singleton.1 ht'
   refine ⟨by simp, fun o ho => ?_, ?_, by rw [loadSum_snoc]; show _ + k ≤ _; omega⟩
   ·rcases List.mem_append.1 ho with ho | ho
    ·exact ht.ok o ho
    ·obtain rfl := List.mem_singleton.1 ho
     exact ⟨⟨Int.natCast_nonneg _, by show ((s : Nat) : Int) < _; omega⟩, by show 1 ≤ k; omega, by show k ≤ _; omega⟩
   ·rw [List.map_append, List.nodup_append]
    refine ⟨ht.nodup, by simp, fun a ha b hb e => ?_⟩
    obtain ⟨o, ho, rfl⟩ := List.mem_map.1 ha
    simp only [List.map_cons, List.map_nil, List.mem_singleton] at hb
    exact hns o ho (e.trans hb)
 ·rw [lastT_snoc, loadSum_snoc, h2]; show _ + k = _; omega
 ·rcases List.mem_append.1 ht' with ht' | ht'
  ·exact h.sats t' (List.mem_append_left _ ht') o ho
  ·obtain rfl := List.mem_singleton.1 ht'
   rcases List.mem_append.1 ho with ho | ho
   ·exact h.sats t (by simp) o ho
   ·obtain rfl := List.mem_singleton.1 ho
    show D ((s : Int)).toNat
    rw [Int.toNat_natCast]; exact hD
theorem Fit.push {x : InstD} {D : Nat → Prop} {dr : List Int} {out : List (List StopD)} {k : Int} {s : Nat} (h : Fit x D dr out 0) (hm : (out.length : Int) ≠ x.tmany) (hs : s < x.sats.length) (hD : D s) (hk : 1 ≤ k ∧ k ≤ x.troom) (hr : x.troom ≤ 1000000000) :
  Fit x D (bump dr s k) (addLast (out ++ [[]]) ⟨s, k⟩) (x.troom - k) := by
 have hb := h.leftB
 have hsum := h.sum
 have hcnt := h.cnt
 have hsl : s < dr.length := by rw [h.len]; exact hs
 have hmm := h.many
 rw [addLast_snoc, List.nil_append]
 refine ⟨?_, ?_, by omega, ?_, ?_, fun t' ht' => ?_, fun _ => ⟨by simp, ?_⟩, fun t' ht' o ho => ?_⟩
 ·rw [List.foldl_append, h.drop]; rfl
 ·simp only [List.length_append, List.length_singleton]; push_cast; omega
 ·rw [bump_sum hsl, hsum]; simp only [List.length_append, List.length_singleton]; push_cast; rw [Int.mul_add]; omega
 ·rw [bump_sum hsl]
  simp only [List.map_append, List.sum_append, List.map_cons, List.map_nil, List.sum_cons, List.sum_nil, List.length_singleton, Nat.add_zero] at hcnt ⊢
  push_cast at hcnt ⊢; omega
 ·rcases List.mem_append.1 ht' with ht' | ht'
  ·exact h.trucks t' ht'
  ·obtain rfl := List.mem_singleton.1 ht'
   refine ⟨by simp, fun o ho => ?_, by simp, by show (List.map StopD.load [⟨(s : Int), k⟩]).sum ≤ _; simp; omega⟩
   obtain rfl := List.mem_singleton.1 ho
   exact ⟨⟨Int.natCast_nonneg _, by show ((s : Nat) : Int) < _; omega⟩, by show 1 ≤ k; omega, by show k ≤ _; omega⟩
 ·rw [lastT_snoc]; show (List.map StopD.load [⟨(s : Int), k⟩]).sum = _; simp; omega
 ·rcases List.mem_append.1 ht' with ht' | ht'
  ·exact h.sats t' ht' o ho
  ·obtain rfl := List.mem_singleton.1 ht'
   obtain rfl := List.mem_singleton.1 ho
   show D ((s : Int)).toNat
   rw [Int.toNat_natCast]; exact hD
/-! The loads of a draft's bikes, all together. -/
def sumLoads (x : InstD) (bs : List BikeD) : Int := (bs.map fun b => (b.stops.map fun c => (custD x c).load).sum).sum
def BikesIn (x : InstD) (bs : List BikeD) : Prop := ∀ b ∈ bs, (0 ≤ b.sat ∧ b.sat < x.sats.length) ∧ ∀ c ∈ b.stops, 0 ≤ c ∧ c < x.custs.length
end Go.Proofs.Ytafhjfkdlmijdaa
namespace Go.Proofs.Ytafhjfkdlmijdaa
open Go.RowKit
def loadU (x : InstD) (l : List Int) (s : Nat) : Int := if s < l.length then l.getD s 0 % ((x.sats.getD s ⟨0, 0⟩).room + 1) else 0
def loadsUp (x : InstD) (l : List Int) (k : Nat) : List Int := (List.range x.sats.length).map fun s => if s < k then loadU x l s else 0
def loadsU (x : InstD) (l : List Int) : List Int := loadsUp x l x.sats.length
end Go.Proofs.Ytafhjfkdlmijdaa
namespace Go.Proofs.Ytafhjfkdlmijdaa
open Go.RowKit
structure SmallWf (x : SmallD) : Prop where
 fin : wf8 x.fin
 trucks : wf8 x.trucks
 troom : wf8 x.troom
 bikes : wf8 x.bikes
 broom : wf8 x.broom
 sats : ∀ s ∈ x.sats, wf8 s.room ∧ wf8 s.hold
 custs : ∀ c ∈ x.custs, wf8 c.load ∧ wf8 c.opn ∧ wf8 c.wide ∧ wf8 c.stay
theorem small_wf {w : World} {F : Nat → Prop} {x : SmallD} {cs : List Value} (h : smallS.rep w F x cs) : SmallWf x := by
 obtain ⟨_, _, _, _, rfl, h0, h1, h2, -, -⟩ := h
 obtain ⟨_, _, _, _, -, -, -, -, -, -, hs⟩ := lsats_open h1
 obtain ⟨_, _, _, _, -, -, -, -, -, -, hc⟩ := lwhos_open h2
 exact ⟨h0.1, h0.2.1, h0.2.2.1, h0.2.2.2.1, h0.2.2.2.2, hs, hc⟩
theorem wide_bd (x : SmallD) : wideOf x = 1 ∨ wideOf x = 9 := by unfold wideOf; split <;> simp
theorem rowSt_cell (l : List Int) (n i k0 : Nat) : ∀ m j : Nat, 0 ≤ (rowSt l n i k0 m).1.getD j 0 ∧ (rowSt l n i k0 m).1.getD j 0 ≤ 29 ∧ (i = j → (rowSt l n i k0 m).1.getD j 0 = 0)
 | 0, j => by
  have : (List.replicate n (0 : Int)).getD j 0 = 0 := by rw [List.getD_eq_getElem?_getD, List.getElem?_replicate]; split <;> rfl
  show 0 ≤ (List.replicate n (0 : Int)).getD j 0 ∧ (List.replicate n (0 : Int)).getD j 0 ≤ 29 ∧ (i = j → (List.replicate n (0 : Int)).getD j 0 = 0)
  rw [this]; simp
 | m + 1, j => by
  have ih := rowSt_cell l n i k0 m j
  simp only [rowSt]
  split
  ·rename_i hc
   simp only [List.getD_eq_getElem?_getD, List.getElem?_set] at ih ⊢
   split
   ·rename_i e
    split
    ·simp only [Option.getD_some]
     refine ⟨by omega, by omega, fun h => absurd (h.trans e.symm) hc.1⟩
    ·simp
   ·exact ih
  ·exact ih
theorem sqSt_row (l : List Int) (n : Nat) : ∀ i j (h : j < (sqSt l n i).1.length), ((sqSt l n i).1[j]).length = n ∧ ∀ k, 0 ≤ ((sqSt l n i).1[j]).getD k 0 ∧ ((sqSt l n i).1[j]).getD k 0 ≤ 29 ∧ (j = k → ((sqSt l n i).1[j]).getD k 0 = 0)
 | 0, j, h => by simp [sqSt] at h
 | i + 1, j, h => by
  have hl := sqSt_len l n i
  by_cases hj : j < i
  ·have e : (sqSt l n (i + 1)).1[j] = (sqSt l n i).1[j]'(by omega) := by
    simp only [sqSt]; rw [List.getElem_append_left (by omega)]
   rw [e]; exact sqSt_row l n i j _
  ·have hji : j = i := by rw [sqSt_len] at h; omega
   subst hji
   have e : (sqSt l n (j + 1)).1[j] = (rowSt l n j (sqSt l n j).2 n).1 := by
    simp only [sqSt]; rw [List.getElem_append_right (by omega)]; simp [hl]
   rw [e]
   exact ⟨rowSt_len _ _ _ _ _, fun k => rowSt_cell l n j _ n k⟩
theorem square_good (l : List Int) (n : Nat) : squareB (square11 l n) (n : Int) = true ∧ matB (square11 l n) (square11 l n).length = true := by
 have hl : (square11 l n).length = n := by unfold square11; exact sqSt_len l n n
 refine ⟨?_, ?_⟩
 ·simp only [squareB, Bool.and_eq_true, beq_iff_eq, Bool.not_eq_true', List.any_eq_false, bne_iff_ne, ne_eq, Decidable.not_not]
  refine ⟨by rw [hl], fun r hr => ?_⟩
  obtain ⟨j, hj, rfl⟩ := List.getElem_of_mem hr
  rw [show ((square11 l n)[j]).length = n from (sqSt_row l n n j hj).1]
 ·simp only [matB, List.all_eq_true, List.mem_range]
  intro i hi
  rw [List.getD_eq_getElem?_getD, List.getElem?_eq_getElem hi]
  simp only [rowB, Option.getD_some, List.all_eq_true, List.mem_range]
  intro k _
  have h := (sqSt_row l n n i hi).2 k
  simp only [cellB, mayB, Bool.and_eq_true, decide_eq_true_eq, Bool.or_eq_true, bne_iff_ne, ne_eq, beq_iff_eq]
  refine ⟨⟨h.1, by have := h.2.1; show ((sqSt l n n).1[i]).getD k 0 ≤ _; omega⟩, ?_⟩
  by_cases e : i = k
  ·exact .inr (h.2.2 e)
  ·left; omega
theorem sat_may {x : SmallD} (h : SmallWf x) : ∀ s ∈ satsOf x, (0 ≤ s.room ∧ s.room ≤ 1000) ∧ 0 ≤ s.hold ∧ s.hold ≤ 1000 := by
 intro s hs
 have hw := wide_bd x
 unfold satsOf at hs
 split at hs
 ·simp at hs; subst hs; simp
 ·unfold satsUp at hs
  obtain ⟨t, ht, rfl⟩ := List.mem_map.1 hs
  have := h.sats t (List.mem_of_mem_take (List.mem_of_mem_take ht))
  unfold wf8 at this
  unfold satOf
  rcases hw with e | e <;> rw [e] <;> simp only [] <;> omega
theorem cust_may {x : SmallD} (h : SmallWf x) : ∀ c ∈ custsOf x, (1 ≤ c.load ∧ c.load ≤ 1000) ∧ (0 ≤ c.opn ∧ c.opn ≤ 1000) ∧ (c.opn ≤ c.cls ∧ c.cls ≤ 10000) ∧ 0 ≤ c.stay ∧ c.stay ≤ 1000 := by
 intro s hs
 have hw := wide_bd x
 unfold custsOf at hs
 split at hs
 ·simp at hs; subst hs; simp
 ·unfold custsUp at hs
  obtain ⟨t, ht, rfl⟩ := List.mem_map.1 hs
  have := h.custs t (List.mem_of_mem_take (List.mem_of_mem_take ht))
  unfold wf8 at this
  unfold custOf loadOf
  rcases hw with e | e <;> rw [e] <;> simp only [] <;> split <;> omega
theorem may_of {n l : Int} (h : l ≤ n) (h2 : n ≤ 1000000000) : mayB n l = true := by simp [mayB, h, h2]
theorem make_check {x : SmallD} (h : SmallWf x) : check (makeD x) = 0 := by
 have hw := wide_bd x
 have h0 := h.fin
 have h1 := h.trucks
 have h2 := h.troom
 have h3 := h.bikes
 have h4 := h.broom
 unfold wf8 at h0 h1 h2 h3 h4
 have hs := satsOf_len x
 have hc := custsOf_len x
 have hcount : countB (makeD x) = true := by
  show (manyB (1 + x.trucks % 4) 60 && manyB (1 + x.bikes % 6) 60 && manyB (satsOf x).length 12 && manyB (custsOf x).length 48) = true
  simp only [manyB, Bool.and_eq_true, decide_eq_true_eq]; omega
 have hsize : sizeB (makeD x) = true := by
  have e : nodes (makeD x) = nodesOf x := rfl
  simp only [sizeB, e, Bool.and_eq_true]
  exact ⟨(square_good _ _).1, (square_good _ _).1⟩
 have hnum : numbersB (makeD x) = true := by
  simp only [numbersB, headB, Bool.and_eq_true, List.all_eq_true]
  refine ⟨⟨⟨⟨⟨⟨?_, ?_⟩, ?_⟩, fun s hs => ?_⟩, fun c hc => ?_⟩, (square_good _ _).2⟩, (square_good _ _).2⟩
  ·refine may_of ?_ ?_ <;> simp only [makeD] <;> rcases hw with e | e <;> rw [e] <;> omega
  ·refine may_of ?_ ?_ <;> simp only [makeD] <;> rcases hw with e | e <;> rw [e] <;> omega
  ·refine may_of ?_ ?_ <;> simp only [makeD] <;> rcases hw with e | e <;> rw [e] <;> omega
  ·have := sat_may h s hs
   simp only [satB, Bool.and_eq_true]; exact ⟨may_of (by omega) (by omega), may_of (by omega) (by omega)⟩
  ·have := cust_may h c hc
   simp only [custB, Bool.and_eq_true]; exact ⟨⟨⟨may_of (by omega) (by omega), may_of (by omega) (by omega)⟩, may_of (by omega) (by omega)⟩, may_of (by omega) (by omega)⟩
 unfold check
 rw [hcount, hsize, hnum]; rfl
theorem make_wf {x : SmallD} (h : SmallWf x) : InstWf (makeD x) := by
 have g := good_of (make_check h)
 have hn := nodesOf_le x
 have e : nodes (makeD x) = nodesOf x := rfl
 refine ⟨?_, fun s hs => ?_, fun c hc => ?_, fun r hr => ?_, fun r hr => ?_⟩
 ·have h1 := g.fin; have h2 := g.tmany; have h3 := g.troom; have h4 := g.bmany; have h5 := g.broom
  unfold wf64; omega
 ·have := g.sat s hs; unfold wf64; omega
 ·have := g.cust c hc; unfold wf64; omega
 ·exact ⟨by rw [g.costR r hr]; unfold maxLen; omega, fun v hv => by have := g.cost r hr v hv; unfold wf64; omega⟩
 ·exact ⟨by rw [g.timeR r hr]; unfold maxLen; omega, fun v hv => by have := g.time r hr v hv; unfold wf64; omega⟩
end Go.Proofs.Ytafhjfkdlmijdaa
namespace Go.Proofs.Ytafhjfkdlmijdaa
open Go.RowKit
def badB (y : InstD) (l : List Int) (k : Nat) : Bool := decide (l.length ≠ y.sats.length) || badLoads y l k
end Go.Proofs.Ytafhjfkdlmijdaa

namespace Go.Proofs.Ytafhjfkdlmijdaa
open Go.RowKit
theorem make_troom {x : SmallD} (h : SmallWf x) : 1 ≤ (makeD x).troom := by
 have := h.troom
 have hw := wide_bd x
 unfold wf8 at this
 show 1 ≤ 5 + wideOf x * (x.troom % 40)
 rcases hw with e | e <;> rw [e] <;> omega
def trucksSay (y : InstD) (n : List Int) : Prop := (trucksW y n).length ≤ y.tmany ∧ trucksH y n = (trucksW y n, 0) ∨ y.tmany < (trucksW y n).length ∧ trucksH y n = ([], 11)
end Go.Proofs.Ytafhjfkdlmijdaa
namespace Go.Proofs.Ytafhjfkdlmijdaa
open Go.RowKit
structure PlanFew (p : PlanD) : Prop where
 tl : p.trucks.length ≤ 100000
 bl : p.bikes.length ≤ 100
 ts : ∀ t ∈ p.trucks, t.length ≤ 100000 ∧ ∀ s ∈ t, (-1000000000 ≤ s.sat ∧ s.sat ≤ 1000000000) ∧ -1000000000 ≤ s.load ∧ s.load ≤ 1000000000
 bs : ∀ b ∈ p.bikes, (-1000000000 ≤ b.sat ∧ b.sat ≤ 1000000000) ∧ b.stops.length ≤ 100 ∧ ∀ c ∈ b.stops, -1000000000 ≤ c ∧ c ≤ 1000000000
theorem dOne_ok {many room : Int} {q : Bool} {s : Nat} (hr : 1 ≤ room) (hs : s ≤ 1000) : ∀ (f : Nat) (n : Int) (cnt : Nat) (out : List (List StopD)) (left : Int), UnitOk room cnt out left → UnitOk room (cnt + n.toNat) (dOne many room q s f n (out, left)).1 (dOne many room q s f n (out, left)).2
 | 0, n, cnt, out, left, h => ⟨h.leftB, by have := h.lenB; show out.length ≤ _; omega, h.someB, fun t ht => by have := h.stB t ht; exact ⟨by omega, fun u hu => by have := this.2 u hu; omega⟩⟩
 | f + 1, n, cnt, out, left, h => by
  by_cases hn : n ≤ 0
  ·rw [dOne_done hn]
   exact ⟨h.leftB, by have := h.lenB; show out.length ≤ _; omega, h.someB, fun t ht => by have := h.stB t ht; exact ⟨by omega, fun u hu => by have := this.2 u hu; omega⟩⟩
  ·obtain ⟨o, l, hrd, h1, h2, h3, h4, h5⟩ := h.readyQ (many := many) (q := q) hr
   have hb := UnitOk.batch (room := room) (l := l) (much := min n l) (s := s) ⟨h1, h2⟩ ⟨h3, h4⟩ h5 (by omega) hs
   have ih := dOne_ok (many := many) (q := q) hr hs f (n - min n l) _ _ _ hb
   have e : dOne many room q s (f + 1) n (out, left) = dOne many room q s f (n - min n l) (addLast o ⟨s, min n l⟩, l - min n l) := by
    show (if n ≤ 0 then _ else _) = _
    rw [if_neg hn, hrd]
   rw [e]
   have ec : cnt + (min n l).toNat + (n - min n l).toNat = cnt + n.toNat := by omega
   rw [ec] at ih
   exact ih
theorem dUp_ok {x : InstD} {w : WishD} {lo : List Int} (hr : 1 ≤ x.troom) (hl : ∀ s, 0 ≤ lo.getD s 0 ∧ lo.getD s 0 ≤ 6000) : ∀ s, s ≤ 1000 → UnitOk x.troom (6000 * s) (dUp x w lo s).1 (dUp x w lo s).2
 | 0, _ => UnitOk.nil (by omega)
 | s + 1, hs => by
  have ih := dUp_ok (w := w) hr hl s (by omega)
  have h := dOne_ok (many := x.tmany) (q := cutQ w s) (s := s) hr (by omega) (lo.getD s 0).toNat (lo.getD s 0) (6000 * s) (dUp x w lo s).1 (dUp x w lo s).2 ih
  have := hl s
  refine ⟨h.leftB, ?_, h.someB, fun t ht => ?_⟩
  ·have hL : (dOne x.tmany x.troom (cutQ w s) s (lo.getD s 0).toNat (lo.getD s 0) (dUp x w lo s)).1.length ≤ 6000 * s + (lo.getD s 0).toNat := h.lenB
   show (dOne x.tmany x.troom (cutQ w s) s (lo.getD s 0).toNat (lo.getD s 0) (dUp x w lo s)).1.length ≤ 6000 * (s + 1)
   omega
  ·have := h.stB t ht; exact ⟨by omega, fun u hu => by have := this.2 u hu; omega⟩
theorem draft_small {x : InstD} (w : WishD) (hns : 1 ≤ x.sats.length ∧ x.sats.length ≤ 3) (hnc : 1 ≤ x.custs.length ∧ x.custs.length ≤ 6) (hcl : ∀ c ∈ x.custs, 1 ≤ c.load ∧ c.load ≤ 1000) (htr : 1 ≤ x.troom) : PlanFew (draftD x w) := by
 have hol : (draftOrd x w).length = x.custs.length := orderUp_len _ _
 have hk := draftUp_ok (x := x) w (os := draftOrd x w) (fun c hc => by have := hcl c hc; omega) (by omega) (orderUp_lt _ _) (draftOrd x w).length (Nat.le_refl _)
 have hlv : ∀ s, 0 ≤ (draftLB x w).1.getD s 0 ∧ (draftLB x w).1.getD s 0 ≤ 6000 := fun s => by
  rw [List.getD_eq_getElem?_getD]
  by_cases hs : s < (draftLB x w).1.length
  ·rw [List.getElem?_eq_getElem hs]
   have := hk.loB _ (List.getElem_mem hs)
   exact ⟨this.1, Int.le_trans this.2 (by rw [hol]; omega)⟩
  ·rw [List.getElem?_eq_none (by omega)]; simp
 have hd := dUp_ok (x := x) (w := w) htr hlv (draftLB x w).1.length (by unfold draftLB; rw [hk.loL]; omega)
 have hll : (draftLB x w).1.length ≤ 3 := by unfold draftLB; rw [hk.loL]; omega
 refine ⟨?_, ?_, fun t ht => ?_, fun b hb => ?_⟩
 ·have := hd.lenB; show (dUp x w (draftLB x w).1 (draftLB x w).1.length).1.length ≤ _; omega
 ·have := hk.bsL; show (draftLB x w).2.length ≤ _; unfold draftLB; omega
 ·have := hd.stB t ht; exact ⟨by omega, fun u hu => by have := this.2 u hu; omega⟩
 ·have := hk.bsB b hb; exact ⟨by omega, by omega, fun c hc => by have := this.2.2 c hc; omega⟩
end Go.Proofs.Ytafhjfkdlmijdaa
