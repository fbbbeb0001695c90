/- Contract: haul.Whole. -/
import Derived.Test.YtafhjfkdlmijdaaGh
import Derived.Test.YtafhjfkdlmijdaaAwake22
import Derived.Test.YtafhjfkdlmijdaaGc
namespace Go.Proofs.Ytafhjfkdlmijdaa
open Go.RowKit

theorem field_bikes (a b : Option Addr) (n c m d : Nat) (w : World) : (Instr.field 46 (.agg #[.slice a n c, .slice b m d]) 1).run Try.prog w = .ok (.slice b m d) w := by
  have h2 := Try.isAgg44 w
  unfold Instr.field
  rw [Sem.run_bind, run_underlying Try.underlying46]
  simp [Result.andThen, part, asAgg, Sem.run_bind, h2]
/-- haul.Whole, of an instance that may be. -/
def wholeD (x : InstD) (l : List BikeD) : PlanD × Int := if (trucksH x (loadsD x l)).2 = 0 then (⟨(trucksH x (loadsD x l)).1, l⟩, 0) else (⟨[], []⟩, (trucksH x (loadsD x l)).2)
theorem loadsD_len9 (x : InstD) (l : List BikeD) : (loadsD x l).length = x.sats.length := by unfold loadsD; rw [addBikes_len]; simp
theorem addLoads_bd {x : InstD} (hc : ∀ c ∈ x.custs, 0 ≤ c.load ∧ c.load ≤ 1000000000) (sat : Int) : ∀ (l : List Int) (out : List Int) (n : Nat), Small9 out n → Small9 (l.foldl (addLoad x sat) out) (n + l.length)
  | [], out, n, h => h
  | c :: l, out, n, h => by
    rw [List.foldl_cons, List.length_cons, show n + (l.length + 1) = (n + 1) + l.length by omega]
    refine addLoads_bd hc sat l _ (n + 1) ?_
    unfold addLoad
    split
    · rename_i hh
      have h1 : sat.toNat < out.length := by omega
      have h2 : c.toNat < x.custs.length := by omega
      refine h.add ?_ ?_
      · rw [List.getD_eq_getElem?_getD, List.getElem?_eq_getElem h1]; exact h.get h1
      · rw [List.getD_eq_getElem?_getD, List.getElem?_eq_getElem h2]; exact hc _ (List.getElem_mem h2)
    · exact h.mono (by omega)
theorem addBikes_bd {x : InstD} (hc : ∀ c ∈ x.custs, 0 ≤ c.load ∧ c.load ≤ 1000000000) : ∀ (l : List BikeD) (out : List Int) (n : Nat), Small9 out n → Small9 (l.foldl (addBike x) out) (n + (l.map fun b => b.stops.length).sum)
  | [], out, n, h => by simpa using h
  | b :: l, out, n, h => by
    rw [List.foldl_cons, List.map_cons, List.sum_cons, ← Nat.add_assoc]
    exact addBikes_bd hc l _ _ (addLoads_bd hc b.sat b.stops out n h)
theorem loadsD_bd {x : InstD} (hc : ∀ c ∈ x.custs, 0 ≤ c.load ∧ c.load ≤ 1000000000) (l : List BikeD) : Small9 (loadsD x l) (stopsUp l l.length) := by
  have := addBikes_bd hc l (List.replicate x.sats.length 0) 0 (Small9.zero _)
  unfold stopsUp
  rw [List.take_length]
  rw [Nat.zero_add] at this
  exact this

set_option maxRecDepth 100000 in
set_option maxHeartbeats 3200000 in
theorem whole_c {w : World} {F G : Nat → Prop} {x : InstD} {cs : List Value} {l : List BikeD} {v : Value} (h : instS.rep w F x cs) (hl : bikesS.rep w G l [v]) (hck : check x = 0) (hbl : l.length ≤ 1000000) (hbs : ∀ b ∈ l, b.stops.length ≤ 1000000) (ht : stopsUp l l.length ≤ 1000000) :
    Calls Try.prog 19 #[.agg cs.toArray, v] w fun e w' => ∃ tv bv, e = .returned (.tuple #[.agg #[tv, bv], .int .i64 (wholeD x l).2]) ∧ planS.rep w' (fun b => w.heap.size ≤ b) (wholeD x l).1 [tv, bv] ∧ Below w.heap.size w w' := by
  have hrep := h
  have hlrep := hl
  obtain ⟨s, c, co, ti, rfl, -, h1, -, -, -⟩ := h
  obtain ⟨a, b, off, c1, hs, -, -, -, -, -, -⟩ := sats_open h1
  obtain rfl := List.cons.inj hs |>.1
  obtain ⟨a2, b2, off2, c2, hs2, -, -, -, -, -⟩ := bikes_open hl
  obtain rfl := List.cons.inj hs2 |>.1
  clear hs hs2 h1 hl
  have X0 := (Row.new (w := w) (e := 33) (cs := [.int .i64 x.fin, .int .i64 x.tmany, .int .i64 x.troom, .int .i64 x.bmany, .int .i64 x.broom, .slice a x.sats.length c1, c, co, ti]) rfl).alloc (.cells #[.slice none 0 0, .slice none 0 0] 46)
  have P0 := Row.new (w := w.alloc (.cells #[.int .i64 x.fin, .int .i64 x.tmany, .int .i64 x.troom, .int .i64 x.bmany, .int .i64 x.broom, .slice a x.sats.length c1, c, co, ti] 33)) (g := w.heap.size + 1) (e := 46) (cs := [.slice none 0 0, .slice none 0 0]) (by simp)
  have hb0 : Below w.heap.size w ((w.alloc (.cells #[.int .i64 x.fin, .int .i64 x.tmany, .int .i64 x.troom, .int .i64 x.bmany, .int .i64 x.broom, .slice a x.sats.length c1, c, co, ti] 33)).alloc (.cells #[.slice none 0 0, .slice none 0 0] 46)) := ((Below.refl _ _).alloc (Nat.le_refl _) _).alloc (by simp) _
  have HCK := hid hck
  have gd := good_of hck
  have hns := gd.sats
  have hcu : ∀ c ∈ x.custs, 0 ≤ c.load ∧ c.load ≤ 1000000000 := fun c hc => by have := gd.cust c hc; omega
  have HCU := hid hcu
  have HBS := hid hbs
  have hsm := loadsD_bd hcu l
  have HSM := hid hsm
  have HLL := hid (loadsD_len9 x l)
  clear hck hcu hbs hsm gd
  go_enter Try.func19, Try.ntmps19
  go_wp2_with fail
  refine (check_c (instS.below hrep hb0)).mono ?_
  rintro e w1 ⟨rfl, hb1⟩
  rw [HCK.out]
  have X1 := X0.below hb1
  have P1 := P0.below hb1
  have hB1 := below_step hb0 hb1
  have HY := hid (instS.below hrep hB1)
  have HL := hid (bikesS.below hlrep hB1)
  clear X0 P0 hb0 hb1 hrep hlrep
  obtain ⟨q0, q1, q2, q3, q4, q5, q6, q7, q8⟩ := row9 X1
  obtain ⟨wq, rfl⟩ : ∃ wq : World, wq = w1 := ⟨_, rfl⟩
  have hz1 := P1.lt
  go_upto_region 4 with fail
  have z0 : ∀ e : At (Old wq), _ := fun e => e.cell q0
  have z1 : ∀ e : At (Old wq), _ := fun e => e.cell q1
  have z2 : ∀ e : At (Old wq), _ := fun e => e.cell q2
  have z3 : ∀ e : At (Old wq), _ := fun e => e.cell q3
  have z4 : ∀ e : At (Old wq), _ := fun e => e.cell q4
  have z5 : ∀ e : At (Old wq), _ := fun e => e.cell q5
  have z6 : ∀ e : At (Old wq), _ := fun e => e.cell q6
  have z7 : ∀ e : At (Old wq), _ := fun e => e.cell q7
  have z8 : ∀ e : At (Old wq), _ := fun e => e.cell q8
  refine wp_region_mix (Old wq) [] [([0, 1, 2], 3, false), ([], 4, false), ([5, 6, 7], 8, false), ([], 9, false)] (by kernel_rfl) (by kernel_rfl) (fun _ _ d _ _ h => by cases d <;> exact h) (Old.drew _) ?_
  simp only [mixOf, List.map_cons, List.map_nil, Array.getD_eq_getD_getElem?, List.getElem?_toArray, List.getElem?_cons_succ, List.getElem?_cons_zero, Option.getD_some, wpMix]
  repeat (go_big_quiet_step (fail))
  refine wpQuiet_nil ?_
  have hO0 := Old.drew wq
  go_wp2_with fail
  refine (loads_c (instS.below HY.out hO0) (bikesS.below HL.out hO0) (by omega) HCU.out ht).mono ?_
  rintro e w2 ⟨gl, rfl, hrow, hgl, hb2⟩
  have hO1 := hO0.step hb2
  have HLR := hid (show (sliceS intS).rep w2 (fun _ => True) (loadsD x l) [.slice (some ⟨gl, 0, none⟩) x.sats.length x.sats.length] from by
    have := ints_rep (F := fun _ => True) (xs := loadsD x l) (g := gl) (c := x.sats.length) hrow (by rw [HLL.out]; exact Nat.le_refl _) (by unfold maxLen; omega) trivial (fun v hv => by have := HSM.out v hv; unfold wf64; omega)
    rw [HLL.out] at this; exact this)
  clear hrow
  go_wp2_with fail
  refine ⟨hO1, wpQuiet_nil ?_⟩
  go_wp2_with fail
  refine (trucksH_c (instS.below HY.out hO1) HLR.out).mono ?_
  rintro e w3 ⟨u, rfl, hr, hb3⟩
  have hO2 := hO1.step hb3
  obtain ⟨f1, f2, f3, f4, hf, -, -, -, -, -⟩ := trucks_open hr
  obtain rfl := List.cons.inj hf |>.1
  obtain ⟨⟨ts, er⟩, hter⟩ : ∃ r, r = trucksH x (loadsD x l) := ⟨_, rfl⟩
  rw [← hter] at hr ⊢
  have HW := hid (show wholeD x l = if er = 0 then (⟨ts, l⟩, 0) else (⟨[], []⟩, er) from by unfold wholeD; rw [← hter])
  simp only at hr ⊢
  have HTR := hid hr
  clear hr hf hter
  go_wp2_with fail
  refine ⟨hO2, ?_⟩
  repeat (go_big_quiet_step (fail))
  refine wpQuiet_nil ?_
  go_wp2_with fail
  refine ⟨hO2, wpQuiet_nil ?_⟩
  go_wp2_with fail
  refine ⟨hO2, ?_⟩
  have hB3 := below_step hB1 hO2
  have hP3 := P1.below hO2
  have hL3 := bikesS.below HL.out hO2
  have hsz3 := hO2.size
  obtain ⟨p0, p1⟩ := row2 hP3
  have f0 := hP3.frozen 0
  have f1' := hP3.frozen 1
  have hO1s := hO1.size
  clear z0 z1 z2 z3 z4 z5 z6 z7 z8 q0 q1 q2 q3 q4 q5 q6 q7 q8 hO0 hO1 hb2 hb3
  by_cases he : er = 0
  · have e1 : (er != 0) = false := by simp [he]
    have HW2 := hid (show wholeD x l = (⟨ts, l⟩, 0) from by rw [HW.out, if_pos he])
    have HPL := hid (show planS.rep w3 (fun _ => True) ⟨[], l⟩ [.slice none 0 0, .slice a2 l.length c2] from ⟨_, _, rfl, nil_rep _ _ _, bikesS.any hL3⟩)
    have HP3 := hid hP3
    clear he hL3 hP3
    go_wp2_with fail
    refine (planClone_c HPL.out (by simp) hbl (fun t ht => by cases ht) HBS.out).mono ?_
    rintro e w4 ⟨tv, bv, ts', vs', rfl, hTO, hBO, hb4⟩
    obtain ⟨ta, tc, htv, -, -⟩ := owns_slice hTO.own
    subst htv
    clear hTO
    obtain ⟨ba, bc, hbv, -, -⟩ := owns_slice hBO.own
    subst hbv
    have hP4 := HP3.out.below hb4
    have hTR4 := trucksS.below HTR.out hb4
    have hB4 := below_step hB3 hb4
    have HBW := hid (show ∀ b ∈ l, wf64 b.sat ∧ ∀ s ∈ b.stops, wf64 s from by
      intro b hb
      obtain ⟨_, _, hpl, -, hbk⟩ := HPL.out
      obtain ⟨_, _, _, _, -, -, -, -, -, hcell⟩ := bikes_open hbk
      obtain ⟨i, hi, rfl⟩ := List.getElem_of_mem hb
      obtain ⟨_, -, -, hwf, hin⟩ := hcell i hi
      obtain ⟨_, _, _, _, -, -, -, -, -, -, hw2⟩ := ints_open hin
      exact ⟨hwf, hw2⟩)
    obtain ⟨p0, p1⟩ := row2 hP4
    have f0 := hP4.frozen 0
    have f1' := hP4.frozen 1
    have HBO := hid hBO
    have HTR4 := hid hTR4
    have HB4 := hid hB4
    have HP4 := hid hP4
    clear hBO hTR4 hB4 hP4 hb4
    have hfd : ∀ (n : Nat) (w : World), (Instr.field 46 (.agg #[.slice ta n tc, .slice ba l.length bc]) 1).run Try.prog w = .ok (.slice ba l.length bc) w := fun n w => field_bikes _ _ _ _ _ _ w
    go_wp2
    have hR5 := HP4.out.set (j := 0) (by simp) (.slice f1 ts.length f4)
    have hBk := (HBO.out.keptSet (j := 0) (u := .slice f1 ts.length f4) HP4.out (by decide) (by decide)).keptSet (j := 1) (u := .slice ba l.length bc) hR5 (by decide) (by decide)
    have hBl : Below w.heap.size w ((w4.setCell ⟨w.heap.size + 1, 0, none⟩ (.slice f1 ts.length f4)).setCell ⟨w.heap.size + 1, 1, none⟩ (.slice ba l.length bc)) := (HB4.out.setCell (p := ⟨w.heap.size + 1, 0, none⟩) (by show w.heap.size ≤ w.heap.size + 1; omega) _).setCell (p := ⟨w.heap.size + 1, 1, none⟩) (by show w.heap.size ≤ w.heap.size + 1; omega) _
    refine bodyPost_ret (v := .tuple #[.agg #[.slice f1 ts.length f4, .slice ba l.length bc], .int .i64 0]) (by simp [results, Try.results19, go_sem, p0, p1]) rfl ⟨_, _, by rw [HW2.out], ?_, hBl⟩
    rw [HW2.out]
    refine ⟨_, _, rfl, ?_, ?_⟩
    · have hq2 : wq.heap.size ≤ w2.heap.size := hO1s
      refine trucksS.weak (trucksS.keep HTR4.out (w' := (w4.setCell ⟨w.heap.size + 1, 0, none⟩ (.slice f1 ts.length f4)).setCell ⟨w.heap.size + 1, 1, none⟩ (.slice ba l.length bc)) (fun b hb => ?_)) (fun b (hb : w2.heap.size ≤ b) => by show w.heap.size ≤ b; omega)
      have hb' : w2.heap.size ≤ b := hb
      rw [Below.heap_setCell _ _ _ _ (by show b ≠ w.heap.size + 1; omega), Below.heap_setCell _ _ _ _ (by show b ≠ w.heap.size + 1; omega)]
    · exact bikesS.weak (hBk.rep HBW.out) (fun b h => Nat.le_trans (Nat.le_trans hB1.size hsz3) h)
  · have e1 : (er != 0) = true := by simpa using he
    have HW2 := hid (show wholeD x l = (⟨[], []⟩, er) from by rw [HW.out, if_neg he])
    clear he hL3 hP3
    go_wp2
    refine bodyPost_ret (v := .tuple #[.agg #[.slice none 0 0, .slice none 0 0], .int .i64 er]) (by simp [results, Try.results19, go_sem, p0, p1]) rfl ⟨_, _, by rw [HW2.out], by rw [HW2.out]; exact ⟨_, _, rfl, nil_rep _ _ _, nil_rep _ _ _⟩, ?_⟩
    exact (hB3.setCell (p := ⟨w.heap.size + 1, 0, none⟩) (by show w.heap.size ≤ w.heap.size + 1; omega) _).setCell (p := ⟨w.heap.size + 1, 1, none⟩) (by show w.heap.size ≤ w.heap.size + 1; omega) _
end Go.Proofs.Ytafhjfkdlmijdaa
