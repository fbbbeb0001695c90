/- Contracts: haul.Whole of an instance that may not be; wharfagelaw22.Awake answers true. -/
import Derived.Test.YtafhjfkdlmijdaaHTrucks
import Derived.Test.YtafhjfkdlmijdaaGd
namespace Go.Proofs.Ytafhjfkdlmijdaa
open Go.RowKit

set_option maxRecDepth 100000 in
set_option maxHeartbeats 800000 in
theorem wholeBad_c {w : World} {F : Nat → Prop} {x : InstD} {cs : List Value} (h : instS.rep w F x cs) (hck : check x ≠ 0) (v : Value) :
    Calls Try.prog 19 #[.agg cs.toArray, v] w fun e w' => e = .returned (.tuple #[.agg #[.slice none 0 0, .slice none 0 0], .int .i64 (check x)]) ∧ Below w.heap.size w w' := by
  have hrep := h
  obtain ⟨s, c, co, ti, rfl, -, -, -, -, -⟩ := h
  have hck2 := bne_zero hck
  have hb0 : Below w.heap.size w ((w.alloc (.cells #[.int .i64 x.fin, .int .i64 x.tmany, .int .i64 x.troom, .int .i64 x.bmany, .int .i64 x.broom, s, c, co, ti] 33)).alloc (.cells #[.slice none 0 0, .slice none 0 0] 46)) := ((Below.refl _ _).alloc (Nat.le_refl _) _).alloc (by simp) _
  have RP := Row.new (w := w.alloc (.cells #[.int .i64 x.fin, .int .i64 x.tmany, .int .i64 x.troom, .int .i64 x.bmany, .int .i64 x.broom, s, c, co, ti] 33)) (e := 46) (g := w.heap.size + 1) (cs := [.slice none 0 0, .slice none 0 0]) (by simp)
  clear hck
  go_enter Try.func19, Try.ntmps19
  go_wp2_with fail
  refine (check_c (instS.below hrep hb0)).mono ?_
  rintro e w1 ⟨rfl, hb1⟩
  have RP1 := RP.below hb1
  have hB1 := below_step hb0 hb1
  obtain ⟨p0, p1⟩ := row2 RP1
  have f0 := RP1.frozen 0
  have f1 := RP1.frozen 1
  clear RP hb0 hb1
  go_wp2
  refine bodyPost_ret (v := .tuple #[.agg #[.slice none 0 0, .slice none 0 0], .int .i64 (check x)]) (by simp [results, Try.results19, go_sem, p0, p1]) rfl ⟨rfl, ?_⟩
  exact (hB1.setCell (p := ⟨w.heap.size + 1, 0, none⟩) (by show w.heap.size ≤ w.heap.size + 1; omega) _).setCell (p := ⟨w.heap.size + 1, 1, none⟩) (by show w.heap.size ≤ w.heap.size + 1; omega) _

def small22 : SmallD := ⟨0, 0, 0, 0, 0, [⟨30, 0⟩, ⟨30, 0⟩], [], [], [], false, false⟩
def inst22a : InstD := ⟨40, 1, 5, 1, 3, [⟨34, 0⟩, ⟨34, 0⟩], [⟨2, 5, 90, 1⟩], [[0, 0, 0, 0], [0, 0, 0, 0], [0, 0, 0, 0], [0, 0, 0, 0]], [[0, 0, 0, 0], [0, 0, 0, 0], [0, 0, 0, 0], [0, 0, 0, 0]]⟩
theorem inst22_eq : makeD small22 = inst22a := by decide
def inst22b : InstD := { inst22a with tmany := 2, troom := 6 }
def inst22 : InstD := (inst22b.putCost 0 1 5).putCost 0 2 4
theorem wf22 : InstWf inst22 := by
  unfold InstWf wf64 inst22 inst22b inst22a InstD.putCost setAt maxLen; simp
theorem trucks22 : trucksH inst22 [5, 4] = ([[⟨0, 5⟩, ⟨1, 1⟩], [⟨1, 3⟩]], 0) := by decide +kernel
theorem InstAt.fleet {TS TC TR TI B gs cs1 gc cc1 gco cco gti cti : Nat} {w : World} {x : InstD} {cs : List Value} {rco rti : List Nat} (h : InstAt TS TC TR TI w B x cs gs cs1 gc cc1 gco cco rco gti cti rti) (m r : Int) :
    InstAt TS TC TR TI w B { x with tmany := m, troom := r } ((cs.set 1 (.int .i64 m)).set 2 (.int .i64 r)) gs cs1 gc cc1 gco cco rco gti cti rti :=
  ⟨by rw [h.lit]; rfl, h.caps, h.leS, h.leC, h.sats, h.custs, h.costs, h.times, h.apart, h.apart2⟩

set_option maxRecDepth 100000 in
set_option maxHeartbeats 3200000 in
theorem awake22_c (w : World) : Calls Try.prog 15 #[] w fun e w' => e = .returned (.bool true) ∧ Below w.heap.size w w' := by
  have hsm : smallS.rep (w.alloc (.cells #[.int .u8 30, .int .u8 0, .int .u8 30, .int .u8 0] 103)) (fun _ => True) small22 [.int .u8 0, .int .u8 0, .int .u8 0, .int .u8 0, .int .u8 0, .slice (some ⟨w.heap.size, 0, none⟩) 2 2, .slice none 0 0, .slice none 0 0, .slice none 0 0, .bool false, .bool false] :=
    ⟨_, _, _, _, rfl, by unfold wf8 small22; decide, lit2 (S := lsatS) (x := ⟨30, 0⟩) (y := ⟨30, 0⟩) (v := [.int .u8 30, .int .u8 0]) (u := [.int .u8 30, .int .u8 0]) ⟨rfl, by unfold wf8; decide, by unfold wf8; decide⟩ ⟨rfl, by unfold wf8; decide, by unfold wf8; decide⟩ (Row.new (cs := [.int .u8 30, .int .u8 0, .int .u8 30, .int .u8 0]) rfl) trivial, nil_rep _ _ _, nil_rep _ _ _, nil_rep _ _ _⟩
  go_enter Try.func15, Try.ntmps15
  go_wp2_with fail
  refine (make_c hsm).mono ?_
  rintro e w1 ⟨ds, rfl, hi, hb⟩
  rw [inst22_eq] at hi
  have hb := below_step ((Below.refl w.heap.size w).alloc (Nat.le_refl _) _) hb
  replace hi := hi.mono (B' := w.heap.size) (by simp)
  obtain ⟨gs, cs1, gc, cc1, gco, cco, rco, gti, cti, rti, I⟩ := hi.at
  obtain rfl := I.lit
  clear hi hsm
  have hzb := hb.size
  have R0 := Row.new (w := w1) (e := 33) (cs := [.int .i64 inst22a.fin, .int .i64 2, .int .i64 6, .int .i64 inst22a.bmany, .int .i64 inst22a.broom, .slice (some ⟨gs, 0, none⟩) inst22a.sats.length cs1, .slice (some ⟨gc, 0, none⟩) inst22a.custs.length cc1, .slice (some ⟨gco, 0, none⟩) inst22a.cost.length cco, .slice (some ⟨gti, 0, none⟩) inst22a.time.length cti]) rfl
  have hob : Old w1 (w1.alloc (.cells ([.int .i64 inst22a.fin, .int .i64 2, .int .i64 6, .int .i64 inst22a.bmany, .int .i64 inst22a.broom, .slice (some ⟨gs, 0, none⟩) inst22a.sats.length cs1, .slice (some ⟨gc, 0, none⟩) inst22a.custs.length cc1, .slice (some ⟨gco, 0, none⟩) inst22a.cost.length cco, .slice (some ⟨gti, 0, none⟩) inst22a.time.length cti]).toArray 33)) := (Below.refl _ _).alloc (Nat.le_refl _) _
  have I0 : InstAt 38 112 34 2 _ w.heap.size inst22b ([.int .i64 inst22a.fin, .int .i64 2, .int .i64 6, .int .i64 inst22a.bmany, .int .i64 inst22a.broom, .slice (some ⟨gs, 0, none⟩) inst22a.sats.length cs1, .slice (some ⟨gc, 0, none⟩) inst22a.custs.length cc1, .slice (some ⟨gco, 0, none⟩) inst22a.cost.length cco, .slice (some ⟨gti, 0, none⟩) inst22a.time.length cti]) gs cs1 gc cc1 gco cco rco gti cti rti := (I.fleet 2 6).below hob
  have hB0 := below_step hb hob
  clear hob I hb
  go_upto_region 3 with fail
  generalize hwq : w1.alloc (.cells _ 33) = wq at *
  clear hwq
  go_cut [] (fun wx => InstAt 38 112 34 2 wx w.heap.size inst22 ([.int .i64 inst22a.fin, .int .i64 2, .int .i64 6, .int .i64 inst22a.bmany, .int .i64 inst22a.broom, .slice (some ⟨gs, 0, none⟩) inst22a.sats.length cs1, .slice (some ⟨gc, 0, none⟩) inst22a.custs.length cc1, .slice (some ⟨gco, 0, none⟩) inst22a.cost.length cco, .slice (some ⟨gti, 0, none⟩) inst22a.time.length cti]) gs cs1 gc cc1 gco cco rco gti cti rti ∧ Row wx w1.heap.size 33 ([.int .i64 inst22a.fin, .int .i64 2, .int .i64 6, .int .i64 inst22a.bmany, .int .i64 inst22a.broom, .slice (some ⟨gs, 0, none⟩) inst22a.sats.length cs1, .slice (some ⟨gc, 0, none⟩) inst22a.custs.length cc1, .slice (some ⟨gco, 0, none⟩) inst22a.cost.length cco, .slice (some ⟨gti, 0, none⟩) inst22a.time.length cti]) ∧ Below w.heap.size w wx)
  case first =>
    obtain ⟨c0, r0, l0, m0⟩ := I0.costs.row (i := 0) (by decide)
    have I2 := (I0.setCost (i := 0) (j := 1) (by decide) (by decide) (by decide) (by decide) (by decide) 5)
    have I3 := (I2.setCost (i := 0) (j := 2) (by decide) (by decide) (by decide) (by decide) (by decide) 4)
    have hr0 := R0.ne r0 (by decide)
    generalize hx0 : rco.getD 0 0 = x0 at *
    clear hx0 m0
    have R3 := hid ((R0.setOther (a := ⟨x0, 1, none⟩) hr0 (intV 5)).setOther (a := ⟨x0, 2, none⟩) hr0 (intV 4))
    have hB3 := hid ((hB0.setCell (p := ⟨x0, 1, none⟩) l0 (intV 5)).setCell (p := ⟨x0, 2, none⟩) l0 (intV 4))
    have HI3 := hid I3
    have d0 := r0.cell (j := 1) (by decide)
    have d1 := r0.cell (j := 2) (by decide)
    have f0 := r0.frozen 1
    have f1 := r0.frozen 2
    have hx0 : ∀ w, (Instr.indexAt 31 (.slice (some ⟨gco, 0, none⟩) inst22a.cost.length cco) (.int .i64 0)).run Try.prog w = .ok (.pointer (some ⟨gco, 0, none⟩)) w := idx_at1 Try.underlying31 sz_row rfl (k := 0) (by decide)
    have hx2 : ∀ w, (Instr.indexAt 34 (.slice (some ⟨x0, 0, none⟩) (inst22b.cost.getD 0 []).length (inst22b.cost.getD 0 []).length) (.int .i64 1)).run Try.prog w = .ok (.pointer (some ⟨x0, 1, none⟩)) w := idx_at1 Try.underlying34 sz_i64 rfl (k := 1) (by decide)
    have hx3 : ∀ w, (Instr.indexAt 34 (.slice (some ⟨x0, 0, none⟩) (inst22b.cost.getD 0 []).length (inst22b.cost.getD 0 []).length) (.int .i64 2)).run Try.prog w = .ok (.pointer (some ⟨x0, 2, none⟩)) w := idx_at1 Try.underlying34 sz_i64 rfl (k := 2) (by decide)
    clear I0 I2 I3 hr0 r0 hB0
    obtain ⟨q0, q1, q2, q3, q4, q5, q6, q7, q8⟩ := row9 R0
    have z7 : ∀ e : At (Old wq), _ := fun e => e.cell q7
    have z9 : ∀ e : At (Old wq), _ := fun e => e.cell c0
    refine wp_region_mix (Old wq) [9, 10, 11] [([0, 1, 2, 3, 4, 5, 6, 7], 8, false), ([], 9, true), ([], 10, true), ([], 11, true)] (by kernel_rfl) (by kernel_rfl) (fun _ _ d _ _ h => by cases d <;> exact h) (Old.drew _) ?_
    simp only [mixOf, List.map_cons, List.map_nil, Array.getD_eq_getD_getElem?, List.getElem?_toArray, List.getElem?_cons_succ, List.getElem?_cons_zero, Option.getD_some, wpMix]
    repeat (go_big_quiet_step (fail))
    refine wpQuiet_nil ?_
    go_wp2
    refine ⟨Old.drew _, wpQuiet_nil ?_⟩
    go_wp2
    refine wpQuiet_nil ?_
    go_wp2
    refine wpQuiet_nil ?_
    go_wp2
    go_meet
    exact ⟨HI3.out.drew, R3.out.drew, hB3.out.drew⟩
  case rest =>
    obtain ⟨I, R, hB⟩ := hcut
    obtain ⟨wq, rfl⟩ : ∃ wq : World, wq = wc := ⟨_, rfl⟩
    obtain ⟨hob, hR5, hz5⟩ := alloc_row wq [.int .i64 5, .int .i64 4] 2
    have hI : instS.rep (wq.alloc (.cells #[.int .i64 5, .int .i64 4] 2)) (fun b => w.heap.size ≤ b) inst22 _ := (I.below hob).own.rep wf22
    have hL : (sliceS intS).rep (wq.alloc (.cells #[.int .i64 5, .int .i64 4] 2)) (fun _ => True) [5, 4] [.slice (some ⟨wq.heap.size, 0, none⟩) 2 2] :=
      lit2 (S := intS) (x := 5) (y := 4) (v := [.int .i64 5]) (u := [.int .i64 4]) ⟨rfl, by unfold wf64; decide⟩ ⟨rfl, by unfold wf64; decide⟩ hR5 trivial
    have hB1 := below_step hB hob
    have HI := hid hI
    have HL := hid hL
    obtain ⟨q0, q1, q2, q3, q4, q5, q6, q7, q8⟩ := row9 R
    have hzq := R.lt
    clear I R hB hob hR5 hz5 hI hL
    go_wp2_with fail
    refine (trucksH_c HI.out HL.out).mono ?_
    rintro e w2 ⟨u, rfl, hr, hb2⟩
    rw [trucks22] at hr ⊢
    have hB2 := below_step hB1 hb2
    have hrr := hr
    obtain ⟨a5, b5, off5, c5, hs5, -, -, -, -, -⟩ := trucks_open hr
    obtain rfl := List.cons.inj hs5 |>.1
    obtain ⟨W, hW, hold, r1, r2, r3, hz⟩ := allocs3 w2 [.int .i64 0, .int .i64 5, .int .i64 1, .int .i64 1] [.int .i64 1, .int .i64 3] [.slice (some ⟨w2.heap.size, 0, none⟩) 2 2, .slice (some ⟨w2.heap.size + 1, 0, none⟩) 1 1] 105 105 108
    have hP1 : planS.rep W (fun _ => True) ⟨[[⟨0, 5⟩, ⟨1, 1⟩], [⟨1, 3⟩]], []⟩ [.slice a5 2 c5, .slice none 0 0] := ⟨_, _, rfl, trucksS.any (trucksS.below hrr hold), nil_rep _ _ _⟩
    have e1 : (sliceS stopS).rep W (fun _ => True) [⟨0, 5⟩, ⟨1, 1⟩] [.slice (some ⟨w2.heap.size, 0, none⟩) 2 2] := lit2 (S := stopS) (x := ⟨0, 5⟩) (y := ⟨1, 1⟩) (v := [.int .i64 0, .int .i64 5]) (u := [.int .i64 1, .int .i64 1]) ⟨rfl, by unfold wf64; decide, by unfold wf64; decide⟩ ⟨rfl, by unfold wf64; decide, by unfold wf64; decide⟩ r1 trivial
    have e2 : (sliceS stopS).rep W (fun _ => True) [⟨1, 3⟩] [.slice (some ⟨w2.heap.size + 1, 0, none⟩) 1 1] := lit1 (S := stopS) (x := ⟨1, 3⟩) ⟨rfl, by unfold wf64; decide, by unfold wf64; decide⟩ r2 trivial
    have hP2 : planS.rep W (fun _ => True) ⟨[[⟨0, 5⟩, ⟨1, 1⟩], [⟨1, 3⟩]], []⟩ [.slice (some ⟨w2.heap.size + 2, 0, none⟩) 2 2, .slice none 0 0] := ⟨_, _, rfl, lit2 (S := sliceS stopS) e1 e2 r3 trivial, nil_rep _ _ _⟩
    have HP1 := hid hP1
    have HP2 := hid hP2
    have HW := hid hW
    have HB3 := hid (below_step hB2 hold)
    clear hW hold r1 r2 r3 hP1 hP2 e1 e2 hr hrr hs5 q0 q1 q2 q3 q4 q5 q6 q7 q8
    go_wp2_with fail
    rw [show w2.heap.size + 1 + 1 = w2.heap.size + 2 from rfl, ← HW.out]
    refine (same17_c HP1.out HP2.out).mono ?_
    rintro e w3 ⟨rfl, hb3⟩
    rw [decide_eq_true rfl]
    have HB4 := hid (below_step HB3.out hb3)
    clear hb3 HP1 HP2 HB3 HW
    go_wp2_with fail
    refine (awake17_c _).mono ?_
    rintro e w4 ⟨rfl, hb4⟩
    go_wp2
    go_ret
    exact ⟨rfl, below_step HB4.out hb4⟩
end Go.Proofs.Ytafhjfkdlmijdaa
