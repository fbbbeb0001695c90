/- wharfagelaw18.Soon. -/
import Derived.Test.YtafhjfkdlmijdaaP7
namespace Go.Proofs.Ytafhjfkdlmijdaa
open Go.RowKit
theorem at11_c {w : World} {F : Nat → Prop} {x : InstD} {cs : List Value} (h : instS.rep w F x cs) (gd : Good x) {c : Int} (hc : CustOk x c) :
  Calls Try.prog 73 #[.agg cs.toArray, .int .i64 c] w fun e w' => e = .returned (.int .i64 (1 + x.sats.length + c)) ∧ Below w.heap.size w w' := by
 obtain ⟨s, cv, co, ti, rfl, -, h1, -, -, -⟩ := h
 obtain ⟨a, b, off, c1, hs, hlc, hcm, ha, -, -, -⟩ := sats_open h1
 obtain rfl := List.cons.inj hs |>.1
 have hss := gd.sats
 have hcc := gd.custs
 unfold CustOk at hc
 clear hs h1 gd
 go_enter Try.func73, Try.ntmps73
 go_wp2
 go_ret
 exact ⟨rfl, (Below.refl _ _).alloc (Nat.le_refl _) _⟩
structure SW (w0 : World) (qi qp qr qt gr : Nat) (ic pc tc : List Value) (ready : List Int) (w : World) : Prop where
 inst : Row w qi 33 ic
 plan : Row w qp 46 pc
 res : Row w qr 54 [.slice none 0 0, .slice none 0 0]
 tms : Row w qt 54 tc
 row : Row w gr 2 (ready.map intV)
 bel : Below w0.heap.size w0 w
 ne : qr ≠ qt
 qtB : w0.heap.size ≤ qt
 grB : w0.heap.size ≤ gr
 low : qi < w0.heap.size + 5 ∧ qp < w0.heap.size + 5 ∧ qr < w0.heap.size + 5 ∧ qt < w0.heap.size + 5 ∧ gr < w0.heap.size + 5
section
variable {w0 w w' : World} {qi qp qr qt gr : Nat} {ic pc tc : List Value} {ready : List Int}
theorem SW.below (h : SW w0 qi qp qr qt gr ic pc tc ready w) (hb : Below w.heap.size w w') : SW w0 qi qp qr qt gr ic pc tc ready w' :=
 ⟨h.inst.below hb, h.plan.below hb, h.res.below hb, h.tms.below hb, h.row.below hb, below_step h.bel hb, h.ne, h.qtB, h.grB, h.low⟩
theorem SW.grown {B T k n : Nat} {v : Value} {xs : List Value} (h : SW w0 qi qp qr qt gr ic pc tc ready w) (hown : w.ownsRow B T k v n xs) (hB : w0.heap.size + 5 ≤ B) (hg : w.grownBy w' v.ownBlock) : SW w0 qi qp qr qt gr ic pc tc ready w' := by
 have hk : ∀ {g : Nat} {e : TypeId} {cs : List Value}, Row w g e cs → g < w0.heap.size + 5 → Row w' g e cs := fun hr hl => hr.keep (hg.block _ hr.lt (ne_own_old hown (by omega)))
 obtain ⟨l1, l2, l3, l4, l5⟩ := h.low
 exact ⟨hk h.inst l1, hk h.plan l2, hk h.res l3, hk h.tms l4, hk h.row l5, below_owned h.bel hown h.bel.size (by omega) hg, h.ne, h.qtB, h.grB, h.low⟩
theorem SW.setT (h : SW w0 qi qp qr qt gr ic pc tc ready w) {j : Nat} (hj : j < tc.length) (u : Value) : SW w0 qi qp qr qt gr ic pc (tc.set j u) ready (w.setCell ⟨qt, j, none⟩ u) :=
 ⟨h.inst.setOther (a := ⟨qt, j, none⟩) (h.inst.ne h.tms (by decide)) u, h.plan.setOther (a := ⟨qt, j, none⟩) (h.plan.ne h.tms (by decide)) u, h.res.setOther (a := ⟨qt, j, none⟩) h.ne u, h.tms.set hj u, h.row.setOther (a := ⟨qt, j, none⟩) (h.row.ne h.tms (by decide)) u,
  h.bel.setCell (p := ⟨qt, j, none⟩) h.qtB u, h.ne, h.qtB, h.grB, h.low⟩
theorem SW.setR (h : SW w0 qi qp qr qt gr ic pc tc ready w) {j : Nat} (hj : j < ready.length) (v : Int) : SW w0 qi qp qr qt gr ic pc tc (ready.set j v) (w.setCell ⟨gr, j, none⟩ (.int .i64 v)) :=
 ⟨h.inst.setOther (a := ⟨gr, j, none⟩) (h.inst.ne h.row (by decide)) _, h.plan.setOther (a := ⟨gr, j, none⟩) (h.plan.ne h.row (by decide)) _, h.res.setOther (a := ⟨gr, j, none⟩) (h.res.ne h.row (by decide)) _, h.tms.setOther (a := ⟨gr, j, none⟩) (h.tms.ne h.row (by decide)) _,
  by rw [List.map_set]; exact h.row.set (by rw [List.length_map]; exact hj) _, h.bel.setCell (p := ⟨gr, j, none⟩) h.grB _, h.ne, h.qtB, h.grB, h.low⟩
end
theorem owns_setLow {w : World} {B T n k g : Nat} {v : Value} {xs : List Value} (h : w.ownsRow B T k v n xs) (hg : g < B) (j : Nat) (u : Value) : (w.setCell ⟨g, j, none⟩ u).ownsRow B T k v n xs :=
 h.kept (grown_set w ⟨g, j, none⟩ u) (.inr fun e => ne_own_old h hg e.symm)
theorem OldBut.high {row : Option Nat} {W w1 w2 : World} {T n k : Nat} {v : Value} {xs : List Value} (h : OldBut row W w1) (hown : w1.ownsRow W.heap.size T k v n xs) (hg : w1.grownBy w2 v.ownBlock) : OldBut row W w2 :=
 ⟨Nat.le_trans h.1 hg.size, fun b hb hne => (hg.block b (Nat.lt_of_lt_of_le hb h.1) (ne_own_old hown hb)).trans (h.2 b hb hne)⟩
theorem SW.start (w : World) (ic pc : List Value) (n : Nat) : SW w w.heap.size (w.heap.size + 1) (w.heap.size + 1 + 1) (w.heap.size + 1 + 1 + 1) (w.heap.size + 1 + 1 + 1 + 1) ic pc [.slice none 0 0, .slice none 0 0] (List.replicate n 0)
  (((((w.alloc (.cells ic.toArray 33)).alloc (.cells pc.toArray 46)).alloc (.cells #[.slice none 0 0, .slice none 0 0] 54)).alloc (.cells #[.slice none 0 0, .slice none 0 0] 54)).alloc (.cells (Array.replicate n (intV 0)) 2)) := by
 have h0 := E0.start w ic pc
 generalize hw : ((w.alloc (.cells ic.toArray 33)).alloc (.cells pc.toArray 46)).alloc (.cells #[.slice none 0 0, .slice none 0 0] 54) = w3 at h0
 have hz : w3.heap.size = w.heap.size + 1 + 1 + 1 := by rw [← hw]; simp
 have hT := Row.new (w := w3) (g := w3.heap.size) (e := 54) (cs := [.slice none 0 0, .slice none 0 0]) rfl
 have hb1 : Below w3.heap.size w3 (w3.alloc (.cells #[.slice none 0 0, .slice none 0 0] 54)) := (Below.refl _ _).alloc (Nat.le_refl _) _
 have h1 := h0.below hb1
 have hz1 : (w3.alloc (.cells #[.slice none 0 0, .slice none 0 0] 54)).heap.size = w.heap.size + 1 + 1 + 1 + 1 := by simp [hz]
 have hT1 : Row (w3.alloc (.cells #[.slice none 0 0, .slice none 0 0] 54)) (w.heap.size + 1 + 1 + 1) 54 [.slice none 0 0, .slice none 0 0] := by rw [← hz]; exact hT
 generalize w3.alloc (.cells #[.slice none 0 0, .slice none 0 0] 54) = w4 at h1 hz1 hT1
 have hR : Row (w4.alloc (.cells (Array.replicate n (intV 0)) 2)) w4.heap.size 2 ((List.replicate n 0).map intV) := Row.make
 have hb2 : Below w4.heap.size w4 (w4.alloc (.cells (Array.replicate n (intV 0)) 2)) := (Below.refl _ _).alloc (Nat.le_refl _) _
 have h2 := h1.below hb2
 rw [hz1] at hR
 exact ⟨h2.inst, h2.plan, h2.res, hT1.below hb2, hR, h2.bel, by omega, by omega, by omega, by omega⟩
set_option maxRecDepth 100000 in
set_option maxHeartbeats 6400000 in
theorem soon_c {w : World} {F G : Nat → Prop} {x : InstD} {p : PlanD} {cs ps : List Value} (h : instS.rep w F x cs) (hp : planS.rep w G p ps) (ok : SoonOk x p) :
  Calls Try.prog 38 #[.agg cs.toArray, .agg ps.toArray] w fun e w' => ∃ tv bv vs us, e = .returned (.agg #[tv, bv]) ∧ IOwn 34 2 w' w.heap.size tv (soonD x p).trucks vs ∧ ROwn 85 2 w' w.heap.size bv (soonD x p).bikes us ∧ Sep (vs ++ us) ∧ Below w.heap.size w w' := by
 have hrep := h
 have gd := ok.good
 obtain ⟨s, c, co, ti, rfl, -, h1, h2, -, h7⟩ := h
 obtain ⟨a, b, off, c1, hs, hlc, hc, ha, -, hcell, -⟩ := sats_open h1
 obtain rfl := List.cons.inj hs |>.1
 obtain ⟨a', b', off', c1', hs', hlc', hc', ha', -, hcell', -⟩ := custs_open h2
 obtain rfl := List.cons.inj hs' |>.1
 obtain ⟨b7, off7, c7, hs7, htime⟩ := time_rows h7 gd
 obtain rfl := List.cons.inj hs7 |>.1
 obtain ⟨tv, bv, rfl, h3, h4⟩ := hp
 obtain ⟨a2, b2, off2, c2, hs2, hlc2, hc2, ha2, -, hcell2⟩ := trucks_open h3
 obtain rfl := List.cons.inj hs2 |>.1
 obtain ⟨a4, b4, off4, c4, hs4, hlc4, hc4, ha4, -, hcell4⟩ := bikes_open h4
 obtain rfl := List.cons.inj hs4 |>.1
 have HCELL := hid hcell
 have HCELLC := hid hcell'
 have HCELL2 := hid hcell2
 have HCELL4 := hid hcell4
 have HTIME := hid htime
 have HREP := hid hrep
 have OK := hid ok
 have GD := hid gd
 have hsl := gd.sats
 obtain ⟨i0, hi, hz0, hz1, hz2⟩ := info_parts info_i64
 have hmk := make_ints Try.underlying34 hi hz0 hz1 hz2 (n := x.sats.length) (by omega)
 obtain ⟨ic, hic⟩ : ∃ ic : List Value, ic = [.int .i64 x.fin, .int .i64 x.tmany, .int .i64 x.troom, .int .i64 x.bmany, .int .i64 x.broom, .slice a x.sats.length c1, .slice a' x.custs.length c1', co, .slice (some ⟨b7, off7, none⟩) (nodes x) c7] := ⟨_, rfl⟩
 obtain ⟨pc, hpc⟩ : ∃ pc : List Value, pc = [.slice a2 p.trucks.length c2, .slice a4 p.bikes.length c4] := ⟨_, rfl⟩
 have hs0 := SW.start w ic pc x.sats.length
 rw [hic, hpc] at hs0
 have HZ0 := hid (show (((((w.alloc (.cells ic.toArray 33)).alloc (.cells pc.toArray 46)).alloc (.cells #[.slice none 0 0, .slice none 0 0] 54)).alloc (.cells #[.slice none 0 0, .slice none 0 0] 54)).alloc (.cells (Array.replicate x.sats.length (intV 0)) 2)).heap.size = w.heap.size + 5 by simp)
 rw [hic, hpc] at HZ0
 have HIC := hid hic
 have HPC := hid hpc
 have HS0 := hid hs0
 clear hs hs' hs7 hs2 hs4 h1 h2 h7 h3 h4 hcell hcell' hcell2 hcell4 htime hrep ok gd hic hpc hs0 hi hz0 hz1 hz2 i0
 go_enter Try.func38, Try.ntmps38
 go_upto_region 3 with fail
 generalize ((((w.alloc (.cells #[.int .i64 x.fin, .int .i64 x.tmany, .int .i64 x.troom, .int .i64 x.bmany, .int .i64 x.broom, .slice a x.sats.length c1, .slice a' x.custs.length c1', co, .slice (some ⟨b7, off7, none⟩) (nodes x) c7] 33)).alloc (.cells #[.slice a2 p.trucks.length c2, .slice a4 p.bikes.length c4] 46)).alloc (.cells #[.slice none 0 0, .slice none 0 0] 54)).alloc (.cells #[.slice none 0 0, .slice none 0 0] 54)).alloc _ = w1 at HS0 HZ0 ⊢
 obtain ⟨qi, hqi⟩ : ∃ q, q = w.heap.size := ⟨_, rfl⟩
 obtain ⟨qp, hqp⟩ : ∃ q, q = w.heap.size + 1 := ⟨_, rfl⟩
 obtain ⟨qr, hqr⟩ : ∃ q, q = w.heap.size + 1 + 1 := ⟨_, rfl⟩
 obtain ⟨qt, hqt⟩ : ∃ q, q = w.heap.size + 1 + 1 + 1 := ⟨_, rfl⟩
 obtain ⟨gr, hgr⟩ : ∃ q, q = w.heap.size + 1 + 1 + 1 + 1 := ⟨_, rfl⟩
 rw [← hgr, ← hqt, ← hqr, ← hqp, ← hqi] at HS0 ⊢
 rw [← HIC.out, ← HPC.out] at HS0
 obtain ⟨B, hB⟩ : ∃ B, B = w.heap.size + 5 := ⟨_, rfl⟩
 have hgrB : gr < B := by omega
 have hBw : w.heap.size ≤ B := by omega
 have hqrB : w.heap.size ≤ qr := by omega
 have HBE := hid hB
 rw [← hB] at HZ0
 clear hqi hqp hqr hqt hgr hB hmk
 have RP := HS0.out.plan
 rw [HPC.out] at RP
 obtain ⟨p0, p1⟩ := row2 RP
 clear RP
 go_wp2
 go_loopw [28] (fun kv wr => ∃ (k : Nat) (ta : Option Addr) (tc : Nat) (vs : List Value), k ≤ p.trucks.length ∧ kv = .int .i64 k ∧ SW w qi qp qr qt gr ic pc [.slice ta k tc, .slice none 0 0] (soonTrucks x (p.trucks.take k)).ready wr ∧ IOwn 34 2 wr B (.slice ta k tc) (soonTrucks x (p.trucks.take k)).ts vs ∧ Sep vs ∧ B ≤ wr.heap.size) (fun kv _ => p.trucks.length - (intOf kv).toNat)
 case atStart => exact ⟨0, none, 0, [], Nat.zero_le _, rfl, HS0.out, IOwn.nil _ _ _ _, Sep.nil, by rw [HZ0.out]; exact Nat.le_refl _⟩
 case round =>
  clear p0 p1 HS0 HZ0
  obtain ⟨k, ta, tc, vs, hk, rfl, hsw, hio, hsep, hBz⟩ := hrel
  obtain ⟨wo, rfl⟩ : ∃ wo : World, wo = wr := ⟨_, rfl⟩
  have HSW := hid hsw
  have HIO := hid hio
  have HSEP := hid hsep
  have HUP := hid (soonTruck_up OK.out k hk)
  clear hsw hio hsep
  by_cases hlt : k < p.trucks.length
  ·as_aux_lemma =>
    have hx := idx_at1 (c := c2) Try.underlying39 sz_truck (ha2 (by omega)) hlt
    obtain ⟨sv, g0, hr⟩ := HCELL2.out k hlt
    obtain ⟨a3, b3, off3, c3, hs3, hl3, hc3, ha3, -, hcell3, -⟩ := stops_open hr
    obtain rfl := List.cons.inj hs3 |>.1
    have HCELL3 := hid hcell3
    have ht1 := OK.out.t1 _ (List.getElem_mem hlt)
    have HNX := hid (show soonTrucks x (p.trucks.take (k + 1)) = soonTruck x (soonTrucks x (p.trucks.take k)) p.trucks[k] from by
     unfold soonTrucks
     rw [take_last hlt, List.foldl_append]; rfl)
    have htl := OK.out.tl
    obtain ⟨A, hA⟩ : ∃ A, A = soonTrucks x (p.trucks.take k) := ⟨_, rfl⟩
    rw [← hA] at HNX HSW HIO HUP
    obtain ⟨T, hT⟩ : ∃ T, T = p.trucks[k] := ⟨_, rfl⟩
    rw [← hT] at g0 hl3 ht1 HNX ha3 HCELL3
    have HST := hid (fun j hj => soonStop_up GD.out (HUP.out.1.start x A) rfl ht1 j hj)
    have htt := ht1.1
    have HT1 := hid ht1
    have g0 := below_cell HSW.out.bel g0
    have hal : Below wo.heap.size wo (wo.alloc (.cells #[.slice a3 T.length c3] 108)) := (Below.refl _ _).alloc (Nat.le_refl _) _
    have HS1 := hid (HSW.out.below hal)
    have HO1 := hid (show OldBut (some gr) wo (wo.alloc (.cells #[.slice a3 T.length c3] 108)) from (OldBut.refl _ _).below hal)
    have y0 := (Row.new (w := wo) (e := 108) (cs := [.slice a3 T.length c3]) rfl).cell (j := 0) (by simp)
    simp only [List.getElem_cons_zero] at y0
    obtain ⟨X, hX⟩ : ∃ X, X = wo.heap.size := ⟨_, rfl⟩
    rw [← hX] at y0
    clear hs3 hr hcell3 hA hT hal ht1
    go_upto_region 6 with fail
    rw [← hX]
    generalize wo.alloc (.cells #[.slice a3 T.length c3] 108) = w2 at HS1 HO1 y0 ⊢
    clear hX g0
    go_wp2
    go_loopw [9, 10, 11, 35] (fun nv dv lv jv wr => ∃ (j : Nat) (st : SnT) (la : Option Addr) (lc : Nat), j ≤ T.length ∧ jv = .int .i64 j ∧ st = (T.take j).foldl (soonStop x) ⟨0, 0, A.ready, []⟩ ∧ nv = .int .i64 st.now ∧ dv = .int .i64 st.node ∧ lv = .slice la j lc ∧ wr.ownsRow wo.heap.size 2 1 (.slice la j lc) j (st.l.map intV) ∧
      SW w qi qp qr qt gr ic pc [.slice ta k tc, .slice none 0 0] st.ready wr ∧ OldBut (some gr) wo wr) (fun _ _ _ jv _ => T.length - (intOf jv).toNat)
    case atStart => exact ⟨0, _, none, 0, Nat.zero_le _, rfl, rfl, rfl, rfl, rfl, World.ownsRow_nil _ _ _ _, HS1.out, HO1.out⟩
    case round =>
     clear y0 HS1 HO1
     obtain ⟨j, st, la, lc, hj, rfl, hst, rfl, rfl, rfl, hown, hsw, hold⟩ := hrel
     obtain ⟨wq, rfl⟩ : ∃ wq : World, wq = wr := ⟨_, rfl⟩
     have HS2 := hid hsw
     have HOWN := hid hown
     have HOLD := hid hold
     have HSTB := hid (show SnTB x st ∧ st.l.length = j from by rw [hst]; exact HST.out j hj)
     have HSTE := hid hst
     clear hsw hown hold hst
     by_cases hlt2 : j < T.length
     ·
      as_aux_lemma =>
       have hy := idx_at (c := c3) Try.underlying106 sz_stop (ha3 (by omega)) hlt2
       have hbw := HS2.out.bel
       have g3 := below_cell hbw (HCELL3.out j hlt2).1
       have g4 := below_cell hbw (HCELL3.out j hlt2).2
       have hss := HT1.out.2 _ (List.getElem_mem hlt2)
       have hb1 := HSTB.out.1
       have hjl := HSTB.out.2
       have hnow := hb1.now
       have hnd := hb1.node
       have hlen := hb1.len
       have HNXS := hid (show (T.take (j + 1)).foldl (soonStop x) ⟨0, 0, A.ready, []⟩ = soonStop x st T[j] from by rw [HSTE.out, take_last hlt2, List.foldl_append]; rfl)
       obtain ⟨so, hso⟩ : ∃ so, so = T[j] := ⟨_, rfl⟩
       rw [← hso] at g3 g4 hss HNXS
       obtain ⟨sa, lo⟩ := so
       simp only [] at g3 g4 hss
       have hal : Below wq.heap.size wq (wq.alloc (.cells #[.int .i64 sa, .int .i64 lo] 105)) := (Below.refl _ _).alloc (Nat.le_refl _) _
       have HS3 := hid (HS2.out.below hal)
       have HO3 := hid (owns_below HOWN.out hal)
       have HD3 := hid (HOLD.out.below hal)
       have HP3 := hid (Row.new (w := wq) (g := wq.heap.size) (e := 105) (cs := [.int .i64 sa, .int .i64 lo]) rfl)
       obtain ⟨X, hX⟩ : ∃ X, X = wq.heap.size := ⟨_, rfl⟩
       rw [← hX] at HP3
       have HB1 := hid hb1
       rw [hjl] at hnow
       have HJL := hid hjl
       clear hso hal hbw HS2 HOWN HOLD hb1 hjl
       go_upto_region 11 with fail
       rw [← hX]
       generalize wq.alloc (.cells #[.int .i64 sa, .int .i64 lo] 105) = w3 at HS3 HO3 HD3 HP3 ⊢
       clear hX g3 g4
       have hcn : (1 + sa).toNat < nodes x := by unfold nodes; omega
       have hcn0 : (0 : Int) ≤ 1 + sa := by omega
       have hB3 := HS3.out.bel
       have RI := HS3.out.inst
       rw [HIC.out] at RI
       obtain ⟨q0, q1, q2, q3, q4, q5, q6, q7, q8⟩ := row9 RI
       have y0 := HP3.out.cell (j := 0) (by simp)
       simp only [List.getElem_cons_zero] at y0
       obtain ⟨br, orr, cr, t0, tc'⟩ := HTIME.out st.node.toNat (by omega)
       have t1 := below_cell hB3 t0
       have t2 := below_cell hB3 (tc' (1 + sa).toNat hcn)
       rw [Int.toNat_of_nonneg hcn0, Int.toNat_of_nonneg hnd.1] at t2
       have it0 := idx_at1 (c := c7) Try.underlying31 sz_row (a := some ⟨b7, off7, none⟩) rfl (k := st.node.toNat) (n := nodes x) (by omega)
       rw [Int.toNat_of_nonneg hnd.1] at it0
       have it1 := idx_at1 (c := cr) Try.underlying34 sz_i64 (a := some ⟨br, orr, none⟩) rfl hcn
       rw [Int.toNat_of_nonneg hcn0] at it1
       have htvb := timeAt_bd GD.out st.node (1 + sa)
       obtain ⟨tv, htv⟩ : ∃ tv, tv = timeAt x st.node (1 + sa) := ⟨_, rfl⟩
       rw [← htv] at t2 htvb
       have HTV := hid htv
       clear tc' htv t0 RI
       go_wp2
       have z5 : ∀ e : At (Old w3), _ := fun e => e.cell q5
       have z8 : ∀ e : At (Old w3), _ := fun e => e.cell q8
       have za : ∀ e : At (Old w3), _ := fun e => e.cell t1
       have zb : ∀ e : At (Old w3), _ := fun e => e.cell t2
       have zc : ∀ e : At (Old w3), _ := fun e => e.cell y0
       refine wp_region_mix (Old w3) [16] [([0, 1, 2, 3, 4, 5, 6, 7, 8, 9, 10, 11, 12, 13, 14], 15, false), ([], 16, true)] (by kernel_rfl) (by kernel_rfl) (fun _ _ d _ _ h => by cases d <;> exact h) (Old.drew _) ?_
       simp only [mixOf, List.map_cons, List.map_nil, Array.getD_eq_getD_getElem?, List.getElem?_toArray, List.getElem?_cons_succ, List.getElem?_cons_zero, Option.getD_some, wpMix]
       repeat (go_big_quiet_step (fail))
       refine wpQuiet_nil ?_
       go_wp2_with fail
       refine ⟨Old.drew _, wpQuiet_nil ?_⟩
       have hO3 := Old.drew w3
       have HS4 := hid (HS3.out.below hO3)
       have HO4 := hid (owns_below HO3.out hO3)
       have HD4 := hid (HD3.out.below hO3)
       have HP4 := hid (HP3.out.below hO3)
       clear q0 q1 q2 q3 q4 q5 q6 q7 q8 y0 t1 t2 it0 it1 z5 z8 za zb zc HS3 HO3 HD3 HP3 hB3 hcn hcn0
       go_upto_region 12 with fail
       generalize w3.drew = w4 at HS4 HO4 HD4 HP4 ⊢
       clear hO3
       have hnv : 0 ≤ st.now + tv ∧ st.now + tv ≤ 2000000000000 := by omega
       obtain ⟨nv, hnve⟩ : ∃ v, v = st.now + tv := ⟨_, rfl⟩
       rw [← hnve] at hnv ⊢
       have HNV := hid (show nv = st.now + timeAt x st.node (1 + sa) from by rw [hnve, HTV.out])
       clear hnve HTV htvb
       have hown1 := HO4.out.alloc (.cells #[.int .i64 nv] 2)
       have hal4 : Below w4.heap.size w4 (w4.alloc (.cells #[.int .i64 nv] 2)) := (Below.refl _ _).alloc (Nat.le_refl _) _
       have HS5 := hid (HS4.out.below hal4)
       have HD5 := hid (HD4.out.below hal4)
       have HP5 := hid (HP4.out.below hal4)
       have hsz4 := HD4.out.1
       obtain ⟨i1, hi, hi0, hi1, hi2⟩ := info_parts info_i64
       clear hal4
       go_wp2_with (at_builtin; refine wpList_append_own _ rfl _ _ 34 rfl wo.heap.size 2 i1 (.int .i64 0) 1 8 Try.underlying34 hi hi0 hi1 hi2 rfl (by decide) _ _ _ rfl hown1 ⟨w4.heap.size, 0, none⟩ 1 1 [.int .i64 nv] rfl rfl ?c1 ?c2 ?c3 ?c4 ?c5 ?_)
       case c1 => exact cell_one_new _ _ _
       case c2 => intro u hu; simp at hu; subst hu; rfl
       case c3 => unfold maxLen; omega
       case c4 => omega
       case c5 => simp; omega
       intro v' w6 hown' hgrow _
       obtain ⟨ao', cp', hv', -, -⟩ := owns_slice hown'
       subst hv'
       have hBo : w.heap.size + 5 ≤ wo.heap.size := by have := HBE.out; omega
       have HS6 := hid (HS5.out.grown hown1 hBo hgrow)
       have HD6 := hid (HD5.out.high hown1 hgrow)
       have HP6 := hid (HP5.out.keep (hgrow.block _ HP5.out.lt (ne_own_row hown1 HP5.out (by decide))))
       have HO6 := hid hown'
       clear hown' hgrow hown1 hi hi0 hi1 hi2 HS4 HO4 HD4 HP4 HS5 HD5 HP5
       go_upto_region 13 with fail
       have hB6 := HS6.out.bel
       have RI := HS6.out.inst
       rw [HIC.out] at RI
       obtain ⟨q0, q1, q2, q3, q4, q5, q6, q7, q8⟩ := row9 RI
       have y0 := HP6.out.cell (j := 0) (by simp)
       simp only [List.getElem_cons_zero] at y0
       have hsr : sa.toNat < x.sats.length := by omega
       have gh := below_cell hB6 (HCELL.out sa.toNat hsr).2
       have ih := idx_at (c := c1) Try.underlying29 sz_sat (ha (by omega)) hsr
       have ir := idx_at1 (c := x.sats.length) Try.underlying34 sz_i64 (a := some ⟨gr, 0, none⟩) rfl hsr
       rw [Int.toNat_of_nonneg hss.1] at ih
       rw [Int.toNat_of_nonneg hss.1, Nat.zero_add] at ir
       have hrd : sa.toNat < st.ready.length := by omega
       have cr4 := HS6.out.row.cell (j := sa.toNat) (by rw [List.length_map]; exact hrd)
       rw [List.getElem_map] at cr4
       have fr4 := HS6.out.row.frozen sa.toNat
       have hhb := hold_bd GD.out sa
       have hhe : holdOf x sa = (x.sats[sa.toNat]'hsr).hold := by
        unfold holdOf
        rw [List.getD_eq_getElem?_getD, List.getElem?_eq_getElem hsr]; rfl
       rw [← hhe] at gh
       have hrb := HB1.out.get sa.toNat
       have hre : st.ready.getD sa.toNat 0 = st.ready[sa.toNat]'hrd := by rw [List.getD_eq_getElem?_getD, List.getElem?_eq_getElem hrd]; rfl
       rw [← hre] at cr4
       have HSE := hid (show soonStop x st ⟨sa, lo⟩ = ⟨nv, 1 + sa, st.ready.set sa.toNat (max (st.ready.getD sa.toNat 0) (nv + holdOf x sa)), st.l ++ [nv]⟩ from by rw [HNV.out]; rfl)
       obtain ⟨rv, hrv⟩ : ∃ v, v = st.ready.getD sa.toNat 0 := ⟨_, rfl⟩
       obtain ⟨hv, hhv⟩ : ∃ v, v = holdOf x sa := ⟨_, rfl⟩
       rw [← hrv, ← hhv] at HSE
       rw [← hrv] at cr4 hrb
       rw [← hhv] at gh hhb
       unfold intV at cr4
       clear RI hhe hre hrv hhv
       go_wp2
       have z5 : ∀ e : At (Old w6), _ := fun e => e.cell q5
       have za : ∀ e : At (Old w6), _ := fun e => e.cell gh
       have zb : ∀ e : At (Old w6), _ := fun e => e.cell cr4
       have zc : ∀ e : At (Old w6), _ := fun e => e.cell y0
       refine wp_region_mix (Old w6) [19] [([0, 1, 2, 3, 4, 5, 6, 7, 8, 9, 10, 11, 12, 13, 14, 15, 16], 17, false), ([], 18, false), ([], 19, true)] (by kernel_rfl) (by kernel_rfl) (fun _ _ d _ _ h => by cases d <;> exact h) (Old.drew _) ?_
       simp only [mixOf, List.map_cons, List.map_nil, Array.getD_eq_getD_getElem?, List.getElem?_toArray, List.getElem?_cons_succ, List.getElem?_cons_zero, Option.getD_some, wpMix]
       repeat (go_big_quiet_step (fail))
       refine wpQuiet_nil ?_
       go_wp2_with fail
       refine ⟨Old.drew _, wpQuiet_nil ?_⟩
       go_wp2_with fail
       refine ⟨Old.drew _, wpQuiet_nil ?_⟩
       go_wp2
       go_roundw
       case rel =>
        have hO6 := Old.drew w6
        have hgo : gr < wo.heap.size := by omega
        have HS7 := (HS6.out.below hO6).setR hrd (max rv (nv + hv))
        have HO7 := owns_setLow (owns_below HO6.out hO6) hgo sa.toNat (.int .i64 (max rv (nv + hv)))
        have HD7 := (HD6.out.below hO6).grown (grown_set w6.drew ⟨gr, sa.toNat, none⟩ (.int .i64 (max rv (nv + hv))))
        refine ⟨j + 1, ⟨nv, 1 + sa, st.ready.set sa.toNat (max rv (nv + hv)), st.l ++ [nv]⟩, ao', cp', by omega, by go_num, by rw [HNXS.out, HSE.out], rfl, rfl, rfl, ?_, HS7, HD7⟩
        rw [List.map_append]; exact HO7
       case measure => simp [intOf]; omega
     ·
      as_aux_lemma =>
       have hjT : j = T.length := by omega
       subst hjT
       have HSA := hid (show soonTruck x A T = ⟨st.ready, A.ts ++ [st.l]⟩ from by
        have := HSTE.out
        rw [List.take_length] at this
        unfold soonTruck soonTruckE
        rw [← this])
       have hjl := HSTB.out.2
       have hio := HIO.out.oldBut HOLD.out hgrB
       have hBo : w.heap.size + 5 ≤ B := by have := HBE.out; omega
       have hlu := owns_mono (B' := B) HOWN.out hBz
       have HSP := hid (HSEP.out.push (u := .slice la T.length lc) (n := wo.heap.size) (fun a ha b hb => by
        obtain ⟨i, hi, rfl⟩ := List.getElem_of_mem ha
        exact (HIO.out.blockLt i hi b hb).2) (fun b hb => (HOWN.out.lt b hb).1))
       obtain ⟨t0, t1⟩ := row2 HS2.out.tms
       have ft0 := HS2.out.tms.frozen 0
       have hal : Below wq.heap.size wq (wq.alloc (.cells #[.slice la T.length lc] 34)) := (Below.refl _ _).alloc (Nat.le_refl _) _
       have HIO3 := hid (hio.below hal)
       have hown1 := HIO3.out.own
       have hAl : A.ts.length = k := HUP.out.2
       rw [hAl] at hown1
       have HS3 := hid (HS2.out.below hal)
       have HLU := hid (owns_below hlu hal)
       have HAL := hid hAl
       have HJL := hid hjl
       have hszq := HOLD.out.1
       obtain ⟨i1, hi, hi0, hi1, hi2⟩ := info_parts info_row
       clear hio hlu hal hAl hjl HOLD HOWN
       go_wp2_with (at_builtin; refine wpList_append_own _ rfl _ _ 31 rfl B 34 i1 (.slice none 0 0) 1 24 Try.underlying31 hi hi0 hi1 hi2 rfl (by decide) _ _ _ rfl hown1 ⟨wq.heap.size, 0, none⟩ 1 1 [.slice la T.length lc] rfl rfl ?c1 ?c2 ?c3 ?c4 ?c5 ?_)
       case c1 => exact cell_one_new _ _ _
       case c2 => intro u hu; simp at hu; subst hu; rfl
       case c3 => unfold maxLen; omega
       case c4 => omega
       case c5 => simp; omega
       intro v' w4 hown' hgrow _
       obtain ⟨ao', cp', hv', -, -⟩ := owns_slice hown'
       subst hv'
       have hS4 := HS3.out.grown hown1 hBo hgrow
       have hI4 := HIO3.out.push (v' := .slice ao' (k + 1) cp') (u := .slice la T.length lc) (t := st.l) (by decide) hgrow (by rw [HAL.out]; exact hown') (by rw [HJL.out]; exact HLU.out)
       have HS5 := hid (hS4.setT (j := 0) (by simp) (.slice ao' (k + 1) cp'))
       have HI5 := hid (hI4.keptSet (p := qt) (j := 0) (u := .slice ao' (k + 1) cp') hS4.tms (by decide) (by decide))
       have hsz4 := hgrow.size
       obtain ⟨d0, d1⟩ := row2 hS4.tms
       have fd0 := hS4.tms.frozen 0
       have HZ := hid (show B ≤ (w4.setCell ⟨qt, 0, none⟩ (.slice ao' (k + 1) cp')).heap.size from by
        have h1 : (wq.alloc (.cells #[.slice la T.length lc] 34)).heap.size = wq.heap.size + 1 := by simp
        have h2 : (w4.setCell ⟨qt, 0, none⟩ (.slice ao' (k + 1) cp')).heap.size = w4.heap.size := by simp [World.setCell]
        omega)
       clear hown' hgrow hown1 hi hi0 hi1 hi2 hS4 hI4 t0 t1 ft0 HS2 HS3 HIO3 HLU hsz4
       go_wp2
       go_roundw
       case rel =>
        refine ⟨k + 1, ao', cp', vs ++ [.slice la T.length lc], by omega, by go_num, ?_, ?_, HSP.out, HZ.out⟩
        ·rw [HNX.out, HSA.out]; exact HS5.out
        ·rw [HNX.out, HSA.out]; exact HI5.out
       case measure => simp [intOf]; omega
  ·obtain rfl : k = p.trucks.length := by omega
   rw [List.take_length] at HSW HIO HUP
   obtain ⟨K, hK⟩ : ∃ K, K = p.trucks.length := ⟨_, rfl⟩
   have hK1000 : K ≤ 1000 := by rw [hK]; exact OK.out.tl
   rw [← hK] at HSW HIO HUP
   have HKE := hid hK
   have HSD := hid (show soonD x p = ⟨(soonTrucks x p.trucks).ts, p.bikes.map (soonBike x (soonTrucks x p.trucks).ready)⟩ from rfl)
   obtain ⟨A, hA⟩ : ∃ A, A = soonTrucks x p.trucks := ⟨_, rfl⟩
   rw [← hA] at HSW HIO HUP HSD
   have RP := HSW.out.plan
   rw [HPC.out] at RP
   obtain ⟨p0, p1⟩ := row2 RP
   clear RP hK hA
   go_wp2
   go_loopw [88] (fun kv wr => ∃ (k : Nat) (ba : Option Addr) (bc : Nat) (us : List Value), k ≤ p.bikes.length ∧ kv = .int .i64 k ∧ SW w qi qp qr qt gr ic pc [.slice ta K tc, .slice ba k bc] A.ready wr ∧ IOwn 34 2 wr B (.slice ta K tc) A.ts vs ∧
     ROwn 85 2 wr B (.slice ba k bc) ((p.bikes.take k).map (soonBike x A.ready)) us ∧ Sep (vs ++ us) ∧ B ≤ wr.heap.size) (fun kv _ => p.bikes.length - (intOf kv).toNat)
   case atStart => exact ⟨0, none, 0, [], Nat.zero_le _, rfl, HSW.out, HIO.out, ROwn.nil _ _ _ _, by rw [List.append_nil]; exact HSEP.out, hBz⟩
   case round =>
    clear p0 p1 HSW HIO HSEP
    obtain ⟨k, ba, bc, us, hk, rfl, hsw, hio, hro, hsep, hBz2⟩ := hrel
    obtain ⟨wp, rfl⟩ : ∃ wp : World, wp = wr := ⟨_, rfl⟩
    have HSW := hid hsw
    have HIO := hid hio
    have HRO := hid hro
    have HSEP := hid hsep
    clear hsw hio hro hsep
    by_cases hlt : k < p.bikes.length
    ·as_aux_lemma =>
      have hx := idx_at (c := c4) Try.underlying44 sz_bike (ha4 (by omega)) hlt
      obtain ⟨sv, g0, g00, -, hr⟩ := HCELL4.out k hlt
      obtain ⟨a3, b3, off3, c3, hs3, hl3, hc3, ha3, -, hcell3, -⟩ := ints_open hr
      obtain rfl := List.cons.inj hs3 |>.1
      have HCELL3 := hid hcell3
      have hb1 := OK.out.b1 _ (List.getElem_mem hlt)
      have hbl := OK.out.bl
      have HTK := hid (show (p.bikes.take (k + 1)).map (soonBike x A.ready) = (p.bikes.take k).map (soonBike x A.ready) ++ [soonBike x A.ready p.bikes[k]] from by rw [take_last hlt, List.map_append]; rfl)
      have HTL := hid (show ((p.bikes.take k).map (soonBike x A.ready)).length = k from by rw [List.length_map, List.length_take]; omega)
      obtain ⟨bk, hbk⟩ : ∃ b, b = p.bikes[k] := ⟨_, rfl⟩
      rw [← hbk] at g0 g00 hl3 hb1 HTK ha3 HCELL3
      obtain ⟨sa, sp⟩ := bk
      simp only [] at g0 g00 hl3 hb1 ha3 HCELL3
      have HSB := hid (soonB_start (b := ⟨sa, sp⟩) HUP.out.1.len HUP.out.1.rdy hb1.2.1)
      obtain ⟨rv, hrv⟩ : ∃ v, v = A.ready.getD sa.toNat 0 := ⟨_, rfl⟩
      have hsb : SnBB x ⟨rv, 1 + sa, []⟩ := by rw [hrv]; exact HSB.out
      have HST := hid (fun j hj => soonCust_up GD.out hsb rfl ⟨hb1.1, hb1.2.2⟩ j hj)
      have HSBK := hid (show soonBike x A.ready ⟨sa, sp⟩ = ⟨rv, (sp.foldl (soonCust x) ⟨rv, 1 + sa, []⟩).starts, (sp.foldl (soonCust x) ⟨rv, 1 + sa, []⟩).now + timeAt x (sp.foldl (soonCust x) ⟨rv, 1 + sa, []⟩).node (1 + sa)⟩ from by rw [hrv]; rfl)
      obtain ⟨hspl, hsat, hcu⟩ := hb1
      have HCU := hid hcu
      have hrvb := hsb.now
      simp only [List.length_nil] at hrvb
      have hrd : sa.toNat < A.ready.length := by have := HUP.out.1.len; omega
      have cr := HSW.out.row.cell (j := sa.toNat) (by rw [List.length_map]; exact hrd)
      rw [List.getElem_map] at cr
      have hre : rv = A.ready[sa.toNat]'hrd := by rw [hrv, List.getD_eq_getElem?_getD, List.getElem?_eq_getElem hrd]; rfl
      rw [← hre] at cr
      unfold intV at cr
      have g0 := below_cell HSW.out.bel g0
      have g00 := below_cell HSW.out.bel g00
      have hal : Below wp.heap.size wp (wp.alloc (.cells #[.int .i64 sa, .slice a3 sp.length c3] 128)) := (Below.refl _ _).alloc (Nat.le_refl _) _
      have HO1 := hid (show Old wp (wp.alloc (.cells #[.int .i64 sa, .slice a3 sp.length c3] 128)) from hal)
      have HX1 := hid (Row.new (w := wp) (g := wp.heap.size) (e := 128) (cs := [.int .i64 sa, .slice a3 sp.length c3]) rfl)
      have hcr := below_cell hal cr
      have ir := idx_at1 (c := x.sats.length) Try.underlying34 sz_i64 (a := some ⟨gr, 0, none⟩) rfl (k := sa.toNat) (n := x.sats.length) (by omega)
      rw [Int.toNat_of_nonneg hsat.1, Nat.zero_add] at ir
      obtain ⟨X, hX⟩ : ∃ X, X = wp.heap.size := ⟨_, rfl⟩
      rw [← hX] at HX1
      have hXle : wp.heap.size ≤ X := by omega
      clear hs3 hr hcell3 hbk hal hcu hsb hrv hre cr
      go_upto_region 20 with fail
      rw [← hX]
      generalize wp.alloc (.cells #[.int .i64 sa, .slice a3 sp.length c3] 128) = w2 at HO1 HX1 hcr ⊢
      clear hX g0 g00
      obtain ⟨x0, x1⟩ := row2 HX1.out
      have hal2 : Below w2.heap.size w2 (w2.alloc (.cells #[.int .i64 rv, .slice none 0 0, .int .i64 0] 85)) := (Below.refl _ _).alloc (Nat.le_refl _) _
      have HO2 := hid (show Old wp (w2.alloc (.cells #[.int .i64 rv, .slice none 0 0, .int .i64 0] 85)) from HO1.out.step hal2)
      have HX2 := hid (HX1.out.below hal2)
      have HY2 := hid (Row.new (w := w2) (g := w2.heap.size) (e := 85) (cs := [.int .i64 rv, .slice none 0 0, .int .i64 0]) rfl)
      obtain ⟨Y, hY⟩ : ∃ Y, Y = w2.heap.size := ⟨_, rfl⟩
      rw [← hY] at HY2
      have hYle : wp.heap.size ≤ Y := by rw [hY]; exact HO1.out.size
      go_upto_region 21 with fail
      rw [← hY]
      generalize w2.alloc (.cells #[.int .i64 rv, .slice none 0 0, .int .i64 0] 85) = w3 at HO2 HX2 HY2 ⊢
      clear hY hal2 HO1 HX1 x0 x1 hcr ir
      obtain ⟨x0, x1⟩ := row2 HX2.out
      have y0 := HY2.out.cell (j := 0) (by simp)
      simp only [List.getElem_cons_zero] at y0
      go_wp2
      have z0 : ∀ e : At (Old w3), _ := fun e => e.cell x0
      have z1 : ∀ e : At (Old w3), _ := fun e => e.cell y0
      refine wp_region_mix (Old w3) [6] [([0, 1, 2, 3, 4], 5, false), ([], 6, true)] (by kernel_rfl) (by kernel_rfl) (fun _ _ d _ _ h => by cases d <;> exact h) (Old.drew _) ?_
      simp only [mixOf, List.map_cons, List.map_nil, Array.getD_eq_getD_getElem?, List.getElem?_toArray, List.getElem?_cons_succ, List.getElem?_cons_zero, Option.getD_some, wpMix]
      repeat (go_big_quiet_step (fail))
      refine wpQuiet_nil ?_
      go_wp2_with fail
      refine ⟨Old.drew _, wpQuiet_nil ?_⟩
      have hO3 := Old.drew w3
      have HO3 := hid (HO2.out.step hO3)
      have HX3 := hid (HX2.out.below hO3)
      have HY3 := hid (HY2.out.below hO3)
      clear x0 x1 y0 z0 z1 HO2 HX2 HY2
      go_upto_region 22 with fail
      generalize w3.drew = w4 at HO3 HX3 HY3 ⊢
      clear hO3
      obtain ⟨x0, x1⟩ := row2 HX3.out
      go_wp2
      go_loopw [17, 18, 106] (fun nv dv jv wr => ∃ (j : Nat) (st : SnB) (la : Option Addr) (lc : Nat), j ≤ sp.length ∧ jv = .int .i64 j ∧ st = (sp.take j).foldl (soonCust x) ⟨rv, 1 + sa, []⟩ ∧ nv = .int .i64 st.now ∧ dv = .int .i64 st.node ∧ Row wr Y 85 [.int .i64 rv, .slice la j lc, .int .i64 0] ∧
        wr.ownsRow wp.heap.size 2 1 (.slice la j lc) j (st.starts.map intV) ∧ Row wr X 128 [.int .i64 sa, .slice a3 sp.length c3] ∧ Old wp wr) (fun _ _ jv _ => sp.length - (intOf jv).toNat)
      case atStart => exact ⟨0, _, none, 0, Nat.zero_le _, rfl, rfl, rfl, rfl, HY3.out, World.ownsRow_nil _ _ _ _, HX3.out, HO3.out⟩
      case round =>
       clear x0 x1 HO3 HX3 HY3
       obtain ⟨j, st, la, lc, hj, rfl, hst, rfl, rfl, hy, hown, hxr, hold⟩ := hrel
       obtain ⟨wq, rfl⟩ : ∃ wq : World, wq = wr := ⟨_, rfl⟩
       have HY := hid hy
       have HOWN := hid hown
       have HX := hid hxr
       have HOLD := hid hold
       have HSTB := hid (show SnBB x st ∧ st.starts.length = j from by rw [hst]; exact HST.out j hj)
       have HSTE := hid hst
       clear hy hown hxr hold hst
       by_cases hlt2 : j < sp.length
       ·
        as_aux_lemma =>
         have hyc := idx_at1 (c := c3) Try.underlying49 sz_int (ha3 (by omega)) hlt2
         have hBw2 := HSW.out.bel.trans (HOLD.out.mono HSW.out.bel.size)
         have g3 := below_cell hBw2 (HCELL3.out j hlt2)
         have hcu := HCU.out _ (List.getElem_mem hlt2)
         have hb1 := HSTB.out.1
         have hjl := HSTB.out.2
         have hnow := hb1.now
         have hnd := hb1.node
         have HNXS := hid (show (sp.take (j + 1)).foldl (soonCust x) ⟨rv, 1 + sa, []⟩ = soonCust x st sp[j] from by rw [HSTE.out, take_last hlt2, List.foldl_append]; rfl)
         obtain ⟨cu, hcue⟩ : ∃ c, c = sp[j] := ⟨_, rfl⟩
         rw [← hcue] at g3 hcu HNXS
         have HCUO := hid hcu
         unfold CustOk at hcu
         have hcc := GD.out.custs
         have hcl : cu.toNat < x.custs.length := by omega
         obtain ⟨gc0, gc1, gc2, gc3⟩ := HCELLC.out cu.toNat hcl
         have hcd : x.custs[cu.toNat]'hcl = custD x cu := by
          unfold custD; rw [List.getD_eq_getElem?_getD, List.getElem?_eq_getElem hcl]; rfl
         rw [hcd] at gc1 gc3
         have k1 := below_cell hBw2 gc1
         have k3 := below_cell hBw2 gc3
         have icu := idx_at (c := c1') Try.underlying30 sz_cust (ha' (by omega)) hcl
         rw [Int.toNat_of_nonneg hcu.1] at icu
         have hcdb := custD_bd GD.out HCUO.out
         have HSE := hid (show soonCust x st cu = ⟨max (st.now + timeAt x st.node (1 + x.sats.length + cu)) (custD x cu).opn + (custD x cu).stay, 1 + x.sats.length + cu, st.starts ++ [max (st.now + timeAt x st.node (1 + x.sats.length + cu)) (custD x cu).opn]⟩ from rfl)
         obtain ⟨op, hop⟩ : ∃ v, v = (custD x cu).opn := ⟨_, rfl⟩
         obtain ⟨sy, hsy⟩ : ∃ v, v = (custD x cu).stay := ⟨_, rfl⟩
         rw [← hop] at k1 HSE hcdb
         rw [← hsy] at k3 HSE hcdb
         obtain ⟨nd, hnde⟩ : ∃ v, v = 1 + (x.sats.length : Int) + cu := ⟨_, rfl⟩
         rw [← hnde] at HSE
         have hcn : nd.toNat < nodes x := by unfold nodes; omega
         have hcn0 : (0 : Int) ≤ nd := by omega
         have HND := hid hnde
         obtain ⟨br, orr, cr, t0, tc'⟩ := HTIME.out st.node.toNat (by omega)
         have t1 := below_cell hBw2 t0
         have t2 := below_cell hBw2 (tc' nd.toNat hcn)
         rw [Int.toNat_of_nonneg hcn0, Int.toNat_of_nonneg hnd.1] at t2
         have it0 := idx_at1 (c := c7) Try.underlying31 sz_row (a := some ⟨b7, off7, none⟩) rfl (k := st.node.toNat) (n := nodes x) (by omega)
         rw [Int.toNat_of_nonneg hnd.1] at it0
         have it1 := idx_at1 (c := cr) Try.underlying34 sz_i64 (a := some ⟨br, orr, none⟩) rfl hcn
         rw [Int.toNat_of_nonneg hcn0] at it1
         have htvb := timeAt_bd GD.out st.node nd
         obtain ⟨tv, htv⟩ : ∃ tv, tv = timeAt x st.node nd := ⟨_, rfl⟩
         rw [← htv] at t2 htvb HSE
         have RI := (HSW.out.below HOLD.out).inst
         rw [HIC.out] at RI
         obtain ⟨q0, q1, q2, q3, q4, q5, q6, q7, q8⟩ := row9 RI
         have HINS := hid (instS.below HREP.out hBw2)
         rw [hjl] at hnow
         have hmx : 0 ≤ max (st.now + tv) op ∧ max (st.now + tv) op ≤ 7000000000000 := by omega
         clear hcue hcu hcd gc0 gc1 gc2 gc3 hop hsy hnde tc' t0 htv RI hBw2
         go_upto_region 25 with fail
         go_wp2
         have z0 : ∀ e : At (Old wq), _ := fun e => e.cell q0
         have z1 : ∀ e : At (Old wq), _ := fun e => e.cell q1
         have z2 : ∀ e : At (Old wq), _ := fun e => e.cell q2
         have z3 : ∀ e : At (Old wq), _ := fun e => e.cell q3
         have z4 : ∀ e : At (Old wq), _ := fun e => e.cell q4
         have z5 : ∀ e : At (Old wq), _ := fun e => e.cell q5
         have z6 : ∀ e : At (Old wq), _ := fun e => e.cell q6
         have z7 : ∀ e : At (Old wq), _ := fun e => e.cell q7
         have z8 : ∀ e : At (Old wq), _ := fun e => e.cell q8
         have za : ∀ e : At (Old wq), _ := fun e => e.cell t1
         have zb : ∀ e : At (Old wq), _ := fun e => e.cell t2
         have zc : ∀ e : At (Old wq), _ := fun e => e.cell k1
         refine wp_region_mix (Old wq) [19] [([0, 1, 2, 3, 4, 5, 6, 7, 12, 13, 14, 15, 16, 17], 8, false), ([9, 10, 11], 18, false), ([], 19, true)] (by kernel_rfl) (by kernel_rfl) (fun _ _ d _ _ h => by cases d <;> exact h) (Old.drew _) ?_
         simp only [mixOf, List.map_cons, List.map_nil, Array.getD_eq_getD_getElem?, List.getElem?_toArray, List.getElem?_cons_succ, List.getElem?_cons_zero, Option.getD_some, wpMix]
         repeat (go_big_quiet_step (fail))
         refine wpQuiet_nil ?_
         have hO0 := Old.drew wq
         go_wp2_with fail
         refine (at11_c (instS.below HINS.out hO0) GD.out HCUO.out).mono ?_
         rintro e w5 ⟨rfl, hb5⟩
         have hO5 := hO0.step hb5
         rw [← HND.out]
         go_wp2_with fail
         refine ⟨hO5, ?_⟩
         repeat (go_big_quiet_step (fail))
         refine wpQuiet_nil ?_
         go_wp2_with fail
         refine ⟨hO5, wpQuiet_nil ?_⟩
         obtain ⟨mx, hmxe⟩ : ∃ v, v = max (st.now + tv) op := ⟨_, rfl⟩
         rw [← hmxe] at hmx HSE
         have HMX := hid hmxe
         have HY5 := hid (HY.out.below hO5)
         have HO5 := hid (owns_below HOWN.out hO5)
         have HX5 := hid (HX.out.below hO5)
         have HD5 := hid (HOLD.out.step hO5)
         have HK3 := hid (below_cell hO5 k3)
         clear hmxe q0 q1 q2 q3 q4 q5 q6 q7 q8 t1 t2 it0 it1 z0 z1 z2 z3 z4 z5 z6 z7 z8 za zb zc k1 k3 g3 HY HOWN HX HOLD hb5 hO5 hO0
         go_upto_region 26 with fail
         rw [← HMX.out]
         have y1 := HY5.out.cell (j := 1) (by simp)
         simp only [List.getElem_cons_zero, List.getElem_cons_succ] at y1
         have hal5 : Below w5.heap.size w5 (w5.alloc (.cells #[.int .i64 mx] 2)) := (Below.refl _ _).alloc (Nat.le_refl _) _
         have hown1 := HO5.out.alloc (.cells #[.int .i64 mx] 2)
         have hY6 := HY5.out.below hal5
         have hX6 := HX5.out.below hal5
         have hD6 := HD5.out.step hal5
         have HK6 := hid (below_cell hal5 HK3.out)
         have hszp := HD5.out.size
         obtain ⟨i1, hi, hi0, hi1, hi2⟩ := info_parts info_i64
         clear hal5
         go_wp2_with (at_builtin; refine wpList_append_own _ rfl _ _ 34 rfl wp.heap.size 2 i1 (.int .i64 0) 1 8 Try.underlying34 hi hi0 hi1 hi2 rfl (by decide) _ _ _ rfl hown1 ⟨w5.heap.size, 0, none⟩ 1 1 [.int .i64 mx] rfl rfl ?c1 ?c2 ?c3 ?c4 ?c5 ?_)
         case c1 => exact cell_one_new _ _ _
         case c2 => intro u hu; simp at hu; subst hu; rfl
         case c3 => unfold maxLen; omega
         case c4 => omega
         case c5 => simp; omega
         intro v' w7 hown' hgrow _
         obtain ⟨ao', cp', hv', -, -⟩ := owns_slice hown'
         subst hv'
         have hY7 := hY6.grown hown1 (by decide) hgrow
         have hX7 := hX6.grown hown1 (by decide) hgrow
         have hD7 : Old wp w7 := below_owned hD6 hown1 hD6.size (Nat.le_refl _) hgrow
         have HY8 := hid (show Row (w7.setCell ⟨Y, 1, none⟩ (.slice ao' (j + 1) cp')) Y 85 [.int .i64 rv, .slice ao' (j + 1) cp', .int .i64 0] from hY7.set (j := 1) (by simp) _)
         have HX8 := hid (hX7.setApart hY7 (by decide) 1 (.slice ao' (j + 1) cp'))
         have HO8 := hid (owns_setApart hown' hY7 (by decide) 1 (.slice ao' (j + 1) cp'))
         have HD8 := hid (show Old wp (w7.setCell ⟨Y, 1, none⟩ (.slice ao' (j + 1) cp')) from Below.setCell hD7 (p := ⟨Y, 1, none⟩) hYle _)
         have d1 := hY7.cell (j := 1) (by simp)
         have fd1 := hY7.frozen 1
         simp only [List.getElem_cons_zero, List.getElem_cons_succ] at d1
         clear hown' hgrow hown1 hi hi0 hi1 hi2 hY6 hX6 hD6 hY7 hX7 hD7 HY5 HX5 HO5 HD5 HK3 HK6 y1
         go_upto_region 27 with fail
         generalize w7.setCell ⟨Y, 1, none⟩ (.slice ao' (j + 1) cp') = w8 at HY8 HX8 HO8 HD8 ⊢
         clear d1 fd1
         have hBw3 := HSW.out.bel.trans (HD8.out.mono HSW.out.bel.size)
         obtain ⟨gc0, gc1, gc2, gc3⟩ := HCELLC.out cu.toNat hcl
         have hcd : x.custs[cu.toNat]'hcl = custD x cu := by
          unfold custD; rw [List.getD_eq_getElem?_getD, List.getElem?_eq_getElem hcl]; rfl
         rw [hcd] at gc3
         have k3 := below_cell hBw3 gc3
         have HINS8 := hid (instS.below HREP.out hBw3)
         have RI := (HSW.out.below HD8.out).inst
         rw [HIC.out] at RI
         obtain ⟨q0, q1, q2, q3, q4, q5, q6, q7, q8⟩ := row9 RI
         have HSY := hid (show sy = (custD x cu).stay from by
          have := congrArg SnB.now HSE.out
          simp only [soonCust] at this
          have h2 := congrArg SnB.starts HSE.out
          simp only [soonCust, List.append_cancel_left_eq, List.cons.injEq, and_true] at h2
          omega)
         rw [← HSY.out] at k3
         clear gc0 gc1 gc2 gc3 hcd RI hBw3
         go_wp2
         have z0 : ∀ e : At (Old w8), _ := fun e => e.cell q0
         have z1 : ∀ e : At (Old w8), _ := fun e => e.cell q1
         have z2 : ∀ e : At (Old w8), _ := fun e => e.cell q2
         have z3 : ∀ e : At (Old w8), _ := fun e => e.cell q3
         have z4 : ∀ e : At (Old w8), _ := fun e => e.cell q4
         have z5 : ∀ e : At (Old w8), _ := fun e => e.cell q5
         have z6 : ∀ e : At (Old w8), _ := fun e => e.cell q6
         have z7 : ∀ e : At (Old w8), _ := fun e => e.cell q7
         have z8 : ∀ e : At (Old w8), _ := fun e => e.cell q8
         have za : ∀ e : At (Old w8), _ := fun e => e.cell k3
         refine wp_region_mix (Old w8) [12] [([0, 1, 2, 3, 4, 5, 6, 7, 8, 9], 10, false), ([], 11, false), ([], 12, true)] (by kernel_rfl) (by kernel_rfl) (fun _ _ d _ _ h => by cases d <;> exact h) (Old.drew _) ?_
         simp only [mixOf, List.map_cons, List.map_nil, Array.getD_eq_getD_getElem?, List.getElem?_toArray, List.getElem?_cons_succ, List.getElem?_cons_zero, Option.getD_some, wpMix]
         repeat (go_big_quiet_step (fail))
         refine wpQuiet_nil ?_
         have hO0 := Old.drew w8
         go_wp2_with fail
         refine (at11_c (instS.below HINS8.out hO0) GD.out HCUO.out).mono ?_
         rintro e w9 ⟨rfl, hb9⟩
         have hO9 := hO0.step hb9
         rw [← HND.out]
         go_wp2_with fail
         refine ⟨hO9, wpQuiet_nil ?_⟩
         go_wp2_with fail
         refine ⟨hO9, wpQuiet_nil ?_⟩
         have HY9 := hid (HY8.out.below hO9)
         have HO9 := hid (owns_below HO8.out hO9)
         have HX9 := hid (HX8.out.below hO9)
         have HD9 := hid (HD8.out.step hO9)
         clear q0 q1 q2 q3 q4 q5 q6 q7 q8 z0 z1 z2 z3 z4 z5 z6 z7 z8 za k3 hb9 hO9 hO0
         go_wp2
         go_roundw
         case rel =>
          refine ⟨j + 1, ⟨mx + sy, nd, st.starts ++ [mx]⟩, ao', cp', by omega, by go_num, by rw [HNXS.out, HSE.out], rfl, rfl, HY9.out, ?_, HX9.out, HD9.out⟩
          rw [List.map_append]; exact HO9.out
         case measure => simp [intOf]; omega
       ·
        as_aux_lemma =>
         have hjT : j = sp.length := by omega
         subst hjT
         have HSA := hid (show soonBike x A.ready ⟨sa, sp⟩ = ⟨rv, st.starts, st.now + timeAt x st.node (1 + sa)⟩ from by
          have := HSTE.out
          rw [List.take_length] at this
          rw [HSBK.out, ← this])
         have hBw2 := HSW.out.bel.trans (HOLD.out.mono HSW.out.bel.size)
         have hb1 := HSTB.out.1
         have hjl := HSTB.out.2
         have hnow := hb1.now
         have hnd := hb1.node
         rw [hjl] at hnow
         have HJL := hid hjl
         have hcn : (1 + sa).toNat < nodes x := by unfold nodes; omega
         have hcn0 : (0 : Int) ≤ 1 + sa := by omega
         obtain ⟨br, orr, cr, t0, tc'⟩ := HTIME.out st.node.toNat (by omega)
         have t1 := below_cell hBw2 t0
         have t2 := below_cell hBw2 (tc' (1 + sa).toNat hcn)
         rw [Int.toNat_of_nonneg hcn0, Int.toNat_of_nonneg hnd.1] at t2
         have it0 := idx_at1 (c := c7) Try.underlying31 sz_row (a := some ⟨b7, off7, none⟩) rfl (k := st.node.toNat) (n := nodes x) (by omega)
         rw [Int.toNat_of_nonneg hnd.1] at it0
         have it1 := idx_at1 (c := cr) Try.underlying34 sz_i64 (a := some ⟨br, orr, none⟩) rfl hcn
         rw [Int.toNat_of_nonneg hcn0] at it1
         have htvb := timeAt_bd GD.out st.node (1 + sa)
         obtain ⟨tv, htv⟩ : ∃ tv, tv = timeAt x st.node (1 + sa) := ⟨_, rfl⟩
         rw [← htv] at t2 htvb HSA
         have RI := (HSW.out.below HOLD.out).inst
         rw [HIC.out] at RI
         obtain ⟨q0, q1, q2, q3, q4, q5, q6, q7, q8⟩ := row9 RI
         have y2 := HY.out.cell (j := 2) (by simp)
         have fy2 := HY.out.frozen 2
         simp only [List.getElem_cons_zero, List.getElem_cons_succ] at y2
         obtain ⟨x0, x1⟩ := row2 HX.out
         clear tc' t0 htv RI hBw2 hjl hb1
         go_wp2
         have z8 : ∀ e : At (Old wq), _ := fun e => e.cell q8
         have za : ∀ e : At (Old wq), _ := fun e => e.cell t1
         have zb : ∀ e : At (Old wq), _ := fun e => e.cell t2
         have zc : ∀ e : At (Old wq), _ := fun e => e.cell x0
         refine wp_region_mix (Old wq) [13] [([0, 1, 2, 3, 4, 5, 6, 7, 8, 9, 10], 11, false), ([], 12, false), ([], 13, true)] (by kernel_rfl) (by kernel_rfl) (fun _ _ d _ _ h => by cases d <;> exact h) (Old.drew _) ?_
         simp only [mixOf, List.map_cons, List.map_nil, Array.getD_eq_getD_getElem?, List.getElem?_toArray, List.getElem?_cons_succ, List.getElem?_cons_zero, Option.getD_some, wpMix]
         repeat (go_big_quiet_step (fail))
         refine wpQuiet_nil ?_
         go_wp2_with fail
         refine ⟨Old.drew _, wpQuiet_nil ?_⟩
         go_wp2_with fail
         refine ⟨Old.drew _, wpQuiet_nil ?_⟩
         obtain ⟨bk, hbk⟩ : ∃ v, v = st.now + tv := ⟨_, rfl⟩
         rw [← hbk] at HSA
         have HBK := hid hbk
         have hO0 := Old.drew wq
         have HY1 := hid (show Row ((wq.setCell ⟨Y, 2, none⟩ (.int .i64 bk)).drew) Y 85 [.int .i64 rv, .slice la sp.length lc, .int .i64 bk] from (HY.out.below hO0).set (j := 2) (by simp) _)
         have HO1 := hid (show World.ownsRow ((wq.setCell ⟨Y, 2, none⟩ (.int .i64 bk)).drew) wp.heap.size 2 1 (.slice la sp.length lc) sp.length (st.starts.map intV) from owns_setApart (owns_below HOWN.out hO0) (HY.out.below hO0) (by decide) 2 (.int .i64 bk))
         have HD1 := hid (show Old wp ((wq.setCell ⟨Y, 2, none⟩ (.int .i64 bk)).drew) from Below.setCell (HOLD.out.step hO0) (p := ⟨Y, 2, none⟩) hYle _)
         clear hbk q0 q1 q2 q3 q4 q5 q6 q7 q8 t1 t2 it0 it1 x0 x1 z8 za zb zc HY HOWN HX HOLD hO0
         go_upto_region 30 with fail
         rw [← HBK.out]
         generalize (wq.setCell ⟨Y, 2, none⟩ (.int .i64 bk)).drew = w5 at HY1 HO1 HD1 ⊢
         clear y2 fy2
         have y0 := HY1.out.cell (j := 0) (by simp)
         have y1 := HY1.out.cell (j := 1) (by simp)
         have y2 := HY1.out.cell (j := 2) (by simp)
         simp only [List.getElem_cons_zero, List.getElem_cons_succ] at y0 y1 y2
         have hs5 := HSW.out.below HD1.out
         obtain ⟨t0, t1⟩ := row2 hs5.tms
         have ft1 := hs5.tms.frozen 1
         have HSP := hid (show Sep (vs ++ (us ++ [.slice la sp.length lc])) from by
          rw [← List.append_assoc]
          refine HSEP.out.push (n := wp.heap.size) (fun a ha b hb => ?_) (fun b hb => (HO1.out.lt b hb).1)
          rcases List.mem_append.1 ha with ha | ha
          ·obtain ⟨i, hi, rfl⟩ := List.getElem_of_mem ha
           exact (HIO.out.blockLt i hi b hb).2
          ·obtain ⟨i, hi, rfl⟩ := List.getElem_of_mem ha
           exact (HRO.out.blockLt i hi b hb).2)
         have hal : Below w5.heap.size w5 (w5.alloc (.cells #[.int .i64 rv, .slice la sp.length lc, .int .i64 bk] 85)) := (Below.refl _ _).alloc (Nat.le_refl _) _
         have hD6 := HD1.out.step hal
         have HS6 := hid (HSW.out.below hD6)
         have HI6 := hid (HIO.out.below hD6)
         have HR6 := hid (HRO.out.below hD6)
         have HU6 := hid (owns_below (owns_mono (B' := B) HO1.out hBz2) hal)
         have hBo : w.heap.size + 5 ≤ B := by have := HBE.out; omega
         have hown1 := HR6.out.own
         rw [HTL.out] at hown1
         have hsz5 := HD1.out.size
         obtain ⟨i1, hi, hi0, hi1, hi2⟩ := info_parts info_ride
         clear hal hs5 hD6
         go_wp2_with (at_builtin; refine wpList_append_own _ rfl _ _ 52 rfl B 85 i1 (.agg #[.int .i64 0, .slice none 0 0, .int .i64 0]) 3 40 Try.underlying52 hi hi0 hi1 hi2 rfl (by decide) _ _ _ rfl hown1 ⟨w5.heap.size, 0, none⟩ 1 1 [.int .i64 rv, .slice la sp.length lc, .int .i64 bk] rfl rfl ?c1 ?c2 ?c3 ?c4 ?c5 ?_)
         case c1 => exact cells_new (cs := [.int .i64 rv, .slice la sp.length lc, .int .i64 bk]) rfl _
         case c2 => intro u hu; simp at hu; rcases hu with rfl | rfl | rfl <;> rfl
         case c3 => unfold maxLen; omega
         case c4 => omega
         case c5 => simp; omega
         intro v' w7 hown' hgrow _
         obtain ⟨ao', cp', hv', -, -⟩ := owns_slice hown'
         subst hv'
         have hS7 := HS6.out.grown hown1 hBo hgrow
         have hI7 := HI6.out.keptOwn hown1 hgrow (by decide) (by decide)
         have hR7 := HR6.out.push (v' := .slice ao' (k + 1) cp') (r := ⟨rv, st.starts, bk⟩) (u := .slice la sp.length lc) (by decide) hgrow (by rw [HTL.out, List.map_take]; exact hown') (by show World.ownsRow _ B _ 1 _ st.starts.length _; rw [HJL.out]; exact HU6.out)
         have HS8 := hid (hS7.setT (j := 1) (by simp) (.slice ao' (k + 1) cp'))
         have HI8 := hid (hI7.keptSet (p := qt) (j := 1) (u := .slice ao' (k + 1) cp') hS7.tms (by decide) (by decide))
         have HR8 := hid (hR7.keptSet (p := qt) (j := 1) (u := .slice ao' (k + 1) cp') hS7.tms (by decide) (by decide))
         obtain ⟨d0, d1⟩ := row2 hS7.tms
         have fd1 := hS7.tms.frozen 1
         have hszg := hgrow.size
         have HZ := hid (show B ≤ (w7.setCell ⟨qt, 1, none⟩ (.slice ao' (k + 1) cp')).heap.size from by
          have h1 : (w5.alloc (.cells #[.int .i64 rv, .slice la sp.length lc, .int .i64 bk] 85)).heap.size = w5.heap.size + 1 := by simp
          have h2 : (w7.setCell ⟨qt, 1, none⟩ (.slice ao' (k + 1) cp')).heap.size = w7.heap.size := by simp [World.setCell]
          omega)
         clear hown' hgrow hown1 hi hi0 hi1 hi2 hS7 hI7 hR7 t0 t1 ft1 HS6 HI6 HR6 HU6 HY1 HO1 HD1 y0 y1 y2 hszg
         go_wp2
         go_roundw
         case rel =>
          refine ⟨k + 1, ao', cp', us ++ [.slice la sp.length lc], by omega, by go_num, HS8.out, HI8.out, ?_, HSP.out, HZ.out⟩
          rw [HTK.out, HSA.out]; exact HR8.out
         case measure => simp [intOf]; omega
    ·obtain rfl : k = p.bikes.length := by omega
     as_aux_lemma =>
      rw [List.take_length] at HRO
      obtain ⟨t0, t1⟩ := row2 HSW.out.tms
      have R := HSW.out.res
      obtain ⟨r0, r1⟩ := row2 R
      have f0 := R.frozen 0
      have f1 := R.frozen 1
      have R1 := R.set (j := 0) (by simp) (.slice ta K tc)
      have hqr : w.heap.size ≤ qr := hqrB
      have HIF := hid ((((HIO.out.keptSet (j := 0) (u := .slice ta K tc) R (by decide) (by decide)).keptSet (j := 1) (u := .slice ba p.bikes.length bc) R1 (by decide) (by decide))).mono hBw)
      have HRF := hid ((((HRO.out.keptSet (j := 0) (u := .slice ta K tc) R (by decide) (by decide)).keptSet (j := 1) (u := .slice ba p.bikes.length bc) R1 (by decide) (by decide))).mono hBw)
      have HB := hid ((HSW.out.bel.setCell (p := ⟨qr, 0, none⟩) hqr (.slice ta K tc)).setCell (p := ⟨qr, 1, none⟩) hqr (.slice ba p.bikes.length bc))
      clear R R1 HIO HRO
      go_wp2
      refine bodyPost_ret (v := .agg #[.slice ta K tc, .slice ba p.bikes.length bc]) (by simp [results, Try.results38, go_sem, r0, r1]) rfl ⟨_, _, vs, us, rfl, ?_, ?_, HSEP.out, HB.out⟩
      ·rw [HSD.out]; exact HIF.out
      ·rw [HSD.out]; exact HRF.out
end Go.Proofs.Ytafhjfkdlmijdaa
