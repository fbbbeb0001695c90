/- Contract: plan.Plan.drops: what trucks leave at each satellite. -/
import Derived.Test.YtafhjfkdlmijdaaLoads
import Derived.Test.YtafhjfkdlmijdaaSame
namespace Go.Proofs.Ytafhjfkdlmijdaa
open Go.RowKit

/-- One stop's load, left. -/
def addStop (out : List Int) (s : StopD) : List Int := out.set s.sat.toNat (out.getD s.sat.toNat 0 + s.load)
def addTruck (out : List Int) (t : List StopD) : List Int := t.foldl addStop out
/-- plan.drops -/
def dropsD (x : InstD) (l : List (List StopD)) : List Int := l.foldl addTruck (List.replicate x.sats.length 0)
theorem addStop_len (out : List Int) (s : StopD) : (addStop out s).length = out.length := by unfold addStop; simp
theorem addStops_len (l : List StopD) : ∀ out : List Int, (l.foldl addStop out).length = out.length := by
  induction l with
  | nil => intro out; rfl
  | cons c l ih => intro out; rw [List.foldl_cons, ih, addStop_len]
theorem addTrucks_len (l : List (List StopD)) : ∀ out : List Int, (l.foldl addTruck out).length = out.length := by
  induction l with
  | nil => intro out; rfl
  | cons b l ih => intro out; rw [List.foldl_cons, ih]; exact addStops_len b out
/-- How many stops the first so many trucks have. -/
def tstopsUp (l : List (List StopD)) (k : Nat) : Nat := ((l.take k).map List.length).sum
theorem tstopsUp_succ {l : List (List StopD)} {k : Nat} (h : k < l.length) : tstopsUp l (k + 1) = tstopsUp l k + l[k].length := by
  unfold tstopsUp; rw [List.take_succ_eq_append_getElem h, List.map_append, List.sum_append]; simp only [List.map_cons, List.map_nil, List.sum_cons, List.sum_nil, Nat.add_zero]
theorem tstopsUp_le {l : List (List StopD)} {k : Nat} : tstopsUp l k ≤ tstopsUp l l.length := by
  have h : l.map List.length = (l.take k).map List.length ++ (l.drop k).map List.length := by rw [← List.map_append, List.take_append_drop]
  unfold tstopsUp
  rw [List.take_length, h, List.sum_append]
  exact Nat.le_add_right _ _
def StopOk (x : InstD) (s : StopD) : Prop := (0 ≤ s.sat ∧ s.sat < x.sats.length) ∧ 1 ≤ s.load ∧ s.load ≤ 1000000000

set_option maxRecDepth 100000 in
set_option maxHeartbeats 1600000 in
theorem drops_c {w : World} {F G : Nat → Prop} {x : InstD} {p : PlanD} {cs ps : List Value} (h : instS.rep w F x cs) (hp : planS.rep w G p ps) (hn : x.sats.length ≤ 1000000)
    (hok : ∀ t ∈ p.trucks, ∀ s ∈ t, StopOk x s) (ht : tstopsUp p.trucks p.trucks.length ≤ 1000000) :
    Calls Try.prog 71 #[.agg ps.toArray, .agg cs.toArray] w fun e w' => ∃ g, e = .returned (.slice (some ⟨g, 0, none⟩) x.sats.length x.sats.length) ∧ Row w' g 2 ((dropsD x p.trucks).map intV) ∧ w.heap.size ≤ g ∧ Below w.heap.size w w' := by
  obtain ⟨s, c, co, ti, rfl, -, h1, h2, -, -⟩ := h
  obtain ⟨a, b, off, c1, hs, -, -, -, -, -, -⟩ := sats_open h1
  obtain rfl := List.cons.inj hs |>.1
  obtain ⟨tv, bv, rfl, h3, -⟩ := hp
  obtain ⟨a2, b2, off2, c2, hs2, hl2, hc2, ha2, -, hcell2⟩ := trucks_open h3
  obtain rfl := List.cons.inj hs2 |>.1
  clear hs hs2 h1 h2 h3
  obtain ⟨i0, hi, hz0, hz1, hz2⟩ := info_parts info_i64
  have hmk := make_ints Try.underlying34 hi hz0 hz1 hz2 (n := x.sats.length) hn
  clear hi hz0 hz1 hz2 i0
  go_enter Try.func71, Try.ntmps71
  go_wp2
  go_loopw [17] (fun i wr => ∃ (k : Nat) (out : List Int), k ≤ p.trucks.length ∧ i = .int .i64 k ∧ out = (p.trucks.take k).foldl addTruck (List.replicate x.sats.length 0) ∧ Small9 out (tstopsUp p.trucks k) ∧ Row wr (w.heap.size + 2) 2 (out.map intV) ∧
      Below w.heap.size w wr) (fun i _ => p.trucks.length - (intOf i).toNat)
  case atStart => exact ⟨0, _, Nat.zero_le _, rfl, rfl, Small9.zero _, by have := Row.make (w := (w.alloc (.cells #[.slice a2 p.trucks.length c2, bv] 46)).alloc (.cells #[.int .i64 x.fin, .int .i64 x.tmany, .int .i64 x.troom, .int .i64 x.bmany, .int .i64 x.broom, .slice a x.sats.length c1, c, co, ti] 33)) (n := x.sats.length) (e := 2); simpa using this, (((Below.refl _ _).alloc (Nat.le_refl _) _).alloc (by simp) _).alloc (by simp; omega) _⟩
  case round =>
    obtain ⟨k, out, hk, rfl, hout, hsm, hrow, hb⟩ := hrel
    obtain ⟨wo, rfl⟩ : ∃ wo : World, wo = wr := ⟨_, rfl⟩
    have HOUT := hid hout
    have HSM := hid hsm
    have HROW := hid hrow
    have hol : out.length = x.sats.length := by rw [hout, addTrucks_len]; simp
    have hz : w.heap.size + 2 < wo.heap.size := hrow.lt
    have hz0 : w.heap.size < wo.heap.size := by omega
    clear hout hsm hrow
    by_cases hlt : k < p.trucks.length
    · have hx := idx_at1 (c := c2) Try.underlying39 sz_truck (ha2 (by omega)) hlt
      obtain ⟨sv, g0, hr⟩ := hcell2 k hlt
      obtain ⟨sp, hsp⟩ : ∃ sp, sp = p.trucks[k] := ⟨_, rfl⟩
      have hokk := hok _ (List.getElem_mem hlt)
      rw [← hsp] at hr hokk
      obtain ⟨a3, b3, off3, c3, hs3, hl3, hc3, ha3, -, hcell3, hwf3⟩ := stops_open hr
      obtain rfl := List.cons.inj hs3 |>.1
      have p0 := below_cell hb g0
      have hcnt := tstopsUp_succ hlt
      rw [← hsp] at hcnt
      have hcl := tstopsUp_le (l := p.trucks) (k := k + 1)
      have HCNT := hid hcnt
      have HB := hid (show p.trucks[k] = sp from hsp.symm)
      have HF := hid (foldl_take_succ addTruck (List.replicate x.sats.length 0) p.trucks k hlt)
      clear hcell2 ha2 hs3 hr g0 hsp hok
      have hsl : (sp.length : Int) ≤ 1000000 := by omega
      go_wp2
      go_loopw [24] (fun jj wx => ∃ (j : Nat) (o2 : List Int), j ≤ sp.length ∧ jj = .int .i64 j ∧ o2 = (sp.take j).foldl addStop out ∧ Small9 o2 (tstopsUp p.trucks k + j) ∧ Row wx (w.heap.size + 2) 2 (o2.map intV) ∧
          Below w.heap.size w wx ∧ wo.heap.size < wx.heap.size) (fun jj _ => sp.length - (intOf jj).toNat)
      case atStart => exact ⟨0, _, Nat.zero_le _, rfl, rfl, HSM.out, HROW.out.alloc _, hb.alloc hb.size _, by simp⟩
      case round =>
        obtain ⟨j, o2, hj, rfl, ho2, hs2, hr2, hb2, hzx⟩ := hrel
        obtain ⟨wi, rfl⟩ : ∃ wi : World, wi = wr := ⟨_, rfl⟩
        by_cases hjt : j < sp.length
        · have hy := idx_at (c := c3) Try.underlying106 sz_stop (ha3 (by omega)) hjt
          have g3 := below_cell hb2 (hcell3 j hjt).1
          have g4 := below_cell hb2 (hcell3 j hjt).2
          have hst := hokk _ (List.getElem_mem hjt)
          obtain ⟨c, hc⟩ : ∃ c, c = sp[j] := ⟨_, rfl⟩
          rw [← hc] at g3 g4 hst
          obtain ⟨st, ld⟩ := c
          simp only [] at g3 g4
          have HC := hid hc
          have HTS := hid (foldl_take_succ addStop out sp j hjt)
          have HO2 := hid ho2
          have HS2 := hid hs2
          have HR2 := hid hr2
          have h2l : o2.length = x.sats.length := by rw [ho2, addStops_len, hol]
          obtain ⟨⟨e1, e2⟩, hld⟩ := hst
          simp only [] at e1 e2 hld
          clear hc ho2 hs2 hr2
          have his := idx_at1 (c := x.sats.length) Try.underlying34 sz_i64 (a := some ⟨w.heap.size + 2, 0, none⟩) rfl (k := st.toNat) (n := x.sats.length) (by omega)
          rw [Int.toNat_of_nonneg e1, Nat.zero_add] at his
          have hov := HS2.out.get (i := st.toNat) (by omega)
          have hoc := HR2.out.cell (j := st.toNat) (by rw [List.length_map]; omega)
          rw [List.getElem_map] at hoc
          have hof := HR2.out.frozen st.toNat
          obtain ⟨ov, hove⟩ : ∃ ov, ov = o2[st.toNat]'(by omega) := ⟨_, rfl⟩
          rw [← hove] at hov hoc
          unfold intV at hoc
          have HN := hid (show addStop o2 ⟨st, ld⟩ = o2.set st.toNat (ov + ld) from by
            show o2.set st.toNat (o2.getD st.toNat 0 + ld) = _
            rw [hove, List.getD_eq_getElem?_getD, List.getElem?_eq_getElem (by omega)]; rfl)
          have HSM2 := hid (HS2.out.add (i := st.toNat) hov (b := ld) ⟨by omega, by omega⟩)
          clear hove
          have hbd : 1000000000 * ((tstopsUp p.trucks k + j : Nat) : Int) ≤ 1000000000 * 1000000 := by omega
          have hzi : w.heap.size + 2 < wi.heap.size := by omega
          go_wp2
          generalize hwq : wi.alloc (.cells #[.int .i64 st, .int .i64 ld] 105) = wq
          have HWQ := hid hwq
          have hob : Old wi wq := by rw [← hwq]; exact (Below.refl _ _).alloc (Nat.le_refl _) _
          have k0 : wq.cell? ⟨wi.heap.size, 0, none⟩ = some (.int .i64 st) := by rw [← hwq]; simp
          have k1 : wq.cell? ⟨wi.heap.size, 1, none⟩ = some (.int .i64 ld) := by rw [← hwq]; simp
          have k2 := hob.cell' hoc
          have k3 := (HR2.out.below hob).frozen st.toNat
          have k4 := hb2.trans (hob.mono hb2.size)
          have HR3 := hid (HR2.out.below hob)
          have hsz : wi.heap.size < wq.heap.size := by rw [← hwq]; simp
          clear hwq hob hoc hof
          have z0 : ∀ e : At (Old wq), _ := fun e => e.cell k0
          have z1 : ∀ e : At (Old wq), _ := fun e => e.cell k1
          have z2 : ∀ e : At (Old wq), _ := fun e => e.cell k2
          refine wp_region_mix (Old wq) [9] [([0, 1, 2, 3, 4, 5, 6, 7], 8, false), ([], 9, true)] (by kernel_rfl) (by kernel_rfl) (fun _ _ d _ _ h => by cases d <;> exact h) (Old.drew _) ?_
          simp only [mixOf, List.map_cons, List.map_nil, Array.getD_eq_getD_getElem?, List.getElem?_toArray, List.getElem?_cons_succ, List.getElem?_cons_zero, Option.getD_some, wpMix]
          repeat (go_big_quiet_step (fail))
          refine wpQuiet_nil ?_
          go_wp2
          refine ⟨Old.drew _, wpQuiet_nil ?_⟩
          go_wp2
          go_roundw
          case rel =>
            have hr3 := HR3.out.drew.set (j := st.toNat) (by rw [List.length_map]; omega) (intV (ov + ld))
            rw [← List.map_set] at hr3
            refine ⟨j + 1, o2.set st.toNat (ov + ld), by omega, by go_num, by rw [HTS.out, ← HO2.out, ← HC.out, HN.out], HSM2.out, hr3, ?_, ?_⟩
            · exact (k4.drew).setCell (by simp) _
            · simp; omega
          case measure => simp [intOf]; omega
        · have hjl : j = sp.length := by omega
          subst hjl
          go_wp2
          go_roundw
          case rel => exact ⟨k + 1, o2, by omega, by go_num, by rw [HF.out, HB.out, ← HOUT.out, ho2, List.take_length]; rfl, by rw [HCNT.out]; exact hs2, hr2, hb2⟩
          case measure => simp [intOf]; omega
    · have hkl : k = p.trucks.length := by omega
      subst hkl
      have HL := hid (show dropsD x p.trucks = out from by rw [HOUT.out, List.take_length]; rfl)
      clear hcell2 ha2
      go_wp2
      go_ret
      exact ⟨_, rfl, by rw [HL.out]; exact HROW.out, by omega, hb⟩
end Go.Proofs.Ytafhjfkdlmijdaa
