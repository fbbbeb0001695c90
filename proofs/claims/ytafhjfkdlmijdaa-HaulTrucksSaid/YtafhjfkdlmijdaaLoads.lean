/- Contract: plan.Loads: what the bikes of each satellite carry. -/
import Derived.Test.YtafhjfkdlmijdaaInstOwn
import Derived.Test.YtafhjfkdlmijdaaTail
import Derived.Test.YtafhjfkdlmijdaaEq
import Derived.Deep.DeepCutAuto
namespace Go.Proofs.Ytafhjfkdlmijdaa
open Go.RowKit

/-- One customer's load, added. -/
def addLoad (x : InstD) (sat : Int) (out : List Int) (c : Int) : List Int :=
  if 0 ≤ sat ∧ sat < out.length ∧ 0 ≤ c ∧ c < x.custs.length then out.set sat.toNat (out.getD sat.toNat 0 + (x.custs.getD c.toNat ⟨0, 0, 0, 0⟩).load) else out
def addBike (x : InstD) (out : List Int) (b : BikeD) : List Int := b.stops.foldl (addLoad x b.sat) out
/-- plan.Loads -/
def loadsD (x : InstD) (l : List BikeD) : List Int := l.foldl (addBike x) (List.replicate x.sats.length 0)
theorem addLoad_len (x : InstD) (sat : Int) (out : List Int) (c : Int) : (addLoad x sat out c).length = out.length := by
  unfold addLoad; split <;> simp
theorem foldl_take_succ {α β : Type} (f : β → α → β) (b : β) (l : List α) (k : Nat) (h : k < l.length) : (l.take (k + 1)).foldl f b = f ((l.take k).foldl f b) l[k] := by
  rw [List.take_succ_eq_append_getElem h, List.foldl_append]; rfl
theorem addLoads_len (x : InstD) (sat : Int) (l : List Int) : ∀ out : List Int, (l.foldl (addLoad x sat) out).length = out.length := by
  induction l with
  | nil => intro out; rfl
  | cons c l ih => intro out; rw [List.foldl_cons, ih, addLoad_len]
theorem addBikes_len (x : InstD) (l : List BikeD) : ∀ out : List Int, (l.foldl (addBike x) out).length = out.length := by
  induction l with
  | nil => intro out; rfl
  | cons b l ih => intro out; rw [List.foldl_cons, ih]; exact addLoads_len x b.sat b.stops out

/-- No entry is below nothing, or above so many loads. -/
def Small9 (out : List Int) (cnt : Nat) : Prop := ∀ v ∈ out, 0 ≤ v ∧ v ≤ 1000000000 * (cnt : Int)
theorem Small9.mono {out : List Int} {a b : Nat} (h : Small9 out a) (hab : a ≤ b) : Small9 out b := fun v hv => ⟨(h v hv).1, Int.le_trans (h v hv).2 (by omega)⟩
theorem Small9.zero (n : Nat) : Small9 (List.replicate n 0) 0 := fun v hv => by rw [List.eq_of_mem_replicate hv]; decide
theorem Small9.get {out : List Int} {cnt : Nat} (h : Small9 out cnt) {i : Nat} (hi : i < out.length) : 0 ≤ out[i] ∧ out[i] ≤ 1000000000 * (cnt : Int) := h _ (List.getElem_mem hi)
theorem Small9.add {out : List Int} {cnt : Nat} (h : Small9 out cnt) {i : Nat} {a b : Int} (ha : 0 ≤ a ∧ a ≤ 1000000000 * (cnt : Int)) (hb : 0 ≤ b ∧ b ≤ 1000000000) : Small9 (out.set i (a + b)) (cnt + 1) := fun v hv => by
  rcases List.mem_or_eq_of_mem_set hv with hv | rfl
  · have := h v hv; exact ⟨this.1, by push_cast; omega⟩
  · exact ⟨by omega, by push_cast; omega⟩

/-- How many stops the first so many bikes have. -/
def stopsUp (l : List BikeD) (k : Nat) : Nat := ((l.take k).map fun b => b.stops.length).sum
theorem stopsUp_succ {l : List BikeD} {k : Nat} (h : k < l.length) : stopsUp l (k + 1) = stopsUp l k + l[k].stops.length := by
  unfold stopsUp; rw [List.take_succ_eq_append_getElem h, List.map_append, List.sum_append]; simp only [List.map_cons, List.map_nil, List.sum_cons, List.sum_nil, Nat.add_zero]
theorem stopsUp_le {l : List BikeD} {k : Nat} : stopsUp l k ≤ stopsUp l l.length := by
  have h : l.map (fun b => b.stops.length) = (l.take k).map (fun b => b.stops.length) ++ (l.drop k).map (fun b => b.stops.length) := by rw [← List.map_append, List.take_append_drop]
  unfold stopsUp
  rw [List.take_length, h, List.sum_append]
  exact Nat.le_add_right _ _

set_option maxRecDepth 100000 in
set_option maxHeartbeats 1600000 in
theorem loads_c {w : World} {F G : Nat → Prop} {x : InstD} {cs : List Value} {l : List BikeD} {v : Value} (h : instS.rep w F x cs) (hl : bikesS.rep w G l [v]) (hn : x.sats.length ≤ 1000000)
    (hcu : ∀ c ∈ x.custs, 0 ≤ c.load ∧ c.load ≤ 1000000000) (ht : stopsUp l l.length ≤ 1000000) :
    Calls Try.prog 36 #[.agg cs.toArray, v] w fun e w' => ∃ g, e = .returned (.slice (some ⟨g, 0, none⟩) x.sats.length x.sats.length) ∧ Row w' g 2 ((loadsD x l).map intV) ∧ w.heap.size ≤ g ∧ Below w.heap.size w w' := by
  obtain ⟨s, c, co, ti, rfl, -, h1, h2, -, -⟩ := h
  obtain ⟨a, b, off, c1, hs, -, -, -, -, -, -⟩ := sats_open h1
  obtain ⟨a', b', off', c1', hs', hlc', hc', ha', -, hcell', -⟩ := custs_open h2
  obtain rfl := List.cons.inj hs |>.1
  obtain rfl := List.cons.inj hs' |>.1
  obtain ⟨a2, b2, off2, c2, hs2, hl2, hc2, ha2, -, hcell2⟩ := bikes_open hl
  obtain rfl := List.cons.inj hs2 |>.1
  clear hs hs' hs2 h1 h2 hl
  obtain ⟨i0, hi, hz0, hz1, hz2⟩ := info_parts info_i64
  have hmk := make_ints Try.underlying34 hi hz0 hz1 hz2 (n := x.sats.length) hn
  clear hi hz0 hz1 hz2 i0
  go_enter Try.func36, Try.ntmps36
  go_wp2
  go_loopw [16] (fun i wr => ∃ (k : Nat) (out : List Int), k ≤ l.length ∧ i = .int .i64 k ∧ out = (l.take k).foldl (addBike x) (List.replicate x.sats.length 0) ∧ Small9 out (stopsUp l k) ∧ Row wr (w.heap.size + 1) 2 (out.map intV) ∧
      Below w.heap.size w wr ∧ wr.cell? ⟨w.heap.size, 6, none⟩ = some (.slice a' x.custs.length c1')) (fun i _ => l.length - (intOf i).toNat)
  case atStart => exact ⟨0, _, Nat.zero_le _, rfl, rfl, Small9.zero _, by have := Row.make (w := w.alloc (.cells #[.int .i64 x.fin, .int .i64 x.tmany, .int .i64 x.troom, .int .i64 x.bmany, .int .i64 x.broom, .slice a x.sats.length c1, .slice a' x.custs.length c1', co, ti] 33)) (n := x.sats.length) (e := 2); simpa using this, ((Below.refl _ _).alloc (Nat.le_refl _) _).alloc (by simp) _, by simp⟩
  case round =>
    obtain ⟨k, out, hk, rfl, hout, hsm, hrow, hb, q6⟩ := hrel
    obtain ⟨wo, rfl⟩ : ∃ wo : World, wo = wr := ⟨_, rfl⟩
    have HOUT := hid hout
    have HSM := hid hsm
    have HROW := hid hrow
    have hol : out.length = x.sats.length := by rw [hout, addBikes_len]; simp
    have hz : w.heap.size + 1 < wo.heap.size := hrow.lt
    have hz0 : w.heap.size < wo.heap.size := by omega
    clear hout hsm hrow
    by_cases hlt : k < l.length
    · have hx := idx_at (c := c2) Try.underlying44 sz_bike (ha2 (by omega)) hlt
      obtain ⟨sv, g0, g1, hwf, hr⟩ := hcell2 k hlt
      obtain ⟨st, hst⟩ : ∃ st, st = l[k].sat := ⟨_, rfl⟩
      obtain ⟨sp, hsp⟩ : ∃ sp, sp = l[k].stops := ⟨_, rfl⟩
      rw [← hst] at g0 hwf
      rw [← hsp] at hr
      obtain ⟨a3, b3, off3, c3, hs3, hl3, hc3, ha3, -, hcell3, hwf3⟩ := ints_open hr
      obtain rfl := List.cons.inj hs3 |>.1
      have p0 := below_cell hb g0
      have p1 := below_cell hb g1
      have hcnt := stopsUp_succ hlt
      rw [← hsp] at hcnt
      have hcl := stopsUp_le (l := l) (k := k + 1)
      have HCNT := hid hcnt
      have HB := hid (show l[k] = ⟨st, sp⟩ from by rw [hst, hsp])
      have HF := hid (foldl_take_succ (addBike x) (List.replicate x.sats.length 0) l k hlt)
      clear hcell2 ha2 hs3 hr g0 g1 hst hsp
      have hsl : (sp.length : Int) ≤ 1000000 := by omega
      go_wp2
      go_loopw [9, 23] (fun cc jj wx => ∃ (j : Nat) (o2 : List Int), j ≤ sp.length ∧ jj = .int .i64 j ∧ o2 = (sp.take j).foldl (addLoad x st) out ∧ Small9 o2 (stopsUp l k + j) ∧ Row wx (w.heap.size + 1) 2 (o2.map intV) ∧
          Below w.heap.size w wx ∧ wx.cell? ⟨w.heap.size, 6, none⟩ = some (.slice a' x.custs.length c1') ∧ wx.cell? ⟨wo.heap.size, 0, none⟩ = some (.int .i64 st) ∧ wo.heap.size < wx.heap.size) (fun _ jj _ => sp.length - (intOf jj).toNat)
      case atStart =>
        refine ⟨0, _, Nat.zero_le _, rfl, rfl, HSM.out, HROW.out.alloc _, hb.alloc hb.size _, ?_, by simp, by simp⟩
        exact below_cell ((Below.refl _ _).alloc (Nat.le_refl _) _) q6
      case round =>
        obtain ⟨j, o2, hj, rfl, ho2, hs2, hr2, hb2, q6', q0, hzx⟩ := hrel
        clear q6
        obtain ⟨wi, rfl⟩ : ∃ wi : World, wi = wr := ⟨_, rfl⟩
        by_cases hjt : j < sp.length
        · have hy := idx_at1 (c := c3) Try.underlying49 sz_int (ha3 (by omega)) hjt
          have g3 := below_cell hb2 (hcell3 j hjt)
          obtain ⟨c, hc⟩ : ∃ c, c = sp[j] := ⟨_, rfl⟩
          rw [← hc] at g3
          have HC := hid hc
          have HTS := hid (foldl_take_succ (addLoad x st) out sp j hjt)
          have HO2 := hid ho2
          have HS2 := hid hs2
          have HR2 := hid hr2
          have h2l : o2.length = x.sats.length := by rw [ho2, addLoads_len, hol]
          clear hc ho2 hs2 hr2
          by_cases ee : (0 ≤ st ∧ st < x.sats.length) ∧ 0 ≤ c ∧ c < x.custs.length
          · obtain ⟨⟨e1, e2⟩, e3, e4⟩ := ee
            have hic := idx_at (c := c1') Try.underlying30 sz_cust (ha' (by omega)) (k := c.toNat) (n := x.custs.length) (by omega)
            have his := idx_at1 (c := x.sats.length) Try.underlying34 sz_i64 (a := some ⟨w.heap.size + 1, 0, none⟩) rfl (k := st.toNat) (n := x.sats.length) (by omega)
            rw [Int.toNat_of_nonneg e3] at hic
            rw [Int.toNat_of_nonneg e1, Nat.zero_add] at his
            have hcl0 := (hcell' c.toNat (by omega)).1
            have hld := hcu _ (List.getElem_mem (l := x.custs) (n := c.toNat) (by omega))
            obtain ⟨ld, hlde⟩ : ∃ ld, ld = (x.custs[c.toNat]'(by omega)).load := ⟨_, rfl⟩
            rw [← hlde] at hcl0 hld
            have hov := HS2.out.get (i := st.toNat) (by omega)
            have hoc := HR2.out.cell (j := st.toNat) (by rw [List.length_map]; omega)
            rw [List.getElem_map] at hoc
            have hof := HR2.out.frozen st.toNat
            obtain ⟨ov, hove⟩ : ∃ ov, ov = o2[st.toNat]'(by omega) := ⟨_, rfl⟩
            rw [← hove] at hov hoc
            unfold intV at hoc
            have HN := hid (show addLoad x st o2 c = o2.set st.toNat (ov + ld) from by
              unfold addLoad; rw [if_pos (by rw [h2l]; omega), hove, hlde, List.getD_eq_getElem?_getD, List.getD_eq_getElem?_getD, List.getElem?_eq_getElem (by omega), List.getElem?_eq_getElem (by omega)]; rfl)
            have hcl1 := below_cell hb2 hcl0
            have HSM2 := hid (HS2.out.add (i := st.toNat) hov hld)
            clear hove hlde hcl0
            have hbd : 1000000000 * ((stopsUp l k + j : Nat) : Int) ≤ 1000000000 * 1000000 := by omega
            go_wp2
            have z0 : ∀ e : At (Old wi), _ := fun e => e.cell q0
            have z1 : ∀ e : At (Old wi), _ := fun e => e.cell hoc
            have z2 : ∀ e : At (Old wi), _ := fun e => e.cell q6'
            have z3 : ∀ e : At (Old wi), _ := fun e => e.cell hcl1
            refine wp_region_mix (Old wi) [13] [([0, 1, 2, 3, 4, 5, 6, 7, 8, 9, 10, 11], 12, false), ([], 13, true)] (by kernel_rfl) (by kernel_rfl) (fun _ _ d _ _ h => by cases d <;> exact h) (Old.drew _) ?_
            simp only [mixOf, List.map_cons, List.map_nil, Array.getD_eq_getD_getElem?, List.getElem?_toArray, List.getElem?_cons_succ, List.getElem?_cons_zero, Option.getD_some, wpMix]
            repeat (go_big_quiet_step (fail))
            refine wpQuiet_nil ?_
            go_wp2
            refine ⟨Old.drew _, wpQuiet_nil ?_⟩
            go_wp2
            go_roundw
            case rel =>
              have hr3 := HR2.out.drew.set (j := st.toNat) (by rw [List.length_map]; omega) (intV (ov + ld))
              rw [← List.map_set] at hr3
              refine ⟨j + 1, o2.set st.toNat (ov + ld), by omega, by go_num, by rw [HTS.out, ← HO2.out, ← HC.out, HN.out], HSM2.out, hr3, ?_, ?_, ?_, ?_⟩
              · exact (hb2.drew).setCell (by simp) _
              · exact (World.cell?_of_block (w := wi) (Below.heap_setCell _ _ _ _ (by show w.heap.size ≠ w.heap.size + 1; omega))).trans q6'
              · exact (World.cell?_of_block (w := wi) (Below.heap_setCell _ _ _ _ (by show wo.heap.size ≠ w.heap.size + 1; omega))).trans q0
              · simpa using hzx
            case measure => simp [intOf]; omega
          · have HN := hid (show addLoad x st o2 c = o2 from by unfold addLoad; rw [if_neg (by rw [h2l]; omega)])
            by_cases e1 : 0 ≤ st
            · by_cases e2 : st < x.sats.length
              · by_cases e3 : 0 ≤ c
                · have e4 : ¬ c < x.custs.length := by omega
                  clear ee
                  go_wp2
                  go_roundw
                  case rel => exact ⟨j + 1, o2, by omega, by go_num, by rw [HTS.out, ← HO2.out, ← HC.out, HN.out], HS2.out.mono (by omega), HR2.out, hb2, q6', q0, hzx⟩
                  case measure => simp [intOf]; omega
                · clear ee
                  go_wp2
                  go_roundw
                  case rel => exact ⟨j + 1, o2, by omega, by go_num, by rw [HTS.out, ← HO2.out, ← HC.out, HN.out], HS2.out.mono (by omega), HR2.out, hb2, q6', q0, hzx⟩
                  case measure => simp [intOf]; omega
              · clear ee
                go_wp2
                go_roundw
                case rel => exact ⟨j + 1, o2, by omega, by go_num, by rw [HTS.out, ← HO2.out, ← HC.out, HN.out], HS2.out.mono (by omega), HR2.out, hb2, q6', q0, hzx⟩
                case measure => simp [intOf]; omega
            · clear ee
              go_wp2
              go_roundw
              case rel => exact ⟨j + 1, o2, by omega, by go_num, by rw [HTS.out, ← HO2.out, ← HC.out, HN.out], HS2.out.mono (by omega), HR2.out, hb2, q6', q0, hzx⟩
              case measure => simp [intOf]; omega
        · have hjl : j = sp.length := by omega
          subst hjl
          go_wp2
          go_roundw
          case rel => exact ⟨k + 1, o2, by omega, by go_num, by rw [HF.out, HB.out, ← HOUT.out, ho2, List.take_length]; rfl, by rw [HCNT.out]; exact hs2, hr2, hb2, q6'⟩
          case measure => simp [intOf]; omega
    · have hkl : k = l.length := by omega
      subst hkl
      have HL := hid (show loadsD x l = out from by rw [HOUT.out, List.take_length]; rfl)
      clear hcell2 ha2
      go_wp2
      go_ret
      exact ⟨_, rfl, by rw [HL.out]; exact HROW.out, by omega, hb⟩
end Go.Proofs.Ytafhjfkdlmijdaa
