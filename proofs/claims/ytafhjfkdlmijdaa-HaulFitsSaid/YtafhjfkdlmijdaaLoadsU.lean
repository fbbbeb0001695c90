/- Contract: wharfagelaw22.loads: what satellites get, from some numbers, within their rooms. -/
import Derived.Test.YtafhjfkdlmijdaaGb
import Derived.Test.YtafhjfkdlmijdaaGc
namespace Go.Proofs.Ytafhjfkdlmijdaa
open Go.RowKit

def loadU (x : InstD) (l : List Int) (s : Nat) : Int := if s < l.length then l.getD s 0 % ((x.sats.getD s ⟨0, 0⟩).room + 1) else 0
def loadsUp (x : InstD) (l : List Int) (k : Nat) : List Int := (List.range x.sats.length).map fun s => if s < k then loadU x l s else 0
/-- wharfagelaw22.loads -/
def loadsU (x : InstD) (l : List Int) : List Int := loadsUp x l x.sats.length
theorem loadsUp_len (x : InstD) (l : List Int) (k : Nat) : (loadsUp x l k).length = x.sats.length := by unfold loadsUp; simp
theorem loadsUp_zero (x : InstD) (l : List Int) : loadsUp x l 0 = List.replicate x.sats.length 0 := by
  unfold loadsUp; rw [List.eq_replicate_iff]; simp
theorem loadsUp_yes {x : InstD} {l : List Int} {k : Nat} {n r : Int} (h : k < l.length) (hn : l.getD k 0 = n) (hr : (x.sats.getD k ⟨0, 0⟩).room = r) : loadsUp x l (k + 1) = (loadsUp x l k).set k (n % (r + 1)) := by
  apply List.ext_getElem
  · simp [loadsUp]
  · intro i h1 h2
    simp only [loadsUp, List.getElem_set, List.getElem_map, List.getElem_range]
    by_cases e : k = i
    · subst e; rw [if_pos rfl, if_pos (by omega)]; unfold loadU; rw [if_pos h, hn, hr]
    · rw [if_neg e]
      by_cases hc : i < k
      · rw [if_pos hc, if_pos (by omega)]
      · rw [if_neg hc, if_neg (by omega)]
theorem loadsUp_no {x : InstD} {l : List Int} {k : Nat} (h : ¬ k < l.length) : loadsUp x l (k + 1) = loadsUp x l k := by
  unfold loadsUp
  apply List.map_congr_left
  intro i _
  by_cases e : i = k
  · subst e; rw [if_pos (by omega), if_neg (by omega)]; unfold loadU; rw [if_neg h]
  · by_cases hc : i < k
    · rw [if_pos hc, if_pos (by omega)]
    · rw [if_neg hc, if_neg (by omega)]
theorem loadsU_bd {x : InstD} {l : List Int} (hl : ∀ v ∈ l, wf8 v) (hs : ∀ s ∈ x.sats, 0 ≤ s.room) : ∀ s, 0 ≤ (loadsU x l).getD s 0 ∧ (loadsU x l).getD s 0 ≤ 255 ∧ (s < x.sats.length → (loadsU x l).getD s 0 ≤ (x.sats.getD s ⟨0, 0⟩).room) := by
  intro s
  by_cases hlt : s < x.sats.length
  · have h0 : (loadsU x l).getD s 0 = loadU x l s := by
      rw [List.getD_eq_getElem?_getD, List.getElem?_eq_getElem (by unfold loadsU; rw [loadsUp_len]; exact hlt)]
      simp only [loadsU, loadsUp, List.getElem_map, List.getElem_range, Option.getD_some]
      rw [if_pos hlt]
    have h1 : 0 ≤ (x.sats.getD s ⟨0, 0⟩).room := by
      rw [List.getD_eq_getElem?_getD, List.getElem?_eq_getElem hlt]; exact hs _ (List.getElem_mem hlt)
    rw [h0]
    unfold loadU
    generalize (x.sats.getD s ⟨0, 0⟩).room = r at *
    split
    · rename_i hk
      have h2 : wf8 (l.getD s 0) := by rw [List.getD_eq_getElem?_getD, List.getElem?_eq_getElem hk]; exact hl _ (List.getElem_mem hk)
      unfold wf8 at h2
      generalize l.getD s 0 = n at *
      have h3 := Int.emod_nonneg n (show r + 1 ≠ 0 by omega)
      have h4 := Int.emod_lt_of_pos n (show 0 < r + 1 by omega)
      have h5 : n % (r + 1) ≤ n := by
        have := Int.mul_ediv_add_emod n (r + 1)
        have h6 := Int.ediv_nonneg h2.1 (show 0 ≤ r + 1 by omega)
        have h7 := Int.mul_nonneg (show 0 ≤ r + 1 by omega) h6
        omega
      omega
    · omega
  · have h0 : (loadsU x l).getD s 0 = 0 := by
      rw [List.getD_eq_getElem?_getD, List.getElem?_eq_none (by unfold loadsU; rw [loadsUp_len]; omega)]; rfl
    rw [h0]; omega
theorem loadsU_mem {x : InstD} {l : List Int} (hl : ∀ v ∈ l, wf8 v) (hs : ∀ s ∈ x.sats, 0 ≤ s.room) : ∀ v ∈ loadsU x l, 0 ≤ v ∧ v ≤ 255 := fun v hv => by
  obtain ⟨i, hi, rfl⟩ := List.getElem_of_mem hv
  have := loadsU_bd hl hs i
  rw [List.getD_eq_getElem?_getD, List.getElem?_eq_getElem hi] at this
  exact ⟨this.1, this.2.1⟩

set_option maxRecDepth 100000 in
set_option maxHeartbeats 1600000 in
theorem loadsU_c {w : World} {F G : Nat → Prop} {x : InstD} {cs : List Value} {l : List Int} {v : Value} (h : instS.rep w F x cs) (hl : bytesS.rep w G l [v]) (hn : x.sats.length ≤ 1000000)
    (hroom : ∀ s ∈ x.sats, 0 ≤ s.room ∧ s.room ≤ 1000000000) :
    Calls Try.prog 25 #[.agg cs.toArray, v] w fun e w' => ∃ u, e = .returned u ∧ (sliceS intS).rep w' (fun b => w.heap.size ≤ b) (loadsU x l) [u] ∧ Below w.heap.size w w' := by
  obtain ⟨s, c, co, ti, rfl, -, h1, -, -, -⟩ := h
  obtain ⟨a, b, off, c1, hs, -, -, ha, -, hcell, -⟩ := sats_open h1
  obtain rfl := List.cons.inj hs |>.1
  obtain ⟨a2, b2, off2, c2, hs2, hl2, hc2, ha2, -, hcell2, hwf2⟩ := bytes_open hl
  obtain rfl := List.cons.inj hs2 |>.1
  have HWF := hid (show ∀ v ∈ l, wf8 v from hwf2)
  clear hs hs2 h1 hl
  obtain ⟨i0, hi, hz0, hz1, hz2⟩ := info_parts info_i64
  have hmk := make_ints Try.underlying34 hi hz0 hz1 hz2 (n := x.sats.length) hn
  clear hi hz0 hz1 hz2 i0
  have R := Row.new (w := w) (e := 33) (cs := [.int .i64 x.fin, .int .i64 x.tmany, .int .i64 x.troom, .int .i64 x.bmany, .int .i64 x.broom, .slice a x.sats.length c1, c, co, ti]) rfl
  have hb0 : Below w.heap.size w (w.alloc (.cells #[.int .i64 x.fin, .int .i64 x.tmany, .int .i64 x.troom, .int .i64 x.bmany, .int .i64 x.broom, .slice a x.sats.length c1, c, co, ti] 33)) := (Below.refl _ _).alloc (Nat.le_refl _) _
  have hmr := Row.make (w := w.alloc (.cells #[.int .i64 x.fin, .int .i64 x.tmany, .int .i64 x.troom, .int .i64 x.bmany, .int .i64 x.broom, .slice a x.sats.length c1, c, co, ti] 33)) (n := x.sats.length) (e := 2)
  rw [show (w.alloc (.cells #[.int .i64 x.fin, .int .i64 x.tmany, .int .i64 x.troom, .int .i64 x.bmany, .int .i64 x.broom, .slice a x.sats.length c1, c, co, ti] 33)).heap.size = w.heap.size + 1 by simp] at hmr
  have HMR := hid hmr
  clear hmr
  go_enter Try.func25, Try.ntmps25
  go_wp2
  go_loopw [13] (fun i wr => ∃ k : Nat, k ≤ x.sats.length ∧ i = .int .i64 k ∧ Row wr (w.heap.size + 1) 2 ((loadsUp x l k).map intV) ∧
      Row wr w.heap.size 33 [.int .i64 x.fin, .int .i64 x.tmany, .int .i64 x.troom, .int .i64 x.bmany, .int .i64 x.broom, .slice a x.sats.length c1, c, co, ti] ∧ Below w.heap.size w wr) (fun i _ => x.sats.length - (intOf i).toNat)
  case atStart =>
    exact ⟨0, Nat.zero_le _, rfl, by rw [loadsUp_zero]; exact HMR.out, R.alloc _, hb0.alloc (by simp) _⟩
  case round =>
    obtain ⟨k, hk, rfl, hrow, R1, hb⟩ := hrel
    by_cases hlt : k < x.sats.length
    · by_cases hll : k < l.length
      · have hll' : (k : Int) < (l.length : Int) := by omega
        have hx := idx_at1 (c := c2) Try.underlying24 sz_u8 (ha2 (by omega)) hll
        have hxs := idx_at (c := c1) Try.underlying29 sz_sat (ha (by omega)) hlt
        have hxo := idx_at1 (c := x.sats.length) (a := some ⟨w.heap.size + 1, 0, none⟩) (off := 0) Try.underlying34 sz_i64 rfl hlt
        rw [Nat.zero_add] at hxo
        have g0 := below_cell hb (hcell2 k hll)
        have g1 := below_cell hb (hcell k hlt).1
        have hnb := HWF.out _ (List.getElem_mem hll)
        have hrb := hroom _ (List.getElem_mem hlt)
        obtain ⟨n, hn'⟩ : ∃ n, n = l[k] := ⟨_, rfl⟩
        obtain ⟨r, hr'⟩ : ∃ r, r = (x.sats[k]).room := ⟨_, rfl⟩
        have HY := hid (loadsUp_yes (x := x) (l := l) (k := k) (n := n) (r := r) hll (by rw [List.getD_eq_getElem?_getD, List.getElem?_eq_getElem hll, hn']; rfl) (by rw [List.getD_eq_getElem?_getD, List.getElem?_eq_getElem hlt, hr']; rfl))
        rw [← hn'] at g0 hnb
        rw [← hr'] at g1 hrb
        unfold wf8 at hnb
        obtain ⟨q0, q1, q2, q3, q4, q5, q6, q7, q8⟩ := row9 R1
        have hkl : k < ((loadsUp x l k).map intV).length := by rw [List.length_map, loadsUp_len]; exact hlt
        have qo := hrow.cell hkl
        have qf := hrow.frozen k
        obtain ⟨ov, hov⟩ : ∃ ov, ov = ((loadsUp x l k).map intV)[k] := ⟨_, rfl⟩
        rw [← hov] at qo
        have hm1 := Int.emod_nonneg n (show r + 1 ≠ 0 by omega)
        have hm2 := Int.emod_lt_of_pos n (show 0 < r + 1 by omega)
        have HS := hid (show Row (wr.setCell ⟨w.heap.size + 1, k, none⟩ (intV (n % (r + 1)))) (w.heap.size + 1) 2 ((loadsUp x l (k + 1)).map intV) from by
          rw [HY.out, List.map_set]; exact hrow.set hkl _)
        have HR := hid (R1.setOther (a := ⟨w.heap.size + 1, k, none⟩) (by show w.heap.size ≠ w.heap.size + 1; omega) (intV (n % (r + 1))))
        have HB := hid (hb.setCell (p := ⟨w.heap.size + 1, k, none⟩) (by show w.heap.size ≤ w.heap.size + 1; omega) (intV (n % (r + 1))))
        clear hn' hr' hov hkl hrow R1 hcell2 hcell hwf2 ha ha2
        obtain ⟨wq, rfl⟩ : ∃ wq : World, wq = wr := ⟨_, rfl⟩
        go_wp2
        have z0 : ∀ e : At (Old wq), _ := fun e => e.cell g0
        have z1 : ∀ e : At (Old wq), _ := fun e => e.cell g1
        have z2 : ∀ e : At (Old wq), _ := fun e => e.cell q5
        refine wp_region_mix (Old wq) [16] [([0, 1, 2, 3, 4, 5, 6, 7, 8, 9, 10, 11, 12, 13, 14], 15, false), ([], 16, true)] (by kernel_rfl) (by kernel_rfl) (fun _ _ d _ _ h => by cases d <;> exact h) (Old.drew _) ?_
        simp only [mixOf, List.map_cons, List.map_nil, Array.getD_eq_getD_getElem?, List.getElem?_toArray, List.getElem?_cons_succ, List.getElem?_cons_zero, Option.getD_some, wpMix]
        repeat (go_big_quiet_step (fail))
        refine wpQuiet_nil ?_
        go_wp2
        refine ⟨Old.drew _, wpQuiet_nil ?_⟩
        go_wp2
        go_roundw
        case rel => exact ⟨k + 1, by omega, by go_num, HS.out.drew, HR.out.drew, HB.out.drew⟩
        case measure => simp [intOf]; omega
      · have hll' : ¬ (k : Int) < (l.length : Int) := by omega
        have HN := hid (loadsUp_no (x := x) (l := l) hll)
        have HROW := hid hrow
        clear hrow hcell2 hcell hwf2 ha ha2
        go_wp2
        go_roundw
        case rel => exact ⟨k + 1, by omega, by go_num, by rw [HN.out]; exact HROW.out, R1, hb⟩
        case measure => simp [intOf]; omega
    · have hke : k = x.sats.length := by omega
      subst hke
      have hb2 := loadsU_mem (x := x) HWF.out (fun s hs => (hroom s hs).1)
      have HREP := hid (show (sliceS intS).rep wr (fun b => w.heap.size ≤ b) (loadsU x l) [.slice (some ⟨w.heap.size + 1, 0, none⟩) x.sats.length x.sats.length] from by
        have e : (loadsU x l).length = x.sats.length := loadsUp_len _ _ _
        have := ints_rep (F := fun b => w.heap.size ≤ b) (xs := loadsU x l) (g := w.heap.size + 1) (c := x.sats.length) hrow (by rw [e]; exact Nat.le_refl _) (by unfold maxLen; omega) (by show w.heap.size ≤ w.heap.size + 1; omega) (fun v hv => by have := hb2 v hv; unfold wf64; omega)
        rw [e] at this; exact this)
      clear hrow hcell2 hcell hwf2 ha ha2 hb2
      go_wp2
      go_ret
      exact ⟨_, rfl, HREP.out, hb⟩
end Go.Proofs.Ytafhjfkdlmijdaa
