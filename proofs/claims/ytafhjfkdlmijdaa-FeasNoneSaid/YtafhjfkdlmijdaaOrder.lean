/- Contract: haul.Order. -/
import Derived.Test.YtafhjfkdlmijdaaStable
import Derived.Test.YtafhjfkdlmijdaaGd
import Derived.Test.YtafhjfkdlmijdaaGb
namespace Go.Proofs.Ytafhjfkdlmijdaa
open Go.RowKit

/-- All blocks but one are as they were. -/
def OldBut (row : Option Nat) (W w' : World) : Prop := W.heap.size ≤ w'.heap.size ∧ ∀ b, b < W.heap.size → some b ≠ row → w'.heap[b]? = W.heap[b]?
instance (row : Option Nat) (W : World) : Nonempty (At (OldBut row W)) := ⟨⟨W, Nat.le_refl _, fun _ _ _ => rfl⟩⟩
theorem OldBut.cell {row : Option Nat} {W w' : World} (h : OldBut row W w') {a : Addr} {v : Value} (hc : W.cell? a = some v) (hne : some a.block ≠ row) : w'.cell? a = some v := by
  rw [World.cell?_of_block (h.2 _ (cell_lt hc) hne)]; exact hc
theorem OldBut.refl (row : Option Nat) (W : World) : OldBut row W W := ⟨Nat.le_refl _, fun _ _ _ => rfl⟩
theorem OldBut.drew {row : Option Nat} {W w' : World} (h : OldBut row W w') : OldBut row W w'.drew := h
theorem OldBut.below {row : Option Nat} {W w1 w2 : World} (h : OldBut row W w1) (hb : Below w1.heap.size w1 w2) : OldBut row W w2 := ⟨Nat.le_trans h.1 hb.size, fun b hb' hne => (hb.block b (Nat.lt_of_lt_of_le hb' h.1)).trans (h.2 b hb' hne)⟩
theorem OldBut.grown {row : Option Nat} {W w1 w2 : World} (h : OldBut row W w1) (hg : w1.grownBy w2 row) : OldBut row W w2 := ⟨Nat.le_trans h.1 hg.size, fun b hb' hne => (hg.block b (Nat.lt_of_lt_of_le hb' h.1) hne).trans (h.2 b hb' hne)⟩

theorem ne_own_old {w : World} {B T n k b : Nat} {v : Value} {xs : List Value} (h : w.ownsRow B T k v n xs) (hb : b < B) : some b ≠ v.ownBlock := fun e => by have := (h.lt b e.symm).1; omega
theorem ne_own_row {w : World} {B T n k g : Nat} {v : Value} {xs : List Value} {e : TypeId} {cs : List Value} (h : w.ownsRow B T k v n xs) (hr : Row w g e cs) (he : e ≠ T) : some g ≠ v.ownBlock := fun e' => by obtain ⟨cs', hc'⟩ := ownBlock_row h e'.symm; exact hr.ne hc' he rfl
theorem grown_set (w : World) (a : Addr) (u : Value) : w.grownBy (w.setCell a u) (some a.block) := ⟨rfl, rfl, rfl, by simp [World.setCell], fun k _ hk => Below.heap_setCell _ _ _ _ (fun e => hk (by rw [e]))⟩
theorem owns_setApart {w : World} {B T n k g : Nat} {v : Value} {xs : List Value} {e : TypeId} {cs : List Value} (h : w.ownsRow B T k v n xs) (hr : Row w g e cs) (he : e ≠ T) (j : Nat) (u : Value) : (w.setCell ⟨g, j, none⟩ u).ownsRow B T k v n xs :=
  h.kept (grown_set w ⟨g, j, none⟩ u) (.inr fun e' => ne_own_row h hr he e'.symm)
def idxs (loads : List Int) (k : Nat) : List Nat := (List.range k).filter fun s => decide (0 < loads.getD s 0)
def keysUp (x : InstD) (loads : List Int) (k : Nat) : List Nat := (List.range loads.length).map fun s => if s < k ∧ 0 < loads.getD s 0 then ratioF (costAt x 0 (1 + s)) (loads.getD s 0) else 0
/-- haul.Order -/
def orderD (x : InstD) (loads : List Int) : List Nat := if check x = 0 ∧ loads.length = x.sats.length then sortD (ltK (keysUp x loads loads.length)) (idxs loads loads.length) else []
theorem idxs_yes {l : List Int} {k : Nat} (h : 0 < l.getD k 0) : idxs l (k + 1) = idxs l k ++ [k] := by unfold idxs; rw [List.range_succ, List.filter_append, List.filter_cons, decide_eq_true h]; rfl
theorem idxs_no {l : List Int} {k : Nat} (h : ¬ 0 < l.getD k 0) : idxs l (k + 1) = idxs l k := by unfold idxs; rw [List.range_succ, List.filter_append, List.filter_cons, decide_eq_false h]; simp
theorem idxs_len (l : List Int) (k : Nat) : (idxs l k).length ≤ k := by have := List.length_filter_le (fun s => decide (0 < l.getD s 0)) (List.range k); rw [List.length_range] at this; exact this
theorem idxs_lt {l : List Int} {k i : Nat} (h : i ∈ idxs l k) : i < k := by unfold idxs at h; exact List.mem_range.1 (List.mem_filter.1 h).1
theorem keysUp_len (x : InstD) (l : List Int) (k : Nat) : (keysUp x l k).length = l.length := by unfold keysUp; simp
theorem keysUp_zero (x : InstD) (l : List Int) : keysUp x l 0 = List.replicate l.length 0 := by
  unfold keysUp; rw [List.eq_replicate_iff]; simp
theorem keysUp_yes {x : InstD} {l : List Int} {k : Nat} (h : 0 < l.getD k 0) : keysUp x l (k + 1) = (keysUp x l k).set k (ratioF (costAt x 0 (1 + k)) (l.getD k 0)) := by
  apply List.ext_getElem
  · simp [keysUp]
  · intro i h1 h2
    simp only [keysUp, List.getElem_set, List.getElem_map, List.getElem_range]
    by_cases e : k = i
    · subst e; rw [if_pos rfl, if_pos ⟨by omega, h⟩]
    · rw [if_neg e]
      by_cases hc : i < k ∧ 0 < l.getD i 0
      · rw [if_pos hc, if_pos ⟨by omega, hc.2⟩]
      · rw [if_neg hc, if_neg (fun hh => hc ⟨by omega, hh.2⟩)]
theorem keysUp_no {x : InstD} {l : List Int} {k : Nat} (h : ¬ 0 < l.getD k 0) : keysUp x l (k + 1) = keysUp x l k := by
  unfold keysUp
  apply List.map_congr_left
  intro i _
  by_cases hc : i < k ∧ 0 < l.getD i 0
  · rw [if_pos hc, if_pos ⟨by omega, hc.2⟩]
  · rw [if_neg hc, if_neg (fun hh => hc ⟨?_, hh.2⟩)]
    have : i ≠ k := by rintro rfl; exact h hh.2
    omega
theorem keysUp_bd {x : InstD} (g : Good x) {l : List Int} (hl : ∀ v ∈ l, wf64 v) (k : Nat) : ∀ v ∈ keysUp x l k, v ≤ fInf := by
  intro v hv
  simp only [keysUp, List.mem_map, List.mem_range] at hv
  obtain ⟨s, hs, rfl⟩ := hv
  split
  · rename_i hc
    have h1 := costAt_bd g 0 (1 + s)
    have h2 : wf64 (l.getD s 0) := by rw [List.getD_eq_getElem?_getD, List.getElem?_eq_getElem hs]; exact hl _ (List.getElem_mem hs)
    unfold wf64 at h2
    exact (ratio_some h1.1 (by omega) hc.2 (by omega)).2
  · exact Nat.zero_le _
theorem make_floats {P : Program} {t e : TypeId} {i : TypeInfo} (ht : P.underlying t = some (.slice e)) (hi : P.info? e = some i) (hz : i.zero = some (.float .f64 0)) (hs : i.size = 1) (hb : i.bytes = 8) {n : Nat} (hn : n ≤ 1000000) :
    ∀ w, (Instr.makeSlice t (.int .i64 (n : Int)) (.int .i64 (n : Int))).run P w = .ok (.slice (some ⟨w.heap.size, 0, none⟩) n n) (w.alloc (.cells (Array.replicate n (fltV 0)) e)) := by
  intro w
  have h := run_make (P := P) w t e i (.float .f64 0) ht hi hz .i64 .i64 n n (by omega) (by omega) (by rw [hb]; omega) (by omega)
  rw [h, hs]
  have hm : (madeCells (Value.float .f64 0).cells ((n : Int).toNat * 1)) = Array.replicate n (fltV 0) := by
    apply Array.ext'
    rw [Nat.mul_one, Int.toNat_natCast, show (Value.float .f64 0).cells = #[.float .f64 0] from rfl, toList_madeCells_one]
    simp [fltV]
  rw [hm, Int.toNat_natCast]
theorem info_f64 : (Try.prog.info? 65).map (fun i => (i.zero, i.size, i.bytes)) = some (some (.float .f64 0), 1, 8) := by kernel_rfl
theorem Row.makeF {w : World} {n : Nat} {e : TypeId} : Row (w.alloc (.cells (Array.replicate n (fltV 0)) e)) w.heap.size e ((List.replicate n 0).map fltV) := by
  have := Row.new (w := w) (e := e) (cs := (List.replicate n 0).map fltV) rfl
  simpa using this
theorem nil_rep {α : Type} (S : Shape α) {h0 : 0 < S.sz} (w : World) (F : Nat → Prop) : (sliceS S h0).rep w F [] [.slice none 0 0] :=
  ⟨none, 0, 0, 0, rfl, Nat.le_refl _, Nat.zero_le _, fun h => absurd h (Nat.not_lt_zero _), fun _ h => absurd h (Nat.not_lt_zero _)⟩
theorem bne_cast {a b : Nat} (h : a ≠ b) : ((a : Int) != (b : Int)) = true := by simp; omega
theorem bne_cast' {a b : Nat} (h : a = b) : ((a : Int) != (b : Int)) = false := by simp [h]

set_option maxRecDepth 100000 in
set_option maxHeartbeats 3200000 in
theorem order_c {w : World} {F G : Nat → Prop} {x : InstD} {cs : List Value} {l : List Int} {v : Value} (h : instS.rep w F x cs) (hl : (sliceS intS).rep w G l [v]) :
    Calls Try.prog 20 #[.agg cs.toArray, v] w fun e w' => ∃ u, e = .returned u ∧ (sliceS intS).rep w' (fun b => w.heap.size ≤ b) ((orderD x l).map fun i : Nat => (i : Int)) [u] ∧ Below w.heap.size w w' := by
  have hrep := h
  obtain ⟨s, c, co, ti, rfl, -, h1, -, h3, -⟩ := h
  obtain ⟨a, b, off, c1, hs, hls, hcs, -, -, -, -⟩ := sats_open h1
  obtain rfl := List.cons.inj hs |>.1
  obtain ⟨a7, b7, off7, c7, hs7, hl7, hc7, ha7, -, hcell7⟩ := rows_open h3
  obtain rfl := List.cons.inj hs7 |>.1
  obtain ⟨a2, b2, off2, c2, hs2, hl2, hc2, ha2, -, hcell2, hwf2⟩ := ints_open hl
  obtain rfl := List.cons.inj hs2 |>.1
  clear hs hs7 hs2 h1 h3 hl
  have R := Row.new (w := w) (e := 33) (cs := [.int .i64 x.fin, .int .i64 x.tmany, .int .i64 x.troom, .int .i64 x.bmany, .int .i64 x.broom, .slice a x.sats.length c1, c, .slice a7 x.cost.length c7, ti]) rfl
  have hb0 : Below w.heap.size w (w.alloc (.cells #[.int .i64 x.fin, .int .i64 x.tmany, .int .i64 x.troom, .int .i64 x.bmany, .int .i64 x.broom, .slice a x.sats.length c1, c, .slice a7 x.cost.length c7, ti] 33)) := (Below.refl _ _).alloc (Nat.le_refl _) _
  by_cases hck : check x = 0
  case neg =>
    have hck2 := bne_zero hck
    have HE := hid (show orderD x l = [] from by unfold orderD; rw [if_neg (fun h => hck h.1)])
    clear hck hcell7 ha7 hcell2 ha2 hwf2
    go_enter Try.func20, Try.ntmps20
    go_wp2_with fail
    refine (check_c (instS.below hrep hb0)).mono ?_
    rintro e w1 ⟨rfl, hb1⟩
    go_wp2
    go_ret
    exact ⟨_, rfl, by rw [HE.out]; exact nil_rep _ _ _, below_step hb0 hb1⟩
  have HCK := hid hck
  have gd := good_of hck
  have hnl := gd.sats
  have GD := hid gd
  clear gd
  go_enter Try.func20, Try.ntmps20
  go_wp2_with fail
  refine (check_c (instS.below hrep hb0)).mono ?_
  rintro e w1 ⟨rfl, hb1⟩
  rw [HCK.out]
  have R1 := R.below hb1
  have hB1 := below_step hb0 hb1
  have hz1 := R1.lt
  clear R hb0 hb1
  obtain ⟨q0, q1, q2, q3, q4, q5, q6, q7, q8⟩ := row9 R1
  by_cases hll : l.length = x.sats.length
  case neg =>
    have hb := bne_cast hll
    have HE := hid (show orderD x l = [] from by unfold orderD; rw [if_neg (fun h => hll h.2)])
    clear hll hck hcell7 ha7 hcell2 ha2 hwf2
    go_wp2
    go_ret
    exact ⟨_, rfl, by rw [HE.out]; exact nil_rep _ _ _, hB1⟩
  have hbf := bne_cast' hll
  have HE := hid (show orderD x l = sortD (ltK (keysUp x l l.length)) (idxs l l.length) from by unfold orderD; rw [if_pos ⟨hck, hll⟩])
  have HLL := hid hll
  have hln : l.length ≤ 12 := by omega
  have hln1 : 1 ≤ l.length := by omega
  obtain ⟨i0, hi, hz0', hz1', hz2'⟩ := info_parts info_f64
  have hmk := make_floats Try.underlying120 hi hz0' hz1' hz2' (n := l.length) (by omega)
  have hs1 := hB1.size
  clear hi hz0' hz1' hz2' i0 hll hck
  go_wp2
  go_loopw [5, 25] (fun ov i wr => ∃ (k : Nat) (ao : Option Addr) (cp : Nat), k ≤ l.length ∧ i = .int .i64 k ∧ ov = .slice ao (idxs l k).length cp ∧ wr.ownsRow w.heap.size 3 1 (.slice ao (idxs l k).length cp) (idxs l k).length ((idxs l k).map idxV) ∧ (idxs l k = [] → ao = none ∧ cp = 0) ∧
      Row wr w1.heap.size 65 ((keysUp x l k).map fltV) ∧ Row wr (w1.heap.size + 1) 120 [.slice (some ⟨w1.heap.size, 0, none⟩) l.length l.length] ∧
      Row wr w.heap.size 33 [.int .i64 x.fin, .int .i64 x.tmany, .int .i64 x.troom, .int .i64 x.bmany, .int .i64 x.broom, .slice a x.sats.length c1, c, .slice a7 x.cost.length c7, ti] ∧ Below w.heap.size w wr) (fun _ i _ => l.length - (intOf i).toNat)
  case atStart =>
    refine ⟨0, none, 0, Nat.zero_le _, rfl, rfl, World.ownsRow_nil _ _ _ _, fun _ => ⟨rfl, rfl⟩, ?_, ?_, (R1.alloc _).alloc _, (hB1.alloc hs1 _).alloc (by simp; omega) _⟩
    · rw [keysUp_zero]; exact Row.makeF.alloc _
    · exact Row.new (cs := [.slice (some ⟨w1.heap.size, 0, none⟩) l.length l.length]) (by simp)
  case round =>
    clear q0 q1 q2 q3 q4 q5 q6 q7 q8 R1 hmk
    obtain ⟨k, ao, cp, hk, rfl, rfl, hown, hnil, hky, hq, R, hb⟩ := hrel
    obtain ⟨wq, rfl⟩ : ∃ wq : World, wq = wr := ⟨_, rfl⟩
    have hsz := hb.size
    have hzq := hq.lt
    have hzr := R.lt
    by_cases hlt : k < l.length
    · have hx := idx_at1 (c := c2) Try.underlying34 sz_i64 (ha2 (by omega)) hlt
      have g0 := below_cell hb (hcell2 k hlt)
      have wfk := hwf2 _ (List.getElem_mem hlt)
      obtain ⟨n, hn⟩ : ∃ n, n = l[k] := ⟨_, rfl⟩
      have hgd : l.getD k 0 = n := by rw [List.getD_eq_getElem?_getD, List.getElem?_eq_getElem hlt, hn]; rfl
      rw [← hn] at g0 wfk
      by_cases hpos : 0 < n
      · have HIY := hid (idxs_yes (l := l) (k := k) (by rw [hgd]; exact hpos))
        have HKY := hid (keysUp_yes (x := x) (l := l) (k := k) (by rw [hgd]; exact hpos))
        rw [hgd] at HKY
        have hil := idxs_len l k
        have hcl : 0 < x.cost.length := by rw [GD.out.costL]; unfold nodes; omega
        obtain ⟨rv, gr, rr⟩ := hcell7 0 hcl
        rw [Nat.add_zero] at gr
        obtain ⟨a8, b8, off8, c8, hs8, hl8, hc8, ha8, -, hcell8, -⟩ := ints_open rr
        obtain rfl := List.cons.inj hs8 |>.1
        have hrl := GD.out.costR _ (List.getElem_mem hcl)
        have hb3 : 1 + k < (x.cost[0]).length := by have := HLL.out; rw [hrl]; unfold nodes; omega
        clear hrl
        have hxr : ∀ w, (Instr.indexAt 31 (.slice a7 x.cost.length c7) (.int .i64 0)).run Try.prog w = .ok (.pointer (some ⟨b7, off7, none⟩)) w := idx_at1 Try.underlying31 sz_row (ha7 hcl) (k := 0) hcl
        have hxc : ∀ w, (Instr.indexAt 34 (.slice a8 (x.cost[0]).length c8) (.int .i64 (1 + (k : Int)))).run Try.prog w = .ok (.pointer (some ⟨b8, off8 + (1 + k), none⟩)) w := fun w => by
          have := idx_at1 (c := c8) Try.underlying34 sz_i64 (ha8 (by omega)) hb3 w
          simpa using this
        have hxb : ∀ w, (Instr.indexAt 120 (.slice (some ⟨w1.heap.size, 0, none⟩) l.length l.length) (.int .i64 (k : Int))).run Try.prog w = .ok (.pointer (some ⟨w1.heap.size, k, none⟩)) w := fun w => by
          have := idx_at1 (c := l.length) Try.underlying120 sz_f64 (a := some ⟨w1.heap.size, 0, none⟩) rfl hlt w
          rwa [Nat.zero_add] at this
        have g3 := below_cell hb (hcell8 (1 + k) hb3)
        have g4 := below_cell hb gr
        have o4 := ne_own_old hown (cell_lt gr)
        have o3 := ne_own_old hown (cell_lt (hcell8 (1 + k) hb3))
        have hcb := costAt_bd GD.out 0 (1 + k)
        obtain ⟨cv, hcv⟩ : ∃ cv, cv = x.cost[0][1 + k] := ⟨_, rfl⟩
        have HCV := hid (show costAt x 0 (1 + k) = cv from by
          unfold costAt
          rw [show (1 + (k : Int)).toNat = 1 + k by omega, List.getD_eq_getElem?_getD, List.getD_eq_getElem?_getD, show (0 : Int).toNat = 0 from rfl, List.getElem?_eq_getElem hcl, Option.getD_some, List.getElem?_eq_getElem hb3, hcv]; rfl)
        rw [← hcv] at g3
        rw [HCV.out] at hcb HKY
        have hwn := wfk
        unfold wf64 at hwn
        have HRA := hid (ratio_c cv n hcb.1 (by omega) hpos (by omega))
        obtain ⟨q0, q1, q2, q3, q4, q5, q6, q7, q8⟩ := row9 R
        have oR := ne_own_row hown R (by decide)
        have oq := ne_own_row hown hq (by decide)
        have qc := hq.cell (j := 0) (by simp)
        simp only [List.getElem_cons_zero] at qc
        generalize hrow : (Value.slice ao (idxs l k).length cp).ownBlock = row at *
        have HROW := hid hrow
        have kc := hky.cell (j := k) (by rw [List.length_map, keysUp_len]; exact hlt)
        obtain ⟨kv, hkv⟩ : ∃ kv, kv = (List.map fltV (keysUp x l k))[k]'(by rw [List.length_map, keysUp_len]; exact hlt) := ⟨_, rfl⟩
        rw [← hkv] at kc
        have HN := hid hn
        have HGD := hid hgd
        have HOW := hid hown
        have HKR := hid hky
        obtain ⟨i1, hi, hz0', hz1', hz2'⟩ := info_parts info_int
        clear hrow hkv hgd hn hown hnil hky hcell7 ha7 hcell2 ha2 hwf2 hcell8 ha8 hs8 rr gr wfk hcv
        go_wp2
        have z0 : ∀ e : At (OldBut row wq), _ := fun e => e.ok.cell q0 oR
        have z1 : ∀ e : At (OldBut row wq), _ := fun e => e.ok.cell q1 oR
        have z2 : ∀ e : At (OldBut row wq), _ := fun e => e.ok.cell q2 oR
        have z3 : ∀ e : At (OldBut row wq), _ := fun e => e.ok.cell q3 oR
        have z4 : ∀ e : At (OldBut row wq), _ := fun e => e.ok.cell q4 oR
        have z5 : ∀ e : At (OldBut row wq), _ := fun e => e.ok.cell q5 oR
        have z6 : ∀ e : At (OldBut row wq), _ := fun e => e.ok.cell q6 oR
        have z7 : ∀ e : At (OldBut row wq), _ := fun e => e.ok.cell q7 oR
        have z8 : ∀ e : At (OldBut row wq), _ := fun e => e.ok.cell q8 oR
        have zq : ∀ e : At (OldBut row wq), _ := fun e => e.ok.cell qc oq
        have zg : ∀ e : At (OldBut row wq), _ := fun e => e.ok.cell g4 o4
        have zh : ∀ e : At (OldBut row wq), _ := fun e => e.ok.cell g3 o3
        refine wp_region_mix (OldBut row wq) [19] [([0, 1, 2, 3, 6, 7, 8, 9, 10, 11, 15], 4, false), ([], 5, false), ([], 12, false), ([13, 14], 16, false), ([17], 18, false), ([], 19, true)] (by kernel_rfl) (by kernel_rfl) (fun _ _ d _ _ h => by cases d <;> exact h) (OldBut.refl _ _).drew ?_
        simp only [mixOf, List.map_cons, List.map_nil, Array.getD_eq_getD_getElem?, List.getElem?_toArray, List.getElem?_cons_succ, List.getElem?_cons_zero, Option.getD_some, wpMix]
        repeat (go_big_quiet_step (fail))
        refine wpQuiet_nil ?_
        go_wp2_with fail
        have hS0 : OldBut row wq (wq.alloc (.cells #[.int .i64 k] 3)).drew := ((OldBut.refl row wq).below ((Below.refl _ _).alloc (Nat.le_refl _) _)).drew
        have hown1 := (HOW.out.alloc (.cells #[.int .i64 k] 3)).drew
        refine ⟨hS0, wpQuiet_nil ?_⟩
        go_wp2_with (at_builtin; refine wpList_append_own _ rfl _ _ 49 rfl w.heap.size 3 i1 (.int .i64 0) 1 8 Try.underlying49 hi hz0' hz1' hz2' rfl (by decide) _ _ _ rfl hown1 ⟨wq.heap.size, 0, none⟩ 1 1 [.int .i64 (k : Int)] rfl rfl ?c1 ?c2 ?c3 ?c4 ?c5 ?_)
        case c1 => exact cell_one_new _ _ _
        case c2 => intro u hu; simp at hu; subst hu; rfl
        case c3 => unfold maxLen; omega
        case c4 => omega
        case c5 => simp; omega
        intro v' w2 hown' hgrow _
        obtain ⟨ao', cp', hv', -, -⟩ := owns_slice hown'
        subst hv'
        have hS1 := hS0.grown (by rw [HROW.out] at hgrow; exact hgrow)
        have hB2 := below_owned (w := (wq.alloc (.cells #[.int .i64 k] 3)).drew) (hb.alloc hsz _).drew hown1 (by simp; omega) (Nat.le_refl _) hgrow
        have hq2 := ((hq.alloc (.cells #[.int .i64 k] 3)).drew).grown hown1 (by decide) hgrow
        have hk2 := ((HKR.out.alloc (.cells #[.int .i64 k] 3)).drew).grown hown1 (by decide) hgrow
        have hR2 := ((R.alloc (.cells #[.int .i64 k] 3)).drew).grown hown1 (by decide) hgrow
        have HOW2 := hid hown'
        clear hown' hgrow hown1 hi hz0' hz1' hz2'
        refine ⟨hS1, wpQuiet_nil ?_⟩
        go_wp2_with fail
        refine (instSat_c (instS.below hrep hB2) (by omega)).mono ?_
        rintro e w3 ⟨rfl, hb3⟩
        have hS3 := hS1.below hb3
        have hB3 := below_step hB2 hb3
        have hq3 := hq2.below hb3
        have hk3 := hk2.below hb3
        have hR3 := hR2.below hb3
        have HOW3 := hid (owns_below HOW2.out hb3)
        clear hB2 hq2 hk2 hR2 HOW2 hb3
        go_wp2_with fail
        refine ⟨hS3, ?_⟩
        repeat (go_big_quiet_step (fail))
        refine wpQuiet_nil ?_
        go_wp2_with fail
        refine (HRA.out _).mono ?_
        rintro e w4 ⟨rfl, rfl⟩
        go_wp2_with fail
        refine ⟨hS3, ?_⟩
        have kc3 := hk3.cell (j := k) (by rw [List.length_map, keysUp_len]; exact hlt)
        obtain ⟨kv3, hkv3⟩ : ∃ kv, kv = (List.map fltV (keysUp x l k))[k]'(by rw [List.length_map, keysUp_len]; exact hlt) := ⟨_, rfl⟩
        rw [← hkv3] at kc3
        have kf3 := hk3.frozen k
        obtain ⟨rf, hrf⟩ : ∃ rf, rf = ratioF cv n := ⟨_, rfl⟩
        rw [← hrf]
        have hsf : ∀ (w : World) (a : Addr) (m : Mode), (store a (.float .f64 rf) m).run Try.prog w = stored Try.prog w a (.float .f64 rf) m := fun w a m => run_store _ w a _ m rfl
        have HK3 := hid (hk3.set (j := k) (by rw [List.length_map, keysUp_len]; exact hlt) (fltV rf))
        rw [← List.map_set, hrf, ← HKY.out, ← hrf] at HK3
        have HO4 := hid (owns_setApart HOW3.out hk3 (by decide) k (fltV rf))
        have HQ4 := hid (hq3.setApart hk3 (by decide) k (fltV rf))
        have HR4 := hid (hR3.setApart hk3 (by decide) k (fltV rf))
        have HB4 := hid (hB3.setCell (p := ⟨w1.heap.size, k, none⟩) hs1 (fltV rf))
        clear hkv3 hrf hk3 hq3 hR3 hB3
        repeat (go_big_quiet_step (fail))
        refine wpQuiet_nil ?_
        go_wp2
        refine ⟨hS3, wpQuiet_nil ?_⟩
        go_wp2
        go_roundw
        case rel =>
          refine ⟨k + 1, ao', cp', by omega, by go_num, ?_, ?_, ?_, HK3.out, HQ4.out, HR4.out, HB4.out⟩
          · rw [HIY.out]; simp
          · rw [HIY.out, List.length_append, List.map_append]; exact HO4.out
          · rw [HIY.out]; intro h; simp at h
        case measure => simp [intOf]; omega
      · have HIN := hid (idxs_no (l := l) (k := k) (by rw [hgd]; exact hpos))
        have HKN := hid (keysUp_no (x := x) (l := l) (k := k) (by rw [hgd]; exact hpos))
        have HOW := hid hown
        have HNIL := hid hnil
        have HKY := hid hky
        clear hgd hn hown hnil hky hcell7 ha7 hcell2 ha2 hwf2
        go_wp2
        go_roundw
        case rel => exact ⟨k + 1, ao, cp, by omega, by go_num, by rw [HIN.out], by rw [HIN.out]; exact HOW.out, by rw [HIN.out]; exact HNIL.out, by rw [HKN.out]; exact HKY.out, hq, R, hb⟩
        case measure => simp [intOf]; omega
    · have hke : k = l.length := by omega
      subst hke
      have hkl := keysUp_len x l l.length
      have hkb := keysUp_bd GD.out hwf2 l.length
      have hix : ∀ i ∈ idxs l l.length, i < (keysUp x l l.length).length := fun i hi => by rw [hkl]; exact idxs_lt hi
      have hil := idxs_len l l.length
      have qc := hq.cell (j := 0) (by simp)
      simp only [List.getElem_cons_zero] at qc
      have qk : ∀ k (h : k < (keysUp x l l.length).length), wq.cell? ⟨w1.heap.size, k, none⟩ = some (.float .f64 (keysUp x l l.length)[k]) := fun k h => by
        have := hky.cell (j := k) (by rw [List.length_map]; exact h)
        rwa [List.getElem_map] at this
      have hfin : ∀ (w' : World) (v' : Value), w'.ownsRow w.heap.size 3 1 v' (idxs l l.length).length ((sortD (ltK (keysUp x l l.length)) (idxs l l.length)).map idxV) → (sliceS intS).rep w' (fun b => w.heap.size ≤ b) ((orderD x l).map fun i : Nat => (i : Int)) [v'] := fun w' v' ho => by
        rw [HE.out]
        refine owns_ints (T := 3) ?_ ?_
        · rw [List.length_map, sortD_len, List.map_map]; exact ho
        · intro z hz
          obtain ⟨i, hi, rfl⟩ := List.mem_map.1 hz
          have := idxs_lt ((sortD_mem _ _ _).1 hi)
          unfold wf64; omega
      by_cases hemp : idxs l l.length = []
      · obtain ⟨rfl, rfl⟩ := hnil hemp
        have hl0 : (idxs l l.length).length = 0 := by rw [hemp]; rfl
        have HF := hid (show (sliceS intS).rep wq (fun b => w.heap.size ≤ b) ((orderD x l).map fun i : Nat => (i : Int)) [.slice none 0 0] from hfin _ _ (by rw [hemp]; exact World.ownsRow_nil _ _ _ _))
        rw [hl0]
        have HST := hid (stable_nil (w := wq) (w1.heap.size + 1))
        clear hfin qk hix hkb hcell7 ha7 hcell2 ha2 hwf2 hown hnil hemp hl0 hkl
        go_wp2_with fail
        refine HST.out.mono ?_
        rintro e w2 ⟨rfl, rfl⟩
        go_wp2
        go_ret
        exact ⟨_, rfl, HF.out, hb⟩
      · have hpos : 0 < (idxs l l.length).length := List.length_pos_iff.2 hemp
        obtain ⟨g, cap, hv, hc1, hc2, hg, hrow⟩ := Row.of_owns hown hpos
        simp only [Value.slice.injEq] at hv
        obtain ⟨rfl, -, rfl⟩ := hv
        have n1 := hq.ne hrow (by decide)
        have n2 := hky.ne hrow (by decide)
        have HST := hid (stable_c (cap := cp) hkb (by rw [hkl]; exact qc) qk hix (by rw [hkl]; omega) hrow n1 n2 (by omega))
        have HOW := hid hown
        clear hfin qk hix hkb hcell7 ha7 hcell2 ha2 hwf2 hown hnil hemp hkl hrow qc
        go_wp2_with fail
        refine HST.out.mono ?_
        rintro e w2 ⟨rfl, hr2, hg2⟩
        have hB2 := hb.grown hg2 hsz (fun k hk => by cases hk; exact hg)
        have hl2 : ((orderD x l).map fun i : Nat => (i : Int)).length = (idxs l l.length).length := by rw [HE.out, List.length_map, sortD_len]
        have HF := hid (show (sliceS intS).rep w2 (fun b => w.heap.size ≤ b) ((orderD x l).map fun i : Nat => (i : Int)) [.slice (some ⟨g, 0, none⟩) (idxs l l.length).length cp] from by
          rw [← hl2]
          refine ints_rep (TI := 3) ?_ (by rw [hl2]; exact hc1) hc2 hg ?_
          · rw [HE.out, List.map_map]; exact hr2
          · intro z hz
            rw [HE.out] at hz
            obtain ⟨i, hi, rfl⟩ := List.mem_map.1 hz
            have := idxs_lt ((sortD_mem _ _ _).1 hi)
            unfold wf64; omega)
        have HB := hid hB2
        clear hr2 hg2 hB2 hl2
        go_wp2
        go_ret
        exact ⟨_, rfl, HF.out, HB.out⟩
end Go.Proofs.Ytafhjfkdlmijdaa
