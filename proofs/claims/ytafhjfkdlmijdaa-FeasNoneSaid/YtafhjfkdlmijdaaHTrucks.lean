/- Contract: haul.Trucks. -/
import Derived.Test.YtafhjfkdlmijdaaFill
import Derived.Maps.AppendAt
namespace Go.Proofs.Ytafhjfkdlmijdaa
open Go.RowKit

theorem info_truck : (Try.prog.info? 108).map (fun i => (i.zero, i.size, i.bytes)) = some (some (.agg #[.slice none 0 0]), 1, 24) := by kernel_rfl
theorem info_stop : (Try.prog.info? 105).map (fun i => (i.zero, i.size, i.bytes)) = some (some (.agg #[.int .i64 0, .int .i64 0]), 2, 16) := by kernel_rfl

/-- What holds of the trucks so far. -/
structure FillOk (many room : Int) (out : List (List StopD)) (left : Int) : Prop where
  leftB : 0 ≤ left ∧ left ≤ room
  manyB : (out.length : Int) ≤ many
  lastB : ((out.getD (out.length - 1) []).length : Int) + left ≤ room ∨ out = []
  someB : 0 < left → 0 < out.length
  wfB : ∀ t ∈ out, ∀ s ∈ t, wf64 s.sat ∧ wf64 s.load

theorem orderD_lt {x : InstD} {l : List Int} {i : Nat} (h : i ∈ orderD x l) : i < l.length := by
  unfold orderD at h
  split at h
  · exact idxs_lt ((sortD_mem _ _ _).1 h)
  · cases h
theorem FillOk.nil {many room : Int} (h1 : 0 ≤ many) (h2 : 0 ≤ room) : FillOk many room [] 0 :=
  ⟨by omega, by simpa using h1, .inr rfl, fun h => by omega, fun _ h => by cases h⟩
theorem FillOk.push {many room left : Int} {out : List (List StopD)} (h : FillOk many room out left) (h1 : (out.length : Int) ≠ many) (h2 : room ≠ 0) : FillOk many room (out ++ [[]]) room := by
  have hl := h.leftB
  have hm := h.manyB
  refine ⟨by omega, by rw [List.length_append]; simp; omega, .inl ?_, fun _ => by simp, fun t ht s hs => ?_⟩
  · rw [List.length_append, List.length_singleton, Nat.add_sub_cancel, List.getD_eq_getElem?_getD, List.getElem?_append_right (Nat.le_refl _), Nat.sub_self]; simp
  · rcases List.mem_append.1 ht with ht | ht
    · exact h.wfB t ht s hs
    · simp at ht; subst ht; cases hs
theorem FillOk.stop {many room left much : Int} {out : List (List StopD)} {s : StopD} (h : FillOk many room out left) (_hr : room ≤ 1000000000) (h0 : 0 < left) (h1 : 1 ≤ much) (h2 : much ≤ left) (hs : wf64 s.sat ∧ wf64 s.load) : FillOk many room (addLast out s) (left - much) := by
  have hl := h.leftB
  have hp := h.someB h0
  have hlen : (addLast out s).length = out.length := by unfold addLast; simp
  refine ⟨by omega, by rw [hlen]; exact h.manyB, .inl ?_, fun _ => by omega, fun t ht u hu => ?_⟩
  · rcases h.lastB with h3 | h3
    · have e : (addLast out s).getD ((addLast out s).length - 1) [] = out.getD (out.length - 1) [] ++ [s] := by
        rw [hlen, List.getD_eq_getElem?_getD]
        unfold addLast
        rw [List.getElem?_set_self (by omega)]; rfl
      rw [e, List.length_append]; simp only [List.length_singleton]; push_cast; omega
    · rw [h3] at hp; cases hp
  · unfold addLast at ht
    rcases List.mem_or_eq_of_mem_set ht with ht | rfl
    · exact h.wfB t ht u hu
    · rcases List.mem_append.1 hu with hu | hu
      · have hlt : out.length - 1 < out.length := by omega
        rw [List.getD_eq_getElem?_getD, List.getElem?_eq_getElem hlt] at hu
        exact h.wfB _ (List.getElem_mem hlt) u hu
      · simp at hu; subst hu; exact hs
theorem fillAll_cons (many room : Int) (l : List Int) (s : Nat) (ss : List Nat) (out : List (List StopD)) (left : Int) : fillAll many room l (s :: ss) out left = match fillOne many room s (l.getD s 0).toNat (l.getD s 0) out left with
    | none => none
    | some (o, lf) => fillAll many room l ss o lf := rfl
theorem fillOne_push {many room : Int} {s f : Nat} {n : Int} {out : List (List StopD)} (hn : 0 < n) (h : ¬((out.length : Int) = many ∨ room = 0)) : fillOne many room s (f + 1) n out 0 = fillOne many room s f (n - min n room) (addLast (out ++ [[]]) ⟨s, min n room⟩) (room - min n room) := by
  show (if n ≤ 0 then _ else _) = _
  rw [if_neg (by omega), if_pos rfl, if_neg h]
theorem fillOne_none {many room : Int} {s f : Nat} {n : Int} {out : List (List StopD)} (hn : 0 < n) (h : (out.length : Int) = many ∨ room = 0) : fillOne many room s (f + 1) n out 0 = none := by
  show (if n ≤ 0 then _ else _) = _
  rw [if_neg (by omega), if_pos rfl, if_pos h]
theorem fillOne_step {many room : Int} {s f : Nat} {n left : Int} {out : List (List StopD)} (hn : 0 < n) (h : left ≠ 0) : fillOne many room s (f + 1) n out left = fillOne many room s f (n - min n left) (addLast out ⟨s, min n left⟩) (left - min n left) := by
  show (if n ≤ 0 then _ else _) = _
  rw [if_neg (by omega), if_neg h]

set_option maxRecDepth 100000 in
set_option maxHeartbeats 3200000 in
theorem trucksH_c {w : World} {F G : Nat → Prop} {x : InstD} {cs : List Value} {l : List Int} {v : Value} (h : instS.rep w F x cs) (hl : (sliceS intS).rep w G l [v]) :
    Calls Try.prog 17 #[.agg cs.toArray, v] w fun e w' => ∃ u, e = .returned (.tuple #[u, .int .i64 (trucksH x l).2]) ∧ trucksS.rep w' (fun b => w.heap.size ≤ b) (trucksH x l).1 [u] ∧ Below w.heap.size w w' := by
  have hrep := h
  have hlrep := hl
  obtain ⟨s, c, co, ti, rfl, -, h1, -, -, -⟩ := h
  obtain ⟨a, b, off, c1, hs, hls, hcs, ha, -, hcell, -⟩ := sats_open h1
  obtain rfl := List.cons.inj hs |>.1
  obtain ⟨a2, b2, off2, c2, hs2, hl2, hc2, ha2, -, hcell2, hwf2⟩ := ints_open hl
  obtain rfl := List.cons.inj hs2 |>.1
  clear hs hs2 h1 hl
  have R := Row.new (w := w) (e := 33) (cs := [.int .i64 x.fin, .int .i64 x.tmany, .int .i64 x.troom, .int .i64 x.bmany, .int .i64 x.broom, .slice a x.sats.length c1, c, co, ti]) rfl
  have hb0 : Below w.heap.size w (w.alloc (.cells #[.int .i64 x.fin, .int .i64 x.tmany, .int .i64 x.troom, .int .i64 x.bmany, .int .i64 x.broom, .slice a x.sats.length c1, c, co, ti] 33)) := (Below.refl _ _).alloc (Nat.le_refl _) _
  by_cases hck : check x = 0
  case neg =>
    have hck2 := bne_zero hck
    have HE := hid (show trucksH x l = ([], check x) from by unfold trucksH; rw [if_pos hck])
    clear hck ha hcell ha2 hcell2 hwf2
    go_enter Try.func17, Try.ntmps17
    go_wp2_with fail
    refine (check_c (instS.below hrep hb0)).mono ?_
    rintro e w1 ⟨rfl, hb1⟩
    go_wp2
    go_ret2
    exact ⟨_, by rw [HE.out]; rfl, by rw [HE.out]; exact nil_rep _ _ _, below_step hb0 hb1⟩
  have HCK := hid hck
  have gd := good_of hck
  have hnl := gd.sats
  have htm := gd.tmany
  have htr := gd.troom
  have GD := hid gd
  clear gd
  go_enter Try.func17, Try.ntmps17
  go_wp2_with fail
  refine (check_c (instS.below hrep hb0)).mono ?_
  rintro e w1 ⟨rfl, hb1⟩
  rw [HCK.out]
  have R1 := R.below hb1
  have hB1 := below_step hb0 hb1
  have hz1 := R1.lt
  clear R hb0 hb1
  obtain ⟨q0, q1, q2, q3, q4, q5, q6, q7, q8⟩ := row9 R1
  by_cases hll : l.length = x.sats.length
  case neg =>
    have hb := bne_cast hll
    have HE := hid (show trucksH x l = ([], 2) from by unfold trucksH; rw [if_neg (by simpa using hck), if_pos hll])
    clear hll hck ha hcell ha2 hcell2 hwf2
    go_wp2
    go_ret2
    exact ⟨_, by rw [HE.out]; rfl, by rw [HE.out]; exact nil_rep _ _ _, hB1⟩
  have hbf := bne_cast' hll
  have HT := hid (show trucksH x l = if badLoads x l l.length then ([], 2) else fillRes (fillAll x.tmany x.troom l (orderD x l) [] 0) from by unfold trucksH; rw [if_neg (by simpa using hck), if_neg (by simpa using hll)])
  have HLL := hid hll
  have hln : l.length ≤ 12 := by omega
  clear hll hck
  go_wp2
  go_loop [29] (fun i => ∃ k : Nat, k ≤ l.length ∧ i = .int .i64 k ∧ badLoads x l k = false) (fun i => l.length - (intOf i).toNat)
  case atStart => exact ⟨0, Nat.zero_le _, rfl, rfl⟩
  case round =>
    obtain ⟨k, hk, rfl, hbad⟩ := hrel
    by_cases hlt : k < l.length
    · have hks : k < x.sats.length := by rw [← HLL.out]; exact hlt
      have hx := idx_at1 (c := c2) Try.underlying34 sz_i64 (ha2 (by omega)) hlt
      have hxs := idx_at (c := c1) Try.underlying29 sz_sat (ha (by omega)) hks
      have g0 := below_cell hB1 (hcell2 k hlt)
      have g1 := below_cell hB1 (hcell k hks).1
      obtain ⟨n, hn⟩ : ∃ n, n = l[k] := ⟨_, rfl⟩
      obtain ⟨r, hr⟩ : ∃ r, r = (x.sats[k]).room := ⟨_, rfl⟩
      have HO := hid (show badLoads x l (k + 1) = (decide (n < 0) || decide (r < n)) from by
        rw [badLoads_succ, hbad]; unfold badLoad
        rw [List.getD_eq_getElem?_getD, List.getD_eq_getElem?_getD, List.getElem?_eq_getElem hlt, List.getElem?_eq_getElem hks, hn, hr]; rfl)
      have HBAD := hid (show badLoads x l (k + 1) = true → trucksH x l = ([], 2) from fun hb => by rw [HT.out, if_pos (badLoads_ge hb (by omega))])
      rw [← hn] at g0
      rw [← hr] at g1
      clear hn hr hbad ha hcell ha2 hcell2 hwf2
      by_cases e1 : n < 0
      · have HE := hid (HBAD.out (by rw [HO.out, decide_eq_true e1]; rfl))
        go_wp2
        go_ret2
        exact ⟨_, by rw [HE.out]; rfl, by rw [HE.out]; exact nil_rep _ _ _, hB1⟩
      · by_cases e2 : r < n
        · have HE := hid (HBAD.out (by rw [HO.out, decide_eq_true e2, Bool.or_true]))
          go_wp2
          go_ret2
          exact ⟨_, by rw [HE.out]; rfl, by rw [HE.out]; exact nil_rep _ _ _, hB1⟩
        · have HO2 := hid (show badLoads x l (k + 1) = false from by rw [HO.out, decide_eq_false e1, decide_eq_false e2]; rfl)
          go_wp2
          go_round
          case rel => exact ⟨k + 1, by omega, by go_num, HO2.out⟩
          case measure => simp [intOf]; omega
    · have hke : k = l.length := by omega
      subst hke
      have HT2 := hid (show trucksH x l = fillRes (fillAll x.tmany x.troom l (orderD x l) [] 0) from by rw [HT.out, if_neg (by rw [hbad]; decide)])
      have hlb : ∀ i (h : i < l.length), 0 ≤ l[i] ∧ l[i] ≤ 1000000000 := fun i h => by
        have hks : i < x.sats.length := by rw [← HLL.out]; exact h
        have h1 : badLoad x l i = false := by
          have := List.any_eq_false.1 hbad i (List.mem_range.2 h)
          simpa using this
        unfold badLoad at h1
        rw [List.getD_eq_getElem?_getD, List.getD_eq_getElem?_getD, List.getElem?_eq_getElem h, List.getElem?_eq_getElem hks] at h1
        simp only [Option.getD_some, Bool.or_eq_false_iff, decide_eq_false_iff_not] at h1
        have h2 := (GD.out.sat _ (List.getElem_mem hks)).1
        omega
      have HLB := hid hlb
      clear hbad HT hlb
      go_wp2_with fail
      refine (order_c (instS.below hrep hB1) ((sliceS intS).below hlrep hB1)).mono ?_
      rintro e wO ⟨ov, rfl, hor, hbO⟩
      have RO := R1.below hbO
      have hBO := below_step hB1 hbO
      have hzO := RO.lt
      have hsO := hBO.size
      obtain ⟨a5, b5, off5, c5, hs5, hl5, hc5, ha5, -, hcell5, -⟩ := ints_open hor
      obtain rfl := List.cons.inj hs5 |>.1
      clear q0 q1 q2 q3 q4 q5 q6 q7 q8 R1 hB1 hbO hz1 hor hs5 ha hcell
      have hom : ∀ i ∈ orderD x l, i < l.length := fun i hi => orderD_lt hi
      have hlo : ((orderD x l).map fun i : Nat => (i : Int)).length = (orderD x l).length := List.length_map _
      have hcO : ∀ k (h : k < (orderD x l).length), wO.cell? ⟨b5, off5 + k, none⟩ = some (.int .i64 ((orderD x l)[k] : Nat)) := fun k h => by
        have := hcell5 k (by rw [hlo]; exact h)
        rwa [List.getElem_map] at this
      rw [hlo] at hl5 ha5 ⊢
      obtain ⟨os, hos⟩ : ∃ os, os = orderD x l := ⟨_, rfl⟩
      rw [← hos] at hl5 ha5 hom hcO HT2 ⊢
      clear hos hlo hcell5
      have HCO := hid hcO
      have HOM := hid hom
      obtain ⟨q0, q1, q2, q3, q4, q5, q6, q7, q8⟩ := row9 RO
      clear hcO hom RO
      go_wp2
      go_loopw [9, 10, 51] (fun vo vl i wr => ∃ (k : Nat) (ao : Option Addr) (cp : Nat) (out : List (List StopD)) (left : Int) (vs : List Value), k ≤ os.length ∧ i = .int .i64 k ∧ vo = .slice ao out.length cp ∧ vl = .int .i64 left ∧
          TOwn 108 105 wr wO.heap.size (.slice ao out.length cp) out vs ∧ FillOk x.tmany x.troom out left ∧ fillAll x.tmany x.troom l os [] 0 = fillAll x.tmany x.troom l (os.drop k) out left ∧ Below wO.heap.size wO wr) (fun _ _ i _ => os.length - (intOf i).toNat)
      case atStart => exact ⟨0, none, 0, [], 0, [], Nat.zero_le _, rfl, rfl, rfl, TOwn.nil _ _ _ _, FillOk.nil (by omega) (by omega), rfl, Below.refl _ _⟩
      case round =>
        obtain ⟨k, ao, cp, out, left, vs, hk, rfl, rfl, rfl, hT, hF, hfa, hb⟩ := hrel
        obtain ⟨wp, rfl⟩ : ∃ wp : World, wp = wr := ⟨_, rfl⟩
        by_cases hlt : k < os.length
        · have hx := idx_at1 (c := c5) Try.underlying49 sz_int (ha5 (by omega)) hlt
          have g0 := below_cell hb (HCO.out k hlt)
          have hsl := HOM.out _ (List.getElem_mem hlt)
          obtain ⟨s0, hs0⟩ : ∃ s0, s0 = os[k] := ⟨_, rfl⟩
          rw [← hs0] at g0 hsl
          have hxl := idx_at1 (c := c2) Try.underlying34 sz_i64 (ha2 (by omega)) hsl
          have g1 := below_cell hb (below_cell hBO (hcell2 s0 hsl))
          have hnb := HLB.out s0 hsl
          obtain ⟨n0, hn0⟩ : ∃ n0, n0 = l[s0] := ⟨_, rfl⟩
          rw [← hn0] at g1 hnb
          have HFA := hid (show fillAll x.tmany x.troom l os [] 0 = match fillOne x.tmany x.troom s0 n0.toNat n0 out left with
              | none => none
              | some (o, lf) => fillAll x.tmany x.troom l (os.drop (k + 1)) o lf from by
            rw [hfa, List.drop_eq_getElem_cons hlt, ← hs0, fillAll_cons]
            have : l.getD s0 0 = n0 := by rw [List.getD_eq_getElem?_getD, List.getElem?_eq_getElem hsl, hn0]; rfl
            rw [this])
          have HT3 := hid hT
          have HF3 := hid hF
          clear hfa hs0 hn0 hT hF
          go_wp2
          go_loopw [9, 10, 13] (fun vo vl vn wx => ∃ (f : Nat) (n : Int) (ao : Option Addr) (cp : Nat) (out2 : List (List StopD)) (left2 : Int) (vs2 : List Value), vn = .int .i64 n ∧ (0 ≤ n ∧ n ≤ 1000000000) ∧ n.toNat ≤ f ∧ vo = .slice ao out2.length cp ∧ vl = .int .i64 left2 ∧
              TOwn 108 105 wx wO.heap.size (.slice ao out2.length cp) out2 vs2 ∧ FillOk x.tmany x.troom out2 left2 ∧ fillOne x.tmany x.troom s0 n0.toNat n0 out left = fillOne x.tmany x.troom s0 f n out2 left2 ∧ Below wO.heap.size wO wx) (fun _ _ vn _ => (intOf vn).toNat)
          case atStart => exact ⟨n0.toNat, n0, ao, cp, out, left, vs, rfl, hnb, Nat.le_refl _, rfl, rfl, HT3.out, HF3.out, rfl, hb⟩
          case round =>
            clear g0 g1 hb HT3 HF3
            obtain ⟨f, n, ao2, cp2, out2, left2, vs2, rfl, hn, hf, rfl, rfl, hT, hF, hfo, hb⟩ := hrel
            obtain ⟨wx, rfl⟩ : ∃ wx : World, wx = wr := ⟨_, rfl⟩
            by_cases hpos : 0 < n
            · obtain ⟨f', rfl⟩ : ∃ f', f = f' + 1 := ⟨f - 1, by omega⟩
              have hlb := hF.leftB
              have hmb := hF.manyB
              have hsz := hb.size
              have p1 := below_cell hb q1
              have p2 := below_cell hb q2
              have HT4 := hid hT
              have HF4 := hid hF
              have HFO := hid hfo
              clear hT hF hfo
              go_upto_if 62 with fail
              go_cut [9, 10] (fun vo vl wz => ∃ (ao : Option Addr) (cp : Nat) (out3 : List (List StopD)) (left3 : Int) (vs3 : List Value), vo = .slice ao out3.length cp ∧ vl = .int .i64 left3 ∧ TOwn 108 105 wz wO.heap.size (.slice ao out3.length cp) out3 vs3 ∧
                  FillOk x.tmany x.troom out3 left3 ∧ 0 < left3 ∧ fillOne x.tmany x.troom s0 n0.toNat n0 out left = fillOne x.tmany x.troom s0 f' (n - min n left3) (addLast out3 ⟨s0, min n left3⟩) (left3 - min n left3) ∧ Below wO.heap.size wO wz)
              case first =>
                by_cases hz : left2 = 0
                · by_cases hfull : (out2.length : Int) = x.tmany ∨ x.troom = 0
                  · have HE := hid (show trucksH x l = ([], 11) from by
                      rw [HT2.out, HFA.out, HFO.out, hz, fillOne_none hpos hfull]; rfl)
                    have hz2 : (left2 == 0) = true := by simpa using hz
                    have hBx := hBO.trans (hb.mono hsO)
                    by_cases eq1 : (out2.length : Int) = x.tmany
                    · have b1 : ((out2.length : Int) == x.tmany) = true := by simpa using eq1
                      clear hz eq1 hfull
                      go_wp2
                      go_ret2
                      exact ⟨_, by rw [HE.out]; rfl, by rw [HE.out]; exact nil_rep _ _ _, hBx⟩
                    · have b1 : ((out2.length : Int) == x.tmany) = false := by simpa using eq1
                      have b2 : (x.troom == 0) = true := by simpa using hfull.resolve_left eq1
                      clear hz eq1 hfull
                      go_wp2
                      go_ret2
                      exact ⟨_, by rw [HE.out]; rfl, by rw [HE.out]; exact nil_rep _ _ _, hBx⟩
                  · have hz2 : (left2 == 0) = true := by simpa using hz
                    have b1 : ((out2.length : Int) == x.tmany) = false := by simpa using fun h => hfull (.inl h)
                    have b2 : (x.troom == 0) = false := by simpa using fun h => hfull (.inr h)
                    have HST := hid (HFO.out.trans (show fillOne x.tmany x.troom s0 (f' + 1) n out2 left2 = fillOne x.tmany x.troom s0 f' (n - min n x.troom) (addLast (out2 ++ [[]]) ⟨s0, min n x.troom⟩) (x.troom - min n x.troom) from by rw [hz]; exact fillOne_push hpos hfull))
                    have HF5 := hid (HF4.out.push (fun h => hfull (.inl h)) (fun h => hfull (.inr h)))
                    have hrp : 0 < x.troom := by have : x.troom ≠ 0 := fun h => hfull (.inr h); omega
                    have hrow := HT4.out.own
                    have o2 := ne_own_old hrow (cell_lt q2)
                    generalize hro : (Value.slice ao2 out2.length cp2).ownBlock = row at *
                    have HRO := hid hro
                    clear hz hfull hro
                    go_wp2
                    have z2 : ∀ e : At (OldBut row wx), _ := fun e => e.ok.cell p2 o2
                    refine wp_region_mix (OldBut row wx) [] [([0, 1, 4, 5, 6], 2, false), ([], 3, false), ([7], 8, false)] (by kernel_rfl) (by kernel_rfl) (fun _ _ d _ _ h => by cases d <;> exact h) (OldBut.refl _ _).drew ?_
                    simp only [mixOf, List.map_cons, List.map_nil, Array.getD_eq_getD_getElem?, List.getElem?_toArray, List.getElem?_cons_succ, List.getElem?_cons_zero, Option.getD_some, wpMix]
                    repeat (go_big_quiet_step (fail))
                    refine wpQuiet_nil ?_
                    go_wp2_with fail
                    have hS0 : OldBut row wx (wx.alloc (.cells #[.slice none 0 0] 108)).drew := ((OldBut.refl row wx).below ((Below.refl _ _).alloc (Nat.le_refl _) _)).drew
                    have hown1 := (hrow.alloc (.cells #[.slice none 0 0] 108)).drew
                    refine ⟨hS0, wpQuiet_nil ?_⟩
                    obtain ⟨i1, hi, hi0, hi1, hi2⟩ := info_parts info_truck
                    go_wp2_with (at_builtin; refine wpList_append_own _ rfl _ _ 39 rfl wO.heap.size 108 i1 (.agg #[.slice none 0 0]) 1 24 Try.underlying39 hi hi0 hi1 hi2 rfl (by decide) _ _ _ rfl hown1 ⟨wx.heap.size, 0, none⟩ 1 1 [.slice none 0 0] rfl rfl ?c1 ?c2 ?c3 ?c4 ?c5 ?_)
                    case c1 => exact cell_one_new _ _ _
                    case c2 => intro u hu; simp at hu; subst hu; rfl
                    case c3 => unfold maxLen; omega
                    case c4 => omega
                    case c5 => simp; omega
                    intro v' w2 hown' hgrow _
                    obtain ⟨ao', cp', hv', -, -⟩ := owns_slice hown'
                    subst hv'
                    have hTa : TOwn 108 105 (wx.alloc (.cells #[.slice none 0 0] 108)).drew wO.heap.size (.slice ao2 out2.length cp2) out2 vs2 := HT4.out.below ((Below.refl _ _).alloc (Nat.le_refl _) _).drew
                    have HT5 := hid (hTa.push (by decide) hgrow hown')
                    have HB5 := hid (below_owned (w := (wx.alloc (.cells #[.slice none 0 0] 108)).drew) (hb.alloc hsz _).drew hown1 (by simp; omega) (Nat.le_refl _) hgrow)
                    have hS1 := hS0.grown (by rw [HRO.out] at hgrow; exact hgrow)
                    clear hown' hgrow hown1 hi hi0 hi1 hi2 hTa hS0
                    refine ⟨hS1, ?_⟩
                    repeat (go_big_quiet_step (fail))
                    refine wpQuiet_nil ?_
                    go_wp2_with fail
                    refine ⟨hS1, ?_⟩
                    go_wp2
                    go_meet
                    exact ⟨ao', cp', out2 ++ [[]], x.troom, vs2 ++ [.slice none 0 0], by simp, rfl, by simpa using HT5.out, HF5.out, hrp, HST.out, HB5.out⟩
                · have HST := hid (show fillOne x.tmany x.troom s0 n0.toNat n0 out left = _ from HFO.out.trans (fillOne_step hpos hz))
                  have hlp : 0 < left2 := by omega
                  have hz2 : (left2 == 0) = false := by simpa using hz
                  clear hz
                  go_wp2
                  go_meet
                  exact ⟨ao2, cp2, out2, left2, vs2, rfl, rfl, HT4.out, HF4.out, hlp, HST.out, hb⟩
              case rest =>
                clear p1 p2 hlb hmb hsz HT4 HF4 HFO hb
                obtain ⟨ao3, cp3, out3, left3, vs3, rfl, rfl, hT, hF, hlp, hfo, hb⟩ := hcut
                obtain ⟨wz, rfl⟩ : ∃ wz : World, wz = wc := ⟨_, rfl⟩
                have hlb := hF.leftB
                have hop := hF.someB hlp
                have hsz := hb.size
                obtain ⟨mu, hmu⟩ : ∃ mu, mu = min n left3 := ⟨_, rfl⟩
                have hm1 : 1 ≤ mu ∧ mu ≤ n ∧ mu ≤ left3 := by omega
                have HMU := hid hmu
                have hl3 : out3.length - 1 < out3.length := by omega
                have hl3' : out3.length - 1 < vs3.length := by rw [hT.len]; exact hl3
                have hro := hT.rows _ hl3 hl3'
                have eo : out3.getD (out3.length - 1) [] = out3[out3.length - 1] := by rw [List.getD_eq_getElem?_getD, List.getElem?_eq_getElem hl3]; rfl
                have ev : vs3.getD (out3.length - 1) undef = vs3[out3.length - 1] := by rw [List.getD_eq_getElem?_getD, List.getElem?_eq_getElem hl3']; rfl
                obtain ⟨a9, c9, hv9, -, -⟩ := owns_slice hro
                obtain ⟨g, cap, hv3, hcap1, hcap2, hgB, hRow⟩ := Row.of_owns hT.own hop
                simp only [Value.slice.injEq] at hv3
                obtain ⟨rfl, -, rfl⟩ := hv3
                have hgc := hRow.cell hl3'
                have hgf := hRow.frozen (out3.length - 1)
                rw [hv9] at hgc
                have hlen9 : ((out3[out3.length - 1]).length : Int) ≤ 1000000000 := by
                  rcases hF.lastB with h | h
                  · rw [eo] at h; omega
                  · rw [h] at hop; cases hop
                rw [← ev] at hro hv9
                rw [← eo] at hro hv9 hgc hlen9
                obtain ⟨tl, htl⟩ : ∃ tl, tl = out3.getD (out3.length - 1) [] := ⟨_, rfl⟩
                rw [← htl] at hro hv9 hgc hlen9
                have HTL := hid htl
                have HV9 := hid hv9
                have hix : ∀ w, (Instr.indexAt 39 (.slice (some ⟨g, 0, none⟩) out3.length cp3) (.int .i64 ((out3.length : Int) - 1))).run Try.prog w = .ok (.pointer (some ⟨g, out3.length - 1, none⟩)) w := fun w => by
                  have := idx_at1 (c := cp3) Try.underlying39 sz_truck (a := some ⟨g, 0, none⟩) rfl hl3 w
                  rw [show ((out3.length - 1 : Nat) : Int) = (out3.length : Int) - 1 by omega, Nat.zero_add] at this
                  exact this
                have h1L : (1 : Int) ≤ (out3.length : Int) := by omega
                have h2L : (out3.length : Int) ≤ 60 := by have := hF.manyB; omega
                have HT5 := hid hT
                have HF5 := hid hF
                have HFO := hid hfo
                have hro0 : wz.ownsRow wO.heap.size 105 2 (.slice a9 tl.length c9) tl.length (tl.flatMap stopV) := by rw [hv9] at hro; exact hro
                have HRO := hid hro0
                clear hT hF hfo htl hv9 hmu eo ev hro hro0
                obtain ⟨i1, hi, hi0, hi1, hi2⟩ := info_parts info_stop
                have hown1 := HRO.out.alloc (.cells #[.int .i64 s0, .int .i64 (min n left3)] 105)
                have hmn : 1 ≤ min n left3 ∧ min n left3 ≤ n ∧ min n left3 ≤ left3 := by omega
                have HST := hid (HFO.out)
                go_wp2_with (at_builtin; refine wpList_append_own_at _ rfl _ _ 106 rfl wO.heap.size 105 i1 (.agg #[.int .i64 0, .int .i64 0]) 2 16 Try.underlying106 hi hi0 hi1 hi2 rfl (by decide) _ _ _ rfl hown1 ⟨wz.heap.size, 0, none⟩ 1 1 [.int .i64 s0, .int .i64 (min n left3)] rfl rfl ?c1 ?c2 ?c3 ?c4 ?c5 ?_)
                case c1 => exact cells_new (cs := [.int .i64 s0, .int .i64 (min n left3)]) rfl _
                case c2 => intro u hu; simp at hu; rcases hu with rfl | rfl <;> rfl
                case c3 => unfold maxLen; omega
                case c4 => omega
                case c5 => simp; omega
                intro v' w2 hown' hgrow _ hat
                obtain ⟨ao', cp', hv', -, -⟩ := owns_slice hown'
                subst hv'
                have hRow2 := (hRow.alloc (.cells #[.int .i64 s0, .int .i64 (min n left3)] 105)).grown hown1 (by decide) hgrow
                have r0 := hRow2.cell hl3'
                have r1 := hRow2.frozen (out3.length - 1)
                obtain ⟨rv, hrv⟩ : ∃ rv, rv = vs3[out3.length - 1] := ⟨_, rfl⟩
                rw [← hrv] at r0
                have hTa : TOwn 108 105 (wz.alloc (.cells #[.int .i64 s0, .int .i64 (min n left3)] 105)) wO.heap.size (.slice (some ⟨g, 0, none⟩) out3.length cp3) out3 vs3 := HT5.out.below ((Below.refl _ _).alloc (Nat.le_refl _) _)
                have HT6 := hid (hTa.stop (s := ⟨s0, min n left3⟩) (u := .slice ao' (tl.length + 1) cp') (by decide) hop (by rw [HV9.out]; exact hgrow) (by rw [← HTL.out]; exact hown') (by
                  rw [HV9.out]
                  rcases hat with h | h
                  · exact .inl h
                  · exact .inr ⟨_, h, by simp⟩))
                have HF6 := hid (HF5.out.stop (s := ⟨s0, min n left3⟩) (much := min n left3) htr.2 hlp hmn.1 hmn.2.2 ⟨by unfold wf64; simp only []; omega, by unfold wf64; simp only []; omega⟩)
                have hB2 := below_owned (w := wz.alloc (.cells #[.int .i64 s0, .int .i64 (min n left3)] 105)) (hb.alloc hsz _) hown1 (by simp; omega) (Nat.le_refl _) hgrow
                have HB6 := hid (hB2.setCell (p := ⟨g, out3.length - 1, none⟩) hgB (.slice ao' (tl.length + 1) cp'))
                have HAL := hid (show (addLast out3 ⟨s0, min n left3⟩).length = out3.length from by unfold addLast; simp)
                clear hown' hgrow hown1 hi hi0 hi1 hi2 hTa hat hB2 hRow hRow2 hrv hgc hgf HT5 HF5
                go_wp2
                go_roundw
                case rel => exact ⟨f', n - min n left3, some ⟨g, 0, none⟩, cp3, addLast out3 ⟨s0, min n left3⟩, left3 - min n left3, vs3.set (out3.length - 1) (.slice ao' (tl.length + 1) cp'), rfl, by omega, by omega, by rw [HAL.out], rfl, HT6.out, HF6.out, HST.out, HB6.out⟩
                case measure => simp [intOf]; omega
            · have HD := hid (fillOne_done (many := x.tmany) (room := x.troom) (s := s0) (f := f) (out := out2) (left := left2) (by omega : n ≤ 0))
              have HT4 := hid hT
              have HF4 := hid hF
              have HFB := hid (show fillAll x.tmany x.troom l os [] 0 = fillAll x.tmany x.troom l (os.drop (k + 1)) out2 left2 from by rw [HFA.out, hfo, HD.out])
              clear hT hF hfo
              go_wp2
              go_roundw
              case rel => exact ⟨k + 1, ao2, cp2, out2, left2, vs2, by omega, by go_num, rfl, rfl, HT4.out, HF4.out, HFB.out, hb⟩
              case measure => simp [intOf]; omega
        · have hke : k = os.length := by omega
          subst hke
          have HE := hid (show trucksH x l = (out, 0) from by rw [HT2.out, hfa, List.drop_length]; rfl)
          have HR := hid (trucksS.weak (hT.rep hF.wfB) (G := fun b => w.heap.size ≤ b) (fun b h => Nat.le_trans hsO h))
          have hBx := hBO.trans (hb.mono hsO)
          clear hfa hT hF ha2 hcell2 hwf2 ha5
          go_wp2
          go_ret2
          exact ⟨_, by rw [HE.out]; rfl, by rw [HE.out]; exact HR.out, hBx⟩
end Go.Proofs.Ytafhjfkdlmijdaa
