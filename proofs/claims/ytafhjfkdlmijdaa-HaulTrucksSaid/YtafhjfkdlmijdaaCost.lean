/- Contract: plan.Cost. -/
import Derived.Test.YtafhjfkdlmijdaaNodes
import Derived.Test.YtafhjfkdlmijdaaTail
namespace Go.Proofs.Ytafhjfkdlmijdaa
open Go.RowKit

/-- What the first so many trucks, bikes cost. -/
def costT (x : InstD) (l : List (List StopD)) (k : Nat) : Int := ((l.take k).map fun t => wayD x (truckNodes t)).sum
def costB (x : InstD) (l : List BikeD) (k : Nat) : Int := ((l.take k).map fun b => wayD x (bikeNodes x b)).sum
/-- plan.Cost, of a plan that may be -/
def costD (x : InstD) (p : PlanD) : Int := costT x p.trucks p.trucks.length + costB x p.bikes p.bikes.length
theorem costT_succ {x : InstD} {l : List (List StopD)} {k : Nat} (h : k < l.length) : costT x l (k + 1) = costT x l k + wayD x (truckNodes l[k]) := by
  unfold costT; rw [List.take_succ_eq_append_getElem h, List.map_append, List.sum_append]; simp
theorem costB_succ {x : InstD} {l : List BikeD} {k : Nat} (h : k < l.length) : costB x l (k + 1) = costB x l k + wayD x (bikeNodes x l[k]) := by
  unfold costB; rw [List.take_succ_eq_append_getElem h, List.map_append, List.sum_append]; simp
theorem wayD_bd {x : InstD} (g : Good x) (l : List Int) : 0 ≤ wayD x l ∧ wayD x l ≤ 1000000000 * (l.length : Int) := wayUp_bd g l l.length
theorem costT_bd {x : InstD} (g : Good x) (l : List (List StopD)) : ∀ k : Nat, k ≤ l.length → 0 ≤ costT x l k ∧ costT x l k ≤ 1000000000 * ((k + tstopsUp l k : Nat) : Int)
  | 0, _ => by unfold costT tstopsUp; simp
  | k + 1, h => by
    have h1 := costT_bd g l k (by omega)
    have h2 := wayD_bd g (truckNodes (l[k]'(by omega)))
    have h3 : (truckNodes (l[k]'(by omega))).length = (l[k]'(by omega)).length + 1 := by simp [truckNodes]
    rw [h3] at h2
    rw [costT_succ (by omega), tstopsUp_succ (by omega)]
    push_cast at h1 h2 ⊢; omega
theorem costB_bd {x : InstD} (g : Good x) (l : List BikeD) : ∀ k : Nat, k ≤ l.length → 0 ≤ costB x l k ∧ costB x l k ≤ 1000000000 * ((k + stopsUp l k : Nat) : Int)
  | 0, _ => by unfold costB stopsUp; simp
  | k + 1, h => by
    have h1 := costB_bd g l k (by omega)
    have h2 := wayD_bd g (bikeNodes x (l[k]'(by omega)))
    have h3 : (bikeNodes x (l[k]'(by omega))).length = (l[k]'(by omega)).stops.length + 1 := by simp [bikeNodes]
    rw [h3] at h2
    rw [costB_succ (by omega), stopsUp_succ (by omega)]
    push_cast at h1 h2 ⊢; omega
/-- plan.Cost -/
def costOf (x : InstD) (p : PlanD) : Int := if planCheck x p = 0 then costD x p else 0
def CustOk (x : InstD) (c : Int) : Prop := 0 ≤ c ∧ c < x.custs.length
theorem custBad_false {x : InstD} {m : Nat} {c : Int} (h : custBad x m c = false) : CustOk x c := by
  simp only [custBad, Bool.or_eq_false_iff, decide_eq_false_iff_not] at h
  unfold CustOk; omega
theorem custs_some {x : InstD} : ∀ (l : List Int) (m : Nat) (left : Int) (r : Nat × Int), l.foldl (custSt x) (some (m, left)) = some r → ∀ s ∈ l, CustOk x s
  | [], _, _, _, _, s, hs => by cases hs
  | a :: l, m, left, r, h, s, hs => by
    rw [List.foldl_cons] at h
    cases hb : custBad x m a
    · rw [custSt_ok hb] at h
      rcases List.mem_cons.1 hs with rfl | hs
      · exact custBad_false hb
      · exact custs_some l _ _ r h s hs
    · rw [custSt_bad hb, custs_none] at h; cases h
def BikeOk (x : InstD) (b : BikeD) : Prop := (0 ≤ b.sat ∧ b.sat < x.sats.length) ∧ 0 < b.stops.length ∧ ∀ c ∈ b.stops, CustOk x c
theorem bikeGo_some {x : InstD} : ∀ (l : List BikeD) (m : Nat) (d : Bool), (bikeGo x l m d).1 = true → ∀ b ∈ l, BikeOk x b
  | [], _, _, _, _, h => by cases h
  | a :: l, m, d, h, b, hb => by
    cases ha : bikeBad x a
    case true => rw [bikeGo_bad ha] at h; cases h
    cases hs : bikeSt x m a.stops with
    | none => rw [bikeGo_none hs] at h; cases h
    | some q =>
      obtain ⟨m', left⟩ := q
      rw [bikeGo_ok ha hs] at h
      rcases List.mem_cons.1 hb with rfl | hb
      · simp only [bikeBad, Bool.or_eq_false_iff, decide_eq_false_iff_not] at ha
        exact ⟨by omega, by omega, custs_some _ _ _ _ hs⟩
      · exact bikeGo_some l _ _ h b hb
structure PlanOk (x : InstD) (p : PlanD) : Prop where
  inst : check x = 0
  many : p.trucks.length ≤ x.tmany ∧ p.bikes.length ≤ x.bmany
  truck : ∀ t ∈ p.trucks, 0 < t.length ∧ ∀ s ∈ t, StopOk x s
  bike : ∀ b ∈ p.bikes, BikeOk x b
theorem planOk_of {x : InstD} {p : PlanD} (h : planCheck x p = 0) : PlanOk x p := by
  unfold planCheck at h
  split at h
  · rename_i h0; exact absurd h h0
  rename_i h0
  split at h
  · cases h
  rename_i h1
  split at h
  · cases h
  rename_i h2
  have h0' : check x = 0 := by simpa using h0
  have h3 : (trucksB x p.trucks).1 = true ∧ (bikesB x p.bikes).1 = true := by simpa using h2
  exact ⟨h0', by omega, trucksB_ok h3.1, bikeGo_some _ _ _ h3.2⟩
theorem truckNodes_in {x : InstD} {t : List StopD} (h : ∀ s ∈ t, StopOk x s) : ∀ a ∈ truckNodes t, 0 ≤ a ∧ a < nodes x := by
  intro a ha
  simp only [truckNodes, List.mem_cons, List.mem_map] at ha
  unfold nodes
  rcases ha with rfl | ⟨s, hs, rfl⟩
  · omega
  · have := (h s hs).1; omega
theorem bikeNodes_in {x : InstD} {b : BikeD} (h : BikeOk x b) : ∀ a ∈ bikeNodes x b, 0 ≤ a ∧ a < nodes x := by
  intro a ha
  simp only [bikeNodes, List.mem_cons, List.mem_map] at ha
  unfold nodes
  have h1 := h.1
  rcases ha with rfl | ⟨s, hs, rfl⟩
  · omega
  · have := h.2.2 s hs; unfold CustOk at this; omega

set_option maxRecDepth 100000 in
set_option maxHeartbeats 3200000 in
theorem cost_c {w : World} {F G : Nat → Prop} {x : InstD} {p : PlanD} {cs ps : List Value} (h : instS.rep w F x cs) (hp : planS.rep w G p ps) (hn : check x = 0 → x.custs.length ≤ 6) (hsm : PlanSmall p) :
    Calls Try.prog 62 #[.agg cs.toArray, .agg ps.toArray] w fun e w' => e = .returned (.tuple #[.int .i64 (costOf x p), .int .i64 (planCheck x p)]) ∧ Below w.heap.size w w' := by
  have hrep := h
  have hprep := hp
  obtain ⟨s, c, co, ti, rfl, -, -, -, -, -⟩ := h
  obtain ⟨tv, bv, rfl, h3, h4⟩ := hp
  obtain ⟨a2, b2, off2, c2, hs2, hl2, hc2, ha2, -, hcell2⟩ := trucks_open h3
  obtain rfl := List.cons.inj hs2 |>.1
  obtain ⟨a4, b4, off4, c4, hs4, hl4, hc4, ha4, -, hcell4⟩ := bikes_open h4
  obtain rfl := List.cons.inj hs4 |>.1
  clear hs2 hs4 h3 h4
  have R := (Row.new (w := w) (e := 33) (cs := [.int .i64 x.fin, .int .i64 x.tmany, .int .i64 x.troom, .int .i64 x.bmany, .int .i64 x.broom, s, c, co, ti]) rfl).alloc (.cells #[.slice a2 p.trucks.length c2, .slice a4 p.bikes.length c4] 46)
  have RP := Row.new (w := w.alloc (.cells #[.int .i64 x.fin, .int .i64 x.tmany, .int .i64 x.troom, .int .i64 x.bmany, .int .i64 x.broom, s, c, co, ti] 33)) (e := 46) (g := w.heap.size + 1) (cs := [.slice a2 p.trucks.length c2, .slice a4 p.bikes.length c4]) (by simp)
  have hb0 : Below w.heap.size w ((w.alloc (.cells #[.int .i64 x.fin, .int .i64 x.tmany, .int .i64 x.troom, .int .i64 x.bmany, .int .i64 x.broom, s, c, co, ti] 33)).alloc (.cells #[.slice a2 p.trucks.length c2, .slice a4 p.bikes.length c4] 46)) := ((Below.refl _ _).alloc (Nat.le_refl _) _).alloc (by simp) _
  have HS := hid hsm
  have HC2 := hid hcell2
  have HC4 := hid hcell4
  clear hcell2 hcell4
  by_cases hpc : planCheck x p = 0
  case neg =>
    have hck2 := bne_zero hpc
    have HE := hid (show costOf x p = 0 from if_neg hpc)
    clear hpc
    go_enter Try.func62, Try.ntmps62
    go_wp2_with fail
    refine (planCheck_c (instS.below hrep hb0) (planS.below hprep hb0) hn hsm).mono ?_
    rintro e w1 ⟨rfl, hb1⟩
    clear hsm
    go_wp2
    go_ret2
    exact ⟨by rw [HE.out]; rfl, below_step hb0 hb1⟩
  have ok := planOk_of hpc
  have gd := good_of ok.inst
  have hss := gd.sats
  have hn6 := hn ok.inst
  have hmn := ok.many
  have htm := gd.tmany
  have hbm := gd.bmany
  have OK := hid ok
  have GD := hid gd
  have HE := hid (show costOf x p = costD x p from if_pos hpc)
  have HPC := hid hpc
  clear hpc ok gd
  go_enter Try.func62, Try.ntmps62
  go_wp2_with fail
  refine (planCheck_c (instS.below hrep hb0) (planS.below hprep hb0) hn hsm).mono ?_
  rintro e w1 ⟨rfl, hb1⟩
  rw [HPC.out]
  have R1 := R.below hb1
  have RP1 := RP.below hb1
  have hB1 := below_step hb0 hb1
  have hz1 := RP1.lt
  have hts := HS.out.2
  have hbs := HS.out.1
  clear R RP hb0 hb1 hn hsm
  obtain ⟨p0, p1⟩ := row2 RP1
  go_wp2
  go_loopw [7, 21] (fun ss i wr => ∃ k : Nat, k ≤ p.trucks.length ∧ i = .int .i64 k ∧ ss = .int .i64 (costT x p.trucks k) ∧ Row wr w.heap.size 33 [.int .i64 x.fin, .int .i64 x.tmany, .int .i64 x.troom, .int .i64 x.bmany, .int .i64 x.broom, s, c, co, ti] ∧
      Row wr (w.heap.size + 1) 46 [.slice a2 p.trucks.length c2, .slice a4 p.bikes.length c4] ∧ Below w.heap.size w wr) (fun _ i _ => p.trucks.length - (intOf i).toNat)
  case atStart => exact ⟨0, Nat.zero_le _, rfl, rfl, R1, RP1, hB1⟩
  case round =>
    clear p0 p1 R1 RP1 hB1 hz1
    obtain ⟨k, hk, rfl, rfl, R, RP, hb⟩ := hrel
    obtain ⟨wo, rfl⟩ : ∃ wo : World, wo = wr := ⟨_, rfl⟩
    have hcb := costT_bd GD.out p.trucks k hk
    have htu : tstopsUp p.trucks k ≤ 1000000 := by
      by_cases hlt : k < p.trucks.length
      · have h1 := tstopsUp_succ hlt; have h2 := tstopsUp_le (l := p.trucks) (k := k + 1); omega
      · have : k = p.trucks.length := by omega
        subst this; exact hts
    have hkk : 1000000000 * ((k + tstopsUp p.trucks k : Nat) : Int) ≤ 1000000000 * 1000060 := by omega
    have hzz := RP.lt
    by_cases hlt : k < p.trucks.length
    · have hx := idx_at1 (c := c2) Try.underlying39 sz_truck (ha2 (by omega)) hlt
      obtain ⟨sv, g0, hr0⟩ := HC2.out k hlt
      have htl := tstopsUp_all (List.getElem_mem hlt)
      have hok := OK.out.truck _ (List.getElem_mem hlt)
      have HS2 := hid (costT_succ (x := x) hlt)
      obtain ⟨tr, htr⟩ : ∃ tr, tr = p.trucks[k] := ⟨_, rfl⟩
      obtain ⟨sm, hsm⟩ : ∃ sm, sm = costT x p.trucks k := ⟨_, rfl⟩
      rw [← htr] at hr0 htl hok HS2
      rw [← hsm] at hcb HS2 ⊢
      have hwb := wayD_bd GD.out (truckNodes tr)
      have hnl : (truckNodes tr).length = tr.length + 1 := by simp [truckNodes]
      have HNL := hid hnl
      have hwb2 : wayD x (truckNodes tr) ≤ 1000000000 * 1000001 := by rw [hnl] at hwb; omega
      obtain ⟨a3, b3, off3, c3, hs3, hl3, hc3, -, -, -, -⟩ := stops_open hr0
      obtain rfl := List.cons.inj hs3 |>.1
      have g1 := below_cell hb g0
      have hrt := (sliceS stopS).below hr0 hb
      clear htr hsm ha2 g0 hr0 hnl hs3
      go_wp2
      generalize hwq : wo.alloc (.cells #[.slice a3 tr.length c3] 108) = wq
      have HWQ := hid hwq
      have hob : Old wo wq := by rw [← hwq]; exact (Below.refl _ _).alloc (Nat.le_refl _) _
      have k0 : wq.cell? ⟨wo.heap.size, 0, none⟩ = some (.slice a3 tr.length c3) := by rw [← hwq]; simp
      have R1 := R.below hob
      have RP1 := RP.below hob
      have hB1 := below_step hb hob
      have hrt1 := (sliceS stopS).below hrt hob
      have hzq : wo.heap.size < wq.heap.size := by rw [← hwq]; simp
      clear hwq hob hrt R RP hb g1
      obtain ⟨q0, q1, q2, q3, q4, q5, q6, q7, q8⟩ := row9 R1
      have z0 : ∀ e : At (Old wq), _ := fun e => e.cell q0
      have z1 : ∀ e : At (Old wq), _ := fun e => e.cell q1
      have z2 : ∀ e : At (Old wq), _ := fun e => e.cell q2
      have z3 : ∀ e : At (Old wq), _ := fun e => e.cell q3
      have z4 : ∀ e : At (Old wq), _ := fun e => e.cell q4
      have z5 : ∀ e : At (Old wq), _ := fun e => e.cell q5
      have z6 : ∀ e : At (Old wq), _ := fun e => e.cell q6
      have z7 : ∀ e : At (Old wq), _ := fun e => e.cell q7
      have z8 : ∀ e : At (Old wq), _ := fun e => e.cell q8
      have z9 : ∀ e : At (Old wq), _ := fun e => e.cell k0
      refine wp_region_mix (Old wq) [] [([0, 1, 2, 3], 4, false), ([], 5, false), ([6], 7, false)] (by kernel_rfl) (by kernel_rfl) (fun _ _ d _ _ h => by cases d <;> exact h) (Old.drew _) ?_
      simp only [mixOf, List.map_cons, List.map_nil, Array.getD_eq_getD_getElem?, List.getElem?_toArray, List.getElem?_cons_succ, List.getElem?_cons_zero, Option.getD_some, wpMix]
      repeat (go_big_quiet_step (fail))
      refine wpQuiet_nil ?_
      have hO0 := Old.drew wq
      go_wp2_with fail
      refine (truckNodes_c (instS.below hrep (below_step hB1 hO0)) ((sliceS stopS).below hrt1 hO0) (fun s hs => by have := (hok.2 s hs).1; omega) (by omega)).mono ?_
      rintro e w2 ⟨u, rfl, hu, hb2⟩
      have hO2 := hO0.step hb2
      go_wp2_with fail
      refine ⟨hO2, wpQuiet_nil ?_⟩
      go_wp2_with fail
      refine (way_c (instS.below hrep (below_step hB1 hO2)) hu OK.out.inst (truckNodes_in hok.2) (by rw [HNL.out]; omega)).mono ?_
      rintro e w3 ⟨rfl, hb3⟩
      have hO3 := hO2.step hb3
      go_wp2_with fail
      refine ⟨hO3, ?_⟩
      obtain ⟨wd, hwd⟩ : ∃ wd, wd = wayD x (truckNodes tr) := ⟨_, rfl⟩
      rw [← hwd] at hwb hwb2 HS2 ⊢
      clear hwd
      repeat (go_big_quiet_step (fail))
      refine wpQuiet_nil ?_
      go_wp2_with fail
      refine ⟨hO3, ?_⟩
      go_wp2
      go_roundw
      case rel => exact ⟨k + 1, by omega, by go_num, by rw [HS2.out], R1.below hO3, RP1.below hO3, below_step hB1 hO3⟩
      case measure => simp [intOf]; omega
    · have hke : k = p.trucks.length := by omega
      subst hke
      obtain ⟨T, hT⟩ : ∃ T, T = costT x p.trucks p.trucks.length := ⟨_, rfl⟩
      rw [← hT] at hcb ⊢
      have HT := hid hT
      have hTb : 0 ≤ T ∧ T ≤ 1000000000 * 1000060 := by omega
      obtain ⟨p0, p1⟩ := row2 RP
      clear hT hcb htu hkk hk HC2 ha2
      go_wp2
      go_loopw [7, 36] (fun ss i wr => ∃ k : Nat, k ≤ p.bikes.length ∧ i = .int .i64 k ∧ ss = .int .i64 (T + costB x p.bikes k) ∧ Row wr w.heap.size 33 [.int .i64 x.fin, .int .i64 x.tmany, .int .i64 x.troom, .int .i64 x.bmany, .int .i64 x.broom, s, c, co, ti] ∧
          Below w.heap.size w wr) (fun _ i _ => p.bikes.length - (intOf i).toNat)
      case atStart => exact ⟨0, Nat.zero_le _, rfl, by unfold costB; simp, R, hb⟩
      case round =>
        clear p0 p1 R RP hb hzz
        obtain ⟨k, hk, rfl, rfl, R, hb⟩ := hrel
        obtain ⟨wo, rfl⟩ : ∃ wo : World, wo = wr := ⟨_, rfl⟩
        have hcb := costB_bd GD.out p.bikes k hk
        have htu : stopsUp p.bikes k ≤ 1000000 := by
          by_cases hlt : k < p.bikes.length
          · have h1 := stopsUp_succ hlt; have h2 := stopsUp_le (l := p.bikes) (k := k + 1); omega
          · have : k = p.bikes.length := by omega
            subst this; exact hbs
        have hkk : 1000000000 * ((k + stopsUp p.bikes k : Nat) : Int) ≤ 1000000000 * 1000060 := by omega
        have hzz := R.lt
        by_cases hlt : k < p.bikes.length
        · have hx := idx_at (c := c4) Try.underlying44 sz_bike (ha4 (by omega)) hlt
          obtain ⟨sv, g0, g0', hwf0, hr0⟩ := HC4.out k hlt
          have htl := stopsUp_all (List.getElem_mem hlt)
          have hok := OK.out.bike _ (List.getElem_mem hlt)
          have HS2 := hid (costB_succ (x := x) hlt)
          obtain ⟨tr, htr⟩ : ∃ tr, tr = p.bikes[k] := ⟨_, rfl⟩
          obtain ⟨sm, hsm⟩ : ∃ sm, sm = costB x p.bikes k := ⟨_, rfl⟩
          rw [← htr] at hr0 htl hok HS2 g0 hwf0
          rw [← hsm] at hcb HS2 ⊢
          have hwb := wayD_bd GD.out (bikeNodes x tr)
          have hnl : (bikeNodes x tr).length = tr.stops.length + 1 := by simp [bikeNodes]
          have HNL := hid hnl
          have hwb2 : wayD x (bikeNodes x tr) ≤ 1000000000 * 1000001 := by rw [hnl] at hwb; omega
          obtain ⟨a3, b3, off3, c3, hs3, hl3, hc3, -, -, -, -⟩ := ints_open hr0
          obtain rfl := List.cons.inj hs3 |>.1
          have g1 := below_cell hb g0
          have g1' := below_cell hb g0'
          have hrt := (sliceS intS).below hr0 hb
          clear htr hsm ha4 g0 g0' hr0 hnl hs3
          go_wp2
          generalize hwq : wo.alloc (.cells #[.int .i64 tr.sat, .slice a3 tr.stops.length c3] 128) = wq
          have hob : Old wo wq := by rw [← hwq]; exact (Below.refl _ _).alloc (Nat.le_refl _) _
          have k0 : wq.cell? ⟨wo.heap.size, 0, none⟩ = some (.int .i64 tr.sat) := by rw [← hwq]; simp
          have k1 : wq.cell? ⟨wo.heap.size, 1, none⟩ = some (.slice a3 tr.stops.length c3) := by rw [← hwq]; simp
          have R1 := R.below hob
          have hB1 := below_step hb hob
          have hrt1 : bikeS.rep wq G tr [.int .i64 tr.sat, .slice a3 tr.stops.length c3] := ⟨_, rfl, hwf0, (sliceS intS).below hrt hob⟩
          have hzq : wo.heap.size < wq.heap.size := by rw [← hwq]; simp
          clear hwq hob hrt R hb g1 g1'
          obtain ⟨q0, q1, q2, q3, q4, q5, q6, q7, q8⟩ := row9 R1
          have z0 : ∀ e : At (Old wq), _ := fun e => e.cell q0
          have z1 : ∀ e : At (Old wq), _ := fun e => e.cell q1
          have z2 : ∀ e : At (Old wq), _ := fun e => e.cell q2
          have z3 : ∀ e : At (Old wq), _ := fun e => e.cell q3
          have z4 : ∀ e : At (Old wq), _ := fun e => e.cell q4
          have z5 : ∀ e : At (Old wq), _ := fun e => e.cell q5
          have z6 : ∀ e : At (Old wq), _ := fun e => e.cell q6
          have z7 : ∀ e : At (Old wq), _ := fun e => e.cell q7
          have z8 : ∀ e : At (Old wq), _ := fun e => e.cell q8
          have z9 : ∀ e : At (Old wq), _ := fun e => e.cell k0
          have z10 : ∀ e : At (Old wq), _ := fun e => e.cell k1
          refine wp_region_mix (Old wq) [] [([0, 1, 2, 3], 4, false), ([], 5, false), ([6], 7, false)] (by kernel_rfl) (by kernel_rfl) (fun _ _ d _ _ h => by cases d <;> exact h) (Old.drew _) ?_
          simp only [mixOf, List.map_cons, List.map_nil, Array.getD_eq_getD_getElem?, List.getElem?_toArray, List.getElem?_cons_succ, List.getElem?_cons_zero, Option.getD_some, wpMix]
          repeat (go_big_quiet_step (fail))
          refine wpQuiet_nil ?_
          have hO0 := Old.drew wq
          go_wp2_with fail
          refine (bikeNodes_c (instS.below hrep (below_step hB1 hO0)) (bikeS.below hrt1 hO0) (by omega) (by have := hok.1; omega) (fun s hs => by have := hok.2.2 s hs; unfold CustOk at this; omega) (by omega)).mono ?_
          rintro e w2 ⟨u, rfl, hu, hb2⟩
          have hO2 := hO0.step hb2
          go_wp2_with fail
          refine ⟨hO2, wpQuiet_nil ?_⟩
          go_wp2_with fail
          refine (way_c (instS.below hrep (below_step hB1 hO2)) hu OK.out.inst (bikeNodes_in hok) (by rw [HNL.out]; omega)).mono ?_
          rintro e w3 ⟨rfl, hb3⟩
          have hO3 := hO2.step hb3
          go_wp2_with fail
          refine ⟨hO3, ?_⟩
          obtain ⟨wd, hwd⟩ : ∃ wd, wd = wayD x (bikeNodes x tr) := ⟨_, rfl⟩
          rw [← hwd] at hwb hwb2 HS2 ⊢
          clear hwd
          repeat (go_big_quiet_step (fail))
          refine wpQuiet_nil ?_
          go_wp2_with fail
          refine ⟨hO3, ?_⟩
          go_wp2
          go_roundw
          case rel => exact ⟨k + 1, by omega, by go_num, by rw [HS2.out, Int.add_assoc], R1.below hO3, below_step hB1 hO3⟩
          case measure => simp [intOf]; omega
        · have hke : k = p.bikes.length := by omega
          subst hke
          have HF := hid (show costOf x p = T + costB x p.bikes p.bikes.length from by rw [HE.out, HT.out]; rfl)
          obtain ⟨B, hB⟩ : ∃ B, B = costB x p.bikes p.bikes.length := ⟨_, rfl⟩
          rw [← hB] at hcb HF ⊢
          clear hB HC4 ha4
          go_wp2
          go_ret2
          exact ⟨by rw [HF.out, HPC.out]; rfl, hb⟩
end Go.Proofs.Ytafhjfkdlmijdaa
