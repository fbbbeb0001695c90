/- Contract: plan.Check. -/
import Derived.Test.YtafhjfkdlmijdaaGood
import Derived.Test.YtafhjfkdlmijdaaEq
namespace Go.Proofs.Ytafhjfkdlmijdaa
open Go.RowKit

def overB (x : InstD) (l : List Int) (k : Nat) : Bool := (List.range k).any fun i => decide ((x.sats.getD i ⟨0, 0⟩).room < l.getD i 0)
theorem overB_succ (x : InstD) (l : List Int) (k : Nat) : overB x l (k + 1) = (overB x l k || decide ((x.sats.getD k ⟨0, 0⟩).room < l.getD k 0)) := by
  unfold overB; rw [List.range_succ, List.any_append]; simp
theorem overB_ge {x : InstD} {l : List Int} {k n : Nat} (h : overB x l k = true) (hk : k ≤ n) : overB x l n = true := by
  simp only [overB, List.any_eq_true, List.mem_range] at h ⊢
  obtain ⟨i, hi, h⟩ := h
  exact ⟨i, by omega, h⟩
/-- plan.Check -/
def planCheck (x : InstD) (p : PlanD) : Int :=
  if check x ≠ 0 then check x else
  if x.tmany < p.trucks.length ∨ x.bmany < p.bikes.length then 11 else
  if (trucksB x p.trucks).1 = false ∨ (bikesB x p.bikes).1 = false then 15 else
  if (bikesB x p.bikes).2.1 = false then 8 else
  if (trucksB x p.trucks).2 = false ∨ (bikesB x p.bikes).2.2 = false then 10 else
  if overB x (loadsD x p.bikes) x.sats.length = true then 10 else
  if loadsD x p.bikes = dropsD x p.trucks then 0 else 13
/-- A plan of few stops. -/
def PlanSmall (p : PlanD) : Prop := stopsUp p.bikes p.bikes.length ≤ 1000000 ∧ tstopsUp p.trucks p.trucks.length ≤ 1000000
theorem loadsD_len (x : InstD) (l : List BikeD) : (loadsD x l).length = x.sats.length := by unfold loadsD; rw [addBikes_len]; simp
theorem dropsD_len (x : InstD) (l : List (List StopD)) : (dropsD x l).length = x.sats.length := by unfold dropsD; rw [addTrucks_len]; simp
theorem small9_wf {l : List Int} {n : Nat} (h : Small9 l n) (hn : n ≤ 1000000) : ∀ v ∈ l, wf64 v := fun v hv => by have := h v hv; unfold wf64; omega
theorem addLoads_small (x : InstD) (hcu : ∀ c ∈ x.custs, 0 ≤ c.load ∧ c.load ≤ 1000000000) (sat : Int) : ∀ (l : List Int) (out : List Int) (n : Nat), Small9 out n → Small9 (l.foldl (addLoad x sat) out) (n + l.length)
  | [], out, n, h => h
  | c :: l, out, n, h => by
    rw [List.foldl_cons, List.length_cons, show n + (l.length + 1) = (n + 1) + l.length by omega]
    refine addLoads_small x hcu sat l _ _ ?_
    unfold addLoad
    split
    · rename_i hc
      have hc2 : c.toNat < x.custs.length := by omega
      refine h.add ?_ ?_
      · rw [List.getD_eq_getElem?_getD, List.getElem?_eq_getElem (by omega)]; exact h.get (by omega)
      · rw [List.getD_eq_getElem?_getD, List.getElem?_eq_getElem hc2]; exact hcu _ (List.getElem_mem hc2)
    · exact h.mono (by omega)
theorem addBikes_small (x : InstD) (hcu : ∀ c ∈ x.custs, 0 ≤ c.load ∧ c.load ≤ 1000000000) : ∀ (l : List BikeD) (out : List Int) (n : Nat), Small9 out n → Small9 (l.foldl (addBike x) out) (n + stopsUp l l.length)
  | [], out, n, h => h.mono (by omega)
  | b :: l, out, n, h => by
    have e : stopsUp (b :: l) (b :: l).length = b.stops.length + stopsUp l l.length := by unfold stopsUp; simp
    rw [List.foldl_cons, e, ← Nat.add_assoc]
    exact addBikes_small x hcu l _ _ (addLoads_small x hcu b.sat b.stops out n h)
theorem loadsD_small {x : InstD} {l : List BikeD} (hcu : ∀ c ∈ x.custs, 0 ≤ c.load ∧ c.load ≤ 1000000000) : Small9 (loadsD x l) (stopsUp l l.length) := by
  have := addBikes_small x hcu l _ 0 (Small9.zero x.sats.length)
  rwa [Nat.zero_add] at this
theorem addStops_small : ∀ (l : List StopD) (out : List Int) (n : Nat), (∀ s ∈ l, (0 ≤ s.sat ∧ s.sat < out.length) ∧ 1 ≤ s.load ∧ s.load ≤ 1000000000) → Small9 out n → Small9 (l.foldl addStop out) (n + l.length)
  | [], out, n, _, h => h
  | c :: l, out, n, ho, h => by
    rw [List.foldl_cons, List.length_cons, show n + (l.length + 1) = (n + 1) + l.length by omega]
    refine addStops_small l _ _ (fun s hs => by rw [addStop_len]; exact ho s (List.mem_cons_of_mem _ hs)) ?_
    have hc := ho c (List.mem_cons_self ..)
    unfold addStop
    refine h.add ?_ ⟨by omega, by omega⟩
    rw [List.getD_eq_getElem?_getD, List.getElem?_eq_getElem (by omega)]; exact h.get (by omega)
theorem addTrucks_small : ∀ (l : List (List StopD)) (out : List Int) (n : Nat), (∀ t ∈ l, ∀ s ∈ t, (0 ≤ s.sat ∧ s.sat < out.length) ∧ 1 ≤ s.load ∧ s.load ≤ 1000000000) → Small9 out n → Small9 (l.foldl addTruck out) (n + tstopsUp l l.length)
  | [], out, n, _, h => h.mono (by omega)
  | b :: l, out, n, ho, h => by
    have e : tstopsUp (b :: l) (b :: l).length = b.length + tstopsUp l l.length := by unfold tstopsUp; simp
    rw [List.foldl_cons, e, ← Nat.add_assoc]
    refine addTrucks_small l _ _ (fun t ht s hs => ?_) (addStops_small b out n (ho b (List.mem_cons_self ..)) h)
    unfold addTruck; rw [addStops_len]; exact ho t (List.mem_cons_of_mem _ ht) s hs
theorem dropsD_small {x : InstD} {l : List (List StopD)} (ho : ∀ t ∈ l, ∀ s ∈ t, StopOk x s) : Small9 (dropsD x l) (tstopsUp l l.length) := by
  have := addTrucks_small l _ 0 (fun t ht s hs => by rw [List.length_replicate]; exact ho t ht s hs) (Small9.zero x.sats.length)
  rwa [Nat.zero_add] at this

theorem bne_zero {a : Int} (h : a ≠ 0) : (a != 0) = true := by simpa using h

set_option maxRecDepth 100000 in
set_option maxHeartbeats 1600000 in
theorem planCheck_c {w : World} {F G : Nat → Prop} {x : InstD} {p : PlanD} {cs ps : List Value} (h : instS.rep w F x cs) (hp : planS.rep w G p ps) (hn : check x = 0 → x.custs.length ≤ 6) (hsm : PlanSmall p) :
    Calls Try.prog 34 #[.agg cs.toArray, .agg ps.toArray] w fun e w' => e = .returned (.int .i64 (planCheck x p)) ∧ Below w.heap.size w w' := by
  have hrep := h
  have hprep := hp
  obtain ⟨s, c, co, ti, rfl, -, h1, h2, -, -⟩ := h
  obtain ⟨a, b, off, c1, hs, hlc, hc, ha, -, hcell, -⟩ := sats_open h1
  obtain rfl := List.cons.inj hs |>.1
  obtain ⟨tv, bv, rfl, h3, h4⟩ := hp
  obtain ⟨a2, b2, off2, c2, hs2, hl2, hc2, -, -, -⟩ := trucks_open h3
  obtain rfl := List.cons.inj hs2 |>.1
  obtain ⟨a4, b4, off4, c4, hs4, hl4, hc4, -, -, -⟩ := bikes_open h4
  obtain rfl := List.cons.inj hs4 |>.1
  have HB4 := hid h4
  clear hs hs2 hs4 h1 h2 h3 h4
  have R := (Row.new (w := w) (e := 33) (cs := [.int .i64 x.fin, .int .i64 x.tmany, .int .i64 x.troom, .int .i64 x.bmany, .int .i64 x.broom, .slice a x.sats.length c1, c, co, ti]) rfl).alloc (.cells #[.slice a2 p.trucks.length c2, .slice a4 p.bikes.length c4] 46)
  have RP := Row.new (w := w.alloc (.cells #[.int .i64 x.fin, .int .i64 x.tmany, .int .i64 x.troom, .int .i64 x.bmany, .int .i64 x.broom, .slice a x.sats.length c1, c, co, ti] 33)) (e := 46) (g := w.heap.size + 1) (cs := [.slice a2 p.trucks.length c2, .slice a4 p.bikes.length c4]) (by simp)
  have hb0 : Below w.heap.size w ((w.alloc (.cells #[.int .i64 x.fin, .int .i64 x.tmany, .int .i64 x.troom, .int .i64 x.bmany, .int .i64 x.broom, .slice a x.sats.length c1, c, co, ti] 33)).alloc (.cells #[.slice a2 p.trucks.length c2, .slice a4 p.bikes.length c4] 46)) := ((Below.refl _ _).alloc (Nat.le_refl _) _).alloc (by simp) _
  have HS := hid hsm
  have HC := hid hcell
  clear hsm hcell
  by_cases hck : check x = 0
  case neg =>
    have hck2 := bne_zero hck
    have HE := hid (show planCheck x p = check x from if_pos hck)
    clear hck hn
    go_enter Try.func34, Try.ntmps34
    go_wp2_with fail
    refine (check_c (instS.below hrep hb0)).mono ?_
    rintro e w1 ⟨rfl, hb1⟩
    go_wp2
    go_ret
    exact ⟨ret_int HE.out.symm, below_step hb0 hb1⟩
  have gd := good_of hck
  have hn6 := hn hck
  have hss := gd.sats
  have htr := gd.troom
  have hbr := gd.broom
  have hcu : ∀ c ∈ x.custs, 0 ≤ c.load ∧ c.load ≤ 1000000000 := fun c hc => by have := (gd.cust c hc).1; omega
  have HCK := hid hck
  have HGD := hid gd
  clear hck gd hn
  go_enter Try.func34, Try.ntmps34
  go_wp2_with fail
  refine (check_c (instS.below hrep hb0)).mono ?_
  rintro e w1 ⟨rfl, hb1⟩
  rw [HCK.out]
  have R1 := R.below hb1
  have RP1 := RP.below hb1
  have hB1 := below_step hb0 hb1
  clear R RP hb0 hb1
  obtain ⟨q0, q1, q2, q3, q4, q5, q6, q7, q8⟩ := row9 R1
  obtain ⟨p0, p1⟩ := row2 RP1
  by_cases e1 : x.tmany < p.trucks.length
  · have HE := hid (show planCheck x p = 11 from by unfold planCheck; rw [if_neg (by simpa using HCK.out), if_pos (.inl e1)])
    go_wp2
    go_ret
    exact ⟨ret_int HE.out.symm, hB1⟩
  by_cases e2 : x.bmany < p.bikes.length
  · have HE := hid (show planCheck x p = 11 from by unfold planCheck; rw [if_neg (by simpa using HCK.out), if_pos (.inr e2)])
    go_wp2
    go_ret
    exact ⟨ret_int HE.out.symm, hB1⟩
  have HX := hid (show ∀ v, (if (trucksB x p.trucks).1 = false ∨ (bikesB x p.bikes).1 = false then 15 else
      if (bikesB x p.bikes).2.1 = false then 8 else if (trucksB x p.trucks).2 = false ∨ (bikesB x p.bikes).2.2 = false then 10 else
      if overB x (loadsD x p.bikes) x.sats.length = true then 10 else if loadsD x p.bikes = dropsD x p.trucks then 0 else 13) = v → planCheck x p = v from fun v hv => by
    unfold planCheck; rw [if_neg (by simpa using HCK.out), if_neg (by omega)]; exact hv)
  go_wp2_with fail
  refine (trucks_c (instS.below hrep hB1) (planS.below hprep hB1) (by omega) htr (fun t ht => by have := tstopsUp_all ht; have := HS.out.2; omega)).mono ?_
  rintro e w2 ⟨rfl, hb2⟩
  have R2 := R1.below hb2
  have RP2 := RP1.below hb2
  have hB2 := below_step hB1 hb2
  clear q0 q1 q2 q3 q4 q5 q6 q7 q8 p0 p1 R1 RP1 hB1 hb2
  obtain ⟨q0, q1, q2, q3, q4, q5, q6, q7, q8⟩ := row9 R2
  obtain ⟨p0, p1⟩ := row2 RP2
  have HTO := hid (trucksB_ok (x := x) (l := p.trucks))
  obtain ⟨⟨r1, r2⟩, hrr⟩ : ∃ r, r = trucksB x p.trucks := ⟨_, rfl⟩
  rw [← hrr] at HX HTO ⊢
  have HRR := hid hrr
  clear hrr
  simp only [] at HX HTO ⊢
  go_wp2_with fail
  refine (bikes_c (instS.below hrep hB2) (planS.below hprep hB2) hn6 hbr hcu (fun t ht => by have := stopsUp_all ht; have := HS.out.1; omega)).mono ?_
  rintro e w3 ⟨rfl, hb3⟩
  have R3 := R2.below hb3
  have RP3 := RP2.below hb3
  have hB3 := below_step hB2 hb3
  clear q0 q1 q2 q3 q4 q5 q6 q7 q8 p0 p1 R2 RP2 hB2 hb3
  obtain ⟨q0, q1, q2, q3, q4, q5, q6, q7, q8⟩ := row9 R3
  obtain ⟨p0, p1⟩ := row2 RP3
  obtain ⟨⟨s1, s2, s3⟩, hrr⟩ : ∃ r, r = bikesB x p.bikes := ⟨_, rfl⟩
  rw [← hrr] at HX ⊢
  have HSS := hid hrr
  clear hrr
  simp only [] at HX ⊢
  cases r1
  · have HE := hid (HX.out 15 (by simp))
    cases s1
    all_goals
      go_wp2
      go_ret
      exact ⟨ret_int HE.out.symm, hB3⟩
  cases s1
  · have HE := hid (HX.out 15 (by simp))
    go_wp2
    go_ret
    exact ⟨ret_int HE.out.symm, hB3⟩
  cases s2
  · have HE := hid (HX.out 8 (by simp))
    go_wp2
    go_ret
    exact ⟨ret_int HE.out.symm, hB3⟩
  cases r2
  · have HE := hid (HX.out 10 (by simp))
    cases s3
    all_goals
      go_wp2
      go_ret
      exact ⟨ret_int HE.out.symm, hB3⟩
  cases s3
  · have HE := hid (HX.out 10 (by simp))
    go_wp2
    go_ret
    exact ⟨ret_int HE.out.symm, hB3⟩
  have HY := hid (show ∀ v, (if overB x (loadsD x p.bikes) x.sats.length = true then 10 else if loadsD x p.bikes = dropsD x p.trucks then 0 else 13) = v → planCheck x p = v from fun v hv => HX.out v (by simpa using hv))
  clear HX HRR HSS
  go_wp2_with fail
  have hbk : bikesS.rep w3 G p.bikes [.slice a4 p.bikes.length c4] := bikesS.below HB4.out hB3
  refine (loads_c (instS.below hrep hB3) hbk (by omega) hcu HS.out.1).mono ?_
  rintro e w4 ⟨g, rfl, hg, hgw, hb4⟩
  have hB4 := below_step hB3 hb4
  have R4 := R3.below hb4
  have RP4 := RP3.below hb4
  have hgz : w.heap.size + 1 < g := by have := RP3.lt; omega
  clear q0 q1 q2 q3 q4 q5 q6 q7 q8 p0 p1 R3 RP3 hB3 hb4 hbk hgw
  obtain ⟨q0, q1, q2, q3, q4, q5, q6, q7, q8⟩ := row9 R4
  obtain ⟨p0, p1⟩ := row2 RP4
  have hll := loadsD_len x p.bikes
  have hsl := loadsD_small (x := x) (l := p.bikes) hcu
  have hsn := HS.out.1
  obtain ⟨ll, hlle⟩ : ∃ ll, ll = loadsD x p.bikes := ⟨_, rfl⟩
  rw [← hlle] at hll hsl HY hg
  have HL := hid hlle
  have HLL := hid hll
  have HSL := hid hsl
  have HG := hid hg
  clear hlle hll hsl hg
  go_wp2
  go_loop [71] (fun i => ∃ k : Nat, k ≤ x.sats.length ∧ i = .int .i64 k ∧ overB x ll k = false) (fun i => x.sats.length - (intOf i).toNat)
  case atStart => exact ⟨0, Nat.zero_le _, rfl, rfl⟩
  case round =>
    obtain ⟨k, hk, rfl, hov⟩ := hrel
    by_cases hlt : k < x.sats.length
    · have hkl : k < ll.length := by have := HLL.out; omega
      have g0 := HG.out.cell (j := k) (by rw [List.length_map]; exact hkl)
      rw [List.getElem_map] at g0
      have gs := below_cell hB4 (HC.out k hlt).1
      have hix := idx_at1 (c := x.sats.length) Try.underlying34 sz_i64 (a := some ⟨g, 0, none⟩) rfl hlt
      have his := idx_at (c := c1) Try.underlying29 sz_sat (ha (by omega)) hlt
      rw [Nat.zero_add] at hix
      obtain ⟨v, hv⟩ : ∃ v, v = ll[k] := ⟨_, rfl⟩
      obtain ⟨r, hr⟩ : ∃ r, r = (x.sats[k]).room := ⟨_, rfl⟩
      rw [← hv] at g0
      rw [← hr] at gs
      unfold intV at g0
      have HO := hid (show overB x ll (k + 1) = decide (r < v) from by
        rw [overB_succ, hov, hv, hr, List.getD_eq_getElem?_getD, List.getD_eq_getElem?_getD, List.getElem?_eq_getElem hlt, List.getElem?_eq_getElem hkl]; rfl)
      clear hv hr hov hkl
      by_cases hrv : r < v
      · have HE := hid (HY.out 10 (if_pos (overB_ge (k := k + 1) (by rw [HO.out]; exact decide_eq_true hrv) (by omega))))
        go_wp2
        go_ret
        exact ⟨ret_int HE.out.symm, hB4⟩
      · have HO2 := hid (show overB x ll (k + 1) = false from by rw [HO.out]; exact decide_eq_false hrv)
        go_wp2
        go_round
        case rel => exact ⟨k + 1, by omega, by go_num, HO2.out⟩
        case measure => simp [intOf]; omega
    · have hke : k = x.sats.length := by omega
      subst hke
      have HZ := hid (show ∀ v, (if ll = dropsD x p.trucks then 0 else 13) = v → planCheck x p = v from fun v hv => HY.out v (by rw [if_neg (by rw [hov]; decide)]; exact hv))
      have hto : ∀ t ∈ p.trucks, ∀ s ∈ t, StopOk x s := fun t ht => (HTO.out trivial t ht).2
      have hds := dropsD_small hto
      have hdl := dropsD_len x p.trucks
      clear hov HY HC ha
      go_wp2_with fail
      refine (drops_c (instS.below hrep hB4) (planS.below hprep hB4) (by omega) hto HS.out.2).mono ?_
      rintro e w5 ⟨g', rfl, hg', hgw', hb5⟩
      have hB5 := below_step hB4 hb5
      have hwl := small9_wf HSL.out hsn
      have hwd := small9_wf hds HS.out.2
      have r1 : (sliceS intS).rep w5 (fun _ => True) ll [.slice (some ⟨g, 0, none⟩) ll.length ll.length] := ints_rep (HG.out.below hb5) (Nat.le_refl _) (by unfold maxLen; have := HLL.out; omega) trivial hwl
      have r2 : (sliceS intS).rep w5 (fun _ => True) (dropsD x p.trucks) [.slice (some ⟨g', 0, none⟩) (dropsD x p.trucks).length (dropsD x p.trucks).length] := ints_rep hg' (Nat.le_refl _) (by unfold maxLen; omega) trivial hwd
      rw [HLL.out] at r1
      rw [hdl] at r2
      have HDS := hid hds
      have HWL := hid hwl
      clear q0 q1 q2 q3 q4 q5 q6 q7 q8 p0 p1 hdl hds hwl hwd hto hb5
      go_wp2_with fail
      refine (eqI64s_c r1 r2).mono ?_
      rintro e w6 ⟨rfl, nd, rfl⟩
      by_cases hd : ll = dropsD x p.trucks
      · have HE := hid (HZ.out 0 (if_pos hd))
        rw [decide_eq_true hd]
        go_wp2
        go_ret
        exact ⟨ret_int HE.out.symm, below_drewN hB5 _⟩
      · have HE := hid (HZ.out 13 (if_neg hd))
        rw [decide_eq_false hd]
        go_wp2
        go_ret
        exact ⟨ret_int HE.out.symm, below_drewN hB5 _⟩
end Go.Proofs.Ytafhjfkdlmijdaa
