/- wharfagelaw19.FeasServes answers true, by the abstract machine; what it needs besides. -/
import Derived.Test.YtahffcepagopmaaR3
set_option linter.all false
set_option maxRecDepth 100000
set_option maxHeartbeats 6400000
namespace Go.Proofs.Ytahffcepagopmaa.Ab
open Go.RowKit
section
variable {P : Program} {ty : Ty} {E : Env} {nt : Nat} {M : Mp} {σ : AS} {a : Act} {w w0 : World} {ops : Array Oper} {K : AS → Prop} {Q : Exit → Act → World → Prop} {fins r : List Nat}
section
variable {ord : Nat → List Nat × Nat × Option Nat} {Q : Exit → AS → Prop} {p q : Pl}
theorem et_d : njb7 P ty ops r (.d false) K σ = mw7 P ty r.length none ops (pick ops r) K σ := rfl
theorem k_cut {ks : List Nat} {x y : Code} (R : AS → Prop) (h1 : lw7 P ty ord p x (qq7 (fun σ' => R (keepS ks σ')) Q) σ) (h2 : ∀ σ', R σ' → lw7 P ty ord q y Q σ') : lw7 P ty ord (.k ks p q) (.seq x y) Q σ := ⟨R, h1, h2⟩
theorem e_keep {ks : List Nat} {tm : Tm} {H : List Root} : keepS ks ⟨tm, H⟩ = ⟨fxT tm ks, H⟩ := rfl
end
theorem pcall_ofP (p : Pl) (hT : lj7 P ty) (hm : P.follows .mixedOrders = true) {f : FuncId} {fn : Func} {c : Code} (ord : Nat → List Nat × Nat × Option Nat) (hf : P.funcs[f]? = some fn) (hb : fn.body = some c) (hname : (fn.name == "runtime.NumGoroutine") = false) {n : Nat} (hnt : fn.ntmps = n) {rs : List ResultVar} (hr : fn.results.toList = rs)
    (hok : okD n ord p c = true) {args : List RV} (hn : args.length ≤ n) {post : RV → Prop}
    (h : lw7 P ty ord p c (vac7 ty rs (ydc7 post)) ⟨bpb7 0 args, []⟩) : zi7 P f args post := by
  refine ⟨⟨fn, c, hf, hname, hb⟩, fun rho w vs hrho hc => calls_of_wp hf hb ?_⟩
  have hrel : Rel ⟨w, rho⟩ ⟨fun _ => 0, rho, fun _ => none⟩ [] w := ⟨Below.refl _ _, fun _ _ _ _ _ h => (by cases h), fun _ _ _ _ _ h => (by cases h), fun _ _ _ _ h => (by cases h), fun _ _ _ _ h => (by cases h), fun _ _ _ _ _ _ _ _ h => (by cases h), hrho, fun b hb => .inl hb, ⟨fun _ _ h => (by cases h), fun _ _ _ _ _ _ _ h => (by cases h), fun _ _ _ h => (by cases h)⟩⟩
  have hst := St.enter hrel (sf7.up (M := ⟨fun _ => 0, rho, fun _ => none⟩) (H := []) hc) (n := n) hn
  rw [hnt]
  refine wp_mono (om7 hT hm p c hok hst h) fun e a' w' ⟨hp, M', σ', q1, q3⟩ => ?_
  have fin : (rw7 ty σ' rs).1 ∧ (okT σ'.H (one (rw7 ty σ' rs).2) ∧ ∃ r', bzb7 (abc7 σ'.H (one (rw7 ty σ' rs).2)) r' ∧ post r') → a'.defers = [] ∧ ∃ v, (results fn a'.tmps).run P w' = .ok v w' ∧ ∃ r v' rho', Ending.returned v = .returned v' ∧ post r ∧ mk7 rho' w' r v' ∧ (∀ b, rho' b → rho b ∨ (w.heap.size ≤ b ∧ b < w'.heap.size)) ∧ Below w.heap.size w w' := by
    rintro ⟨h1, h2, r', h3, h4⟩
    obtain ⟨v, k1, k2⟩ := cx7 hT q1 hr h1
    obtain ⟨M2, H2, k3, k4⟩ := mub7 q1.rel h2 k1
    refine ⟨q1.df, v, k2, r', v, M2.rho, rfl, h4, k4.eqv h3, fun b hb => ?_, q1.rel.bel⟩
    rcases k3.src b hb with h | h
    · exact .inl h
    · exact .inr ⟨h, k3.rlt b hb⟩
  cases e with
  | normal => exact fin q3
  | ret => exact fin q3
  | panic ch => exact absurd rfl (hp ch)
  | exit id => exact q3.elim
  | goto l => exact q3.elim
  | outgrown => exact q3.elim
end
end Go.Proofs.Ytahffcepagopmaa.Ab
namespace Go.Proofs.Ytahffcepagopmaa
open Go.RowKit Go.WideShapes Go.ChangeShapes Go.ChangeAt
theorem dOne_sat {B s : Nat} (hB : s < B) {many room : Int} {q : Bool} : ∀ (f : Nat) (n : Int) (st : List (List da7) × Int), ex7 B st.1 → ex7 B (cz7 many room q s f n st).1
  | 0, _, _, h => h
  | f + 1, n, st, h => by
    unfold cz7
    split
    · exact h
    · exact dOne_sat hB f _ _ (h.ready.add ⟨by simp only []; omega, by simp only []; omega⟩)
theorem dUp_sat {x : ba7} {w : uf7} {lo : List Int} {B : Nat} : ∀ k, k ≤ B → ex7 B (dUp x w lo k).1
  | 0, _ => fun t ht => by cases ht
  | k + 1, h => dOne_sat (by omega) _ _ _ (dUp_sat k (by omega))
namespace Ab
theorem draft_soon {y : ba7} (h : YOk y) (wi : uf7) : gs7 y (yh7 y wi) := by
  have hf := si7 wi h.ns h.nc h.ld h.troom
  have hol : (kg7 y wi).length = y.custs.length := oh7 _ _
  have hk := xj7 (x := y) wi (os := kg7 y wi) (fun c hc => by have := h.ld c hc; omega) (by have := h.ns; omega) (hk7 _ _) (kg7 y wi).length (Nat.le_refl _)
  have hs : ex7 y.sats.length (yh7 y wi).trucks := by
    show ex7 _ (dUp y wi (zb7 y wi).1 (zb7 y wi).1.length).1
    exact dUp_sat _ (by unfold zb7; rw [hk.loL]; exact Nat.le_refl _)
  refine ⟨te7 h.chk, hf.tl, fun t ht => ⟨(hf.ts t ht).1, hs t ht⟩, by have := hf.bl; omega, fun b hb => ?_⟩
  have h1 := hk.bsB b hb
  have h2 := (hf.bs b hb).2.1
  exact ⟨by omega, h1.1, fun c hc => h1.2.2 c hc⟩
end Ab
end Go.Proofs.Ytahffcepagopmaa
namespace Go.Proofs.Ytahffcepagopmaa
open Go.RowKit

def LeL (a b : List Int) : Prop := a.length = b.length ∧ ∀ i, a.getD i 0 ≤ b.getD i 0
theorem LeL.refl (a : List Int) : LeL a a := ⟨rfl, fun _ => Int.le_refl _⟩
theorem getD_set0 (l : List Int) (k i : Nat) (v : Int) : (l.set k v).getD i 0 = if k = i ∧ i < l.length then v else l.getD i 0 := by
  simp only [List.getD_eq_getElem?_getD, List.getElem?_set]
  by_cases h : k = i
  · subst h
    by_cases h2 : k < l.length
    · simp [h2]
    · simp [h2, List.getElem?_eq_none (Nat.le_of_not_lt h2)]
  · simp [h]
theorem LeL.set {a b : List Int} (h : LeL a b) (k : Nat) {u v : Int} (hu : u ≤ v) : LeL (a.set k (max (a.getD k 0) u)) (b.set k (max (b.getD k 0) v)) := by
  refine ⟨by simp [h.1], fun i => ?_⟩
  rw [getD_set0, getD_set0, h.1]
  have := h.2 i; have := h.2 k
  split <;> omega
def bkN (x : ba7) (rd : List Int) (b : pa7) (j : Nat) : SnB := (b.stops.take j).foldl (ec7 x) ⟨rd.getD b.sat.toNat 0, 1 + b.sat, []⟩
end Go.Proofs.Ytahffcepagopmaa
namespace Go.Proofs.Ytahffcepagopmaa
open Go.RowKit

theorem truck_facts {x : ba7} (gd : Good x) {t : List da7} {l ready : List Int} : ∀ j, j ≤ t.length → ∀ st, cf7 x t l ready j = some st →
    0 ≤ st.now ∧ st.ready.length = ready.length ∧ (∀ s, ready.getD s 0 ≤ st.ready.getD s 0) ∧ ∀ i, i < j → 0 ≤ l.getD i 0 ∧ ((t.getD i ⟨0, 0⟩).sat.toNat < ready.length → l.getD i 0 + od7 x (t.getD i ⟨0, 0⟩).sat ≤ st.ready.getD (t.getD i ⟨0, 0⟩).sat.toNat 0)
  | 0, _, st, h => by cases h; exact ⟨Int.le_refl _, rfl, fun _ => Int.le_refl _, fun i hi => by omega⟩
  | j + 1, hj, st, h => by
    simp only [cf7] at h
    cases hq : cf7 x t l ready j with
    | none => rw [hq] at h; cases h
    | some st0 =>
      rw [hq] at h
      simp only [Option.bind_some, sx7] at h
      split at h
      · rename_i hb
        unfold mp7 at hb
        simp only [Bool.and_eq_true, decide_eq_true_eq] at hb
        obtain ⟨h1, h2, h3, h4⟩ := truck_facts gd j (by omega) st0 hq
        cases h
        have ht := nb7 gd st0.node (1 + (t.getD j ⟨0, 0⟩).sat)
        have hmono : ∀ s, st0.ready.getD s 0 ≤ (st0.ready.set (t.getD j ⟨0, 0⟩).sat.toNat (max (st0.ready.getD (t.getD j ⟨0, 0⟩).sat.toNat 0) (l.getD j 0 + od7 x (t.getD j ⟨0, 0⟩).sat))).getD s 0 := fun s => by
          rw [getD_set0]
          split
          · rename_i hs; obtain ⟨hs, -⟩ := hs; subst hs; omega
          · exact Int.le_refl _
        refine ⟨by simp only []; omega, by simp only [List.length_set]; exact h2, fun s => Int.le_trans (h3 s) (hmono s), fun i hi => ?_⟩
        by_cases ei : i = j
        · subst ei
          refine ⟨by omega, fun hlt => ?_⟩
          simp only
          rw [getD_set0, if_pos ⟨rfl, by omega⟩]
          omega
        · obtain ⟨g1, g2⟩ := h4 i (by omega)
          exact ⟨g1, fun hlt => Int.le_trans (g2 hlt) (hmono _)⟩
      · cases h
theorem trucks_facts {x : ba7} (gd : Good x) {p : sa7} {t : qb7} : ∀ k, k ≤ p.trucks.length → ∀ r, xd7 x p t k = some r →
    r.length = x.sats.length ∧ ∀ i, i < k → ∀ q, q < (p.trucks.getD i []).length → 0 ≤ (t.trucks.getD i []).getD q 0 ∧ (((p.trucks.getD i []).getD q ⟨0, 0⟩).sat.toNat < x.sats.length → (t.trucks.getD i []).getD q 0 + od7 x ((p.trucks.getD i []).getD q ⟨0, 0⟩).sat ≤ r.getD ((p.trucks.getD i []).getD q ⟨0, 0⟩).sat.toNat 0)
  | 0, _, r, h => by cases h; exact ⟨by simp, fun i hi => by omega⟩
  | k + 1, hk, r, h => by
    simp only [xd7] at h
    cases hq : xd7 x p t k with
    | none => rw [hq] at h; cases h
    | some r0 =>
      rw [hq] at h
      simp only [Option.bind_some, zj7] at h
      obtain ⟨h1, h2⟩ := trucks_facts gd k (by omega) r0 hq
      cases hq2 : cf7 x (p.trucks.getD k []) (t.trucks.getD k []) r0 (p.trucks.getD k []).length with
      | none => rw [hq2] at h; cases h
      | some st =>
        rw [hq2] at h
        simp only [Option.bind_some] at h
        split at h
        · cases h
          obtain ⟨g1, g2, g3, g4⟩ := truck_facts gd _ (Nat.le_refl _) st hq2
          refine ⟨by omega, fun i hi q hq3 => ?_⟩
          by_cases ei : i = k
          · subst ei
            obtain ⟨f1, f2⟩ := g4 q hq3
            exact ⟨f1, fun hlt => f2 (by omega)⟩
          · obtain ⟨f1, f2⟩ := h2 i (by omega) q hq3
            exact ⟨f1, fun hlt => Int.le_trans (f2 hlt) (g3 _)⟩
        · cases h
theorem bike_facts {x : ba7} (gd : Good x) {b : pa7} {r : zc7} (hc : ∀ c ∈ b.stops, bc7 x c) : ∀ j, j ≤ b.stops.length → ∀ st, uh7 x b r j = some st →
    r.out ≤ st.now ∧ ∀ i, i < j → r.out ≤ r.starts.getD i 0 ∧ (tb7 x (b.stops.getD i 0)).opn ≤ r.starts.getD i 0 ∧ r.starts.getD i 0 ≤ (tb7 x (b.stops.getD i 0)).cls
  | 0, _, st, h => by cases h; exact ⟨Int.le_refl _, fun i hi => by omega⟩
  | j + 1, hj, st, h => by
    simp only [uh7] at h
    cases hq : uh7 x b r j with
    | none => rw [hq] at h; cases h
    | some st0 =>
      rw [hq] at h
      simp only [Option.bind_some, gcb7] at h
      split at h
      · rename_i hb
        unfold mp7 at hb
        simp only [Bool.and_eq_true, decide_eq_true_eq] at hb
        obtain ⟨h1, h2⟩ := bike_facts gd hc j (by omega) st0 hq
        cases h
        have ht := nb7 gd st0.node (1 + x.sats.length + b.stops.getD j 0)
        have hs := ot7 gd (hc _ (ub7 (show j < b.stops.length by omega) 0))
        refine ⟨by simp only []; omega, fun i hi => ?_⟩
        by_cases ei : i = j
        · subst ei; exact ⟨by omega, by omega, by omega⟩
        · exact h2 i (by omega)
      · cases h
theorem serve_facts {x : ba7} {p : sa7} {t : qb7} (gd : Good x) (hb : ∀ b ∈ p.bikes, (0 ≤ b.sat ∧ b.sat < x.sats.length) ∧ ∀ c ∈ b.stops, bc7 x c) (h : otb7 x p t = true) : ∀ k, k < p.bikes.length → ∀ j, j < (p.bikes.getD k ⟨0, []⟩).stops.length →
    (∀ i, i < p.trucks.length → ∀ q, q < (p.trucks.getD i []).length → ((p.trucks.getD i []).getD q ⟨0, 0⟩).sat = (p.bikes.getD k ⟨0, []⟩).sat → (t.trucks.getD i []).getD q 0 ≤ (cm7 t k).starts.getD j 0) ∧
    (tb7 x ((p.bikes.getD k ⟨0, []⟩).stops.getD j 0)).opn ≤ (cm7 t k).starts.getD j 0 ∧ (cm7 t k).starts.getD j 0 ≤ (tb7 x ((p.bikes.getD k ⟨0, []⟩).stops.getD j 0)).cls := by
  unfold otb7 at h
  cases hq : xd7 x p t p.trucks.length with
  | none => rw [hq] at h; cases h
  | some r =>
    rw [hq] at h
    simp only [nm7, List.all_eq_true, List.mem_range] at h
    obtain ⟨h1, h2⟩ := trucks_facts gd _ (Nat.le_refl _) r hq
    intro k hk j hj
    obtain ⟨b1, b2⟩ := hb _ (ub7 hk ⟨0, []⟩)
    have hc := h k hk
    unfold bbb7 at hc
    rw [Bool.and_eq_true] at hc
    obtain ⟨c1, c2⟩ := hc
    unfold mp7 at c1
    simp only [Bool.and_eq_true, decide_eq_true_eq] at c1
    cases hq2 : uh7 x (p.bikes.getD k ⟨0, []⟩) (cm7 t k) (p.bikes.getD k ⟨0, []⟩).stops.length with
    | none => rw [hq2] at c2; cases c2
    | some st =>
      obtain ⟨g1, g2⟩ := bike_facts gd b2 _ (Nat.le_refl _) st hq2
      obtain ⟨f1, f2, f3⟩ := g2 j hj
      refine ⟨fun i hi q hq3 hs => ?_, f2, f3⟩
      obtain ⟨-, e2⟩ := h2 i hi q hq3
      rw [hs] at e2
      have := e2 (by omega)
      have := (go7 gd (p.bikes.getD k ⟨0, []⟩).sat).1
      omega
theorem times_lo {x : ba7} {p : sa7} {t : qb7} (gd : Good x) (h : otb7 x p t = true) : ∀ i, i < p.trucks.length → ∀ q, q < (p.trucks.getD i []).length → 0 ≤ (t.trucks.getD i []).getD q 0 := by
  unfold otb7 at h
  cases hq : xd7 x p t p.trucks.length with
  | none => rw [hq] at h; cases h
  | some r => exact fun i hi q hq3 => ((trucks_facts gd _ (Nat.le_refl _) r hq).2 i hi q hq3).1
theorem stop_came {s : Nat} : ∀ (l : List da7) (out : List Int), (l.foldl zg7 out).getD s 0 ≠ out.getD s 0 → ∃ u ∈ l, u.sat.toNat = s
  | [], _, h => absurd rfl h
  | u :: l, out, h => by
    rw [List.foldl_cons] at h
    by_cases e : u.sat.toNat = s
    · exact ⟨u, List.mem_cons_self .., e⟩
    · have : (zg7 out u).getD s 0 = out.getD s 0 := by unfold zg7; rw [getD_set0, if_neg (fun hh => e hh.1)]
      rw [← this] at h
      obtain ⟨v, hv, hs⟩ := stop_came l _ h
      exact ⟨v, List.mem_cons_of_mem _ hv, hs⟩
theorem trucks_some {s : Nat} : ∀ (l : List (List da7)) (out : List Int), (l.foldl rh7 out).getD s 0 ≠ out.getD s 0 → ∃ t ∈ l, ∃ u ∈ t, u.sat.toNat = s
  | [], _, h => absurd rfl h
  | t :: l, out, h => by
    rw [List.foldl_cons] at h
    by_cases e : (rh7 out t).getD s 0 = out.getD s 0
    · rw [← e] at h
      obtain ⟨v, hv, hs⟩ := trucks_some l _ h
      exact ⟨v, List.mem_cons_of_mem _ hv, hs⟩
    · exact ⟨t, List.mem_cons_self .., stop_came t out e⟩
theorem addLoad_ge {x : ba7} (hl : ∀ c ∈ x.custs, 1 ≤ c.load) (sat : Int) (out : List Int) (c : Int) (s : Nat) : out.getD s 0 ≤ (pf7 x sat out c).getD s 0 := by
  unfold pf7
  split
  · rename_i h
    rw [getD_set0]
    split
    · rename_i hs
      obtain ⟨hs, -⟩ := hs
      subst hs
      have hc : c.toNat < x.custs.length := by omega
      have := hl _ (List.getElem_mem hc)
      rw [show x.custs.getD c.toNat ⟨0, 0, 0, 0⟩ = x.custs[c.toNat] by rw [List.getD_eq_getElem?_getD, List.getElem?_eq_getElem hc]; rfl]
      omega
    · exact Int.le_refl _
  · exact Int.le_refl _
theorem loads_ge {x : ba7} (hl : ∀ c ∈ x.custs, 1 ≤ c.load) (sat : Int) (s : Nat) : ∀ (l : List Int) (out : List Int), out.getD s 0 ≤ (l.foldl (pf7 x sat) out).getD s 0
  | [], _ => Int.le_refl _
  | c :: l, out => Int.le_trans (addLoad_ge hl sat out c s) (loads_ge hl sat s l _)
theorem bikes_ge {x : ba7} (hl : ∀ c ∈ x.custs, 1 ≤ c.load) (s : Nat) : ∀ (l : List pa7) (out : List Int), out.getD s 0 ≤ (l.foldl (oo7 x) out).getD s 0
  | [], _ => Int.le_refl _
  | b :: l, out => Int.le_trans (loads_ge hl b.sat s b.stops out) (bikes_ge hl s l _)
theorem bike_load {x : ba7} (hl : ∀ c ∈ x.custs, 1 ≤ c.load) {b : pa7} (hs : 0 ≤ b.sat ∧ b.sat < x.sats.length) (h0 : 0 < b.stops.length) (hc : ∀ c ∈ b.stops, bc7 x c) : ∀ (l : List pa7) (out : List Int), b ∈ l → out.length = x.sats.length → (∀ s, 0 ≤ out.getD s 0) → 1 ≤ (l.foldl (oo7 x) out).getD b.sat.toNat 0
  | a :: l, out, hm, ho, hp => by
    rcases List.mem_cons.1 hm with rfl | hm
    · refine Int.le_trans ?_ (bikes_ge hl _ l _)
      unfold oo7
      cases hst : b.stops with
      | nil => rw [hst] at h0; simp at h0
      | cons c r =>
        rw [List.foldl_cons]
        refine Int.le_trans ?_ (loads_ge hl _ _ r _)
        have hcc := hc c (by rw [hst]; exact List.mem_cons_self ..)
        unfold bc7 at hcc
        unfold pf7
        rw [if_pos (by rw [ho]; omega), getD_set0, if_pos ⟨rfl, by omega⟩]
        have hct : c.toNat < x.custs.length := by omega
        have := hl _ (List.getElem_mem hct)
        have := hp b.sat.toNat
        rw [show x.custs.getD c.toNat ⟨0, 0, 0, 0⟩ = x.custs[c.toNat] by rw [List.getD_eq_getElem?_getD, List.getElem?_eq_getElem hct]; rfl]
        omega
    · rw [List.foldl_cons]
      refine bike_load hl hs h0 hc l _ hm ?_ fun s => Int.le_trans (hp s) (loads_ge hl a.sat s a.stops out)
      unfold oo7; rw [js7]; exact ho
theorem came_some {x : ba7} {p : sa7} (hc : ia7 x p = 0) (hl : ∀ c ∈ x.custs, 1 ≤ c.load) {b : pa7} (hb : b ∈ p.bikes) : ∃ i, i < p.trucks.length ∧ ∃ q, q < (p.trucks.getD i []).length ∧ ((p.trucks.getD i []).getD q ⟨0, 0⟩).sat = b.sat := by
  have ok := vh7 hc
  have hbk := ok.bike b hb
  have he : bk7 x p.bikes = ej7 x p.trucks := by
    unfold ia7 at hc
    repeat (split at hc <;> first | (rename_i h0; exact absurd hc h0) | (cases hc; done) | skip)
    assumption
  have h1 : 1 ≤ (bk7 x p.bikes).getD b.sat.toNat 0 := bike_load hl hbk.1 hbk.2.1 hbk.2.2 p.bikes _ hb (by simp) (fun s => by
    rw [List.getD_eq_getElem?_getD]
    by_cases hs : s < (List.replicate x.sats.length (0 : Int)).length
    · rw [List.getElem?_eq_getElem hs]; simp
    · rw [List.getElem?_eq_none (by omega)]; simp)
  rw [he] at h1
  obtain ⟨t, ht, u, hu, hs⟩ := trucks_some (s := b.sat.toNat) p.trucks (List.replicate x.sats.length 0) (by
    intro e
    unfold ej7 at h1
    rw [e] at h1
    simp [List.getD_eq_getElem?_getD, List.getElem?_replicate] at h1
    split at h1 <;> simp at h1)
  obtain ⟨i, hi, rfl⟩ := List.getElem_of_mem ht
  obtain ⟨q, hq, rfl⟩ := List.getElem_of_mem hu
  have e1 : p.trucks.getD i [] = p.trucks[i] := by rw [List.getD_eq_getElem?_getD, List.getElem?_eq_getElem hi]; rfl
  have e2 : (p.trucks[i]).getD q ⟨0, 0⟩ = (p.trucks[i])[q] := by rw [List.getD_eq_getElem?_getD, List.getElem?_eq_getElem hq]; rfl
  have := ((ok.truck _ ht).2 _ hu).1
  exact ⟨i, hi, q, by rw [e1]; exact hq, by rw [e1, e2]; have := hbk.1; omega⟩
def orM (m : Nat) (c : Int) : Nat := m ||| 2 ^ c.toNat
def orB (m : Nat) (b : pa7) : Nat := b.stops.foldl orM m
theorem bikeSt_mask {x : ba7} : ∀ (l : List Int) (m : Nat) (left : Int) (m' : Nat) (left' : Int), l.foldl (ti7 x) (some (m, left)) = some (m', left') → m' = l.foldl orM m ∧ ∀ j, j < l.length → ie7 x ((l.take j).foldl orM m) (l.getD j 0) = false
  | [], m, left, m', left', h => by cases h; exact ⟨rfl, fun j hj => absurd hj (Nat.not_lt_zero _)⟩
  | c :: l, m, left, m', left', h => by
    rw [List.foldl_cons] at h
    by_cases hb : ie7 x m c = true
    · rw [show ti7 x (some (m, left)) c = none by simp only [ti7, hb, if_true], hn7] at h; cases h
    · have hb : ie7 x m c = false := by simpa using hb
      rw [show ti7 x (some (m, left)) c = some (m ||| 2 ^ c.toNat, left - (fcb7 x c).load) by simp only [ti7, hb]; rfl] at h
      obtain ⟨h1, h2⟩ := bikeSt_mask l _ _ _ _ h
      refine ⟨h1, fun j hj => ?_⟩
      cases j with
      | zero => exact hb
      | succ j => exact h2 j (by simpa using hj)
theorem bikeGo_mask {x : ba7} : ∀ (l : List pa7) (m : Nat) (ld : Bool), (ki7 x l m ld).1 = true →
    (∀ k, k < l.length → ∀ j, j < (l.getD k ⟨0, []⟩).stops.length → ie7 x (((l.getD k ⟨0, []⟩).stops.take j).foldl orM ((l.take k).foldl orB m)) ((l.getD k ⟨0, []⟩).stops.getD j 0) = false) ∧ ((ki7 x l m ld).2.1 = true → Lib.onesCount (l.foldl orB m) = x.custs.length)
  | [], m, ld, _ => ⟨fun k hk => absurd hk (Nat.not_lt_zero _), fun h => by simpa [ki7] using h⟩
  | b :: l, m, ld, h => by
    unfold ki7 at h ⊢
    by_cases hb : vf7 x b = true
    · rw [if_pos hb] at h; cases h
    · rw [if_neg hb] at h ⊢
      cases hst : xp7 x m b.stops with
      | none => rw [hst] at h; cases h
      | some q =>
        obtain ⟨m', left⟩ := q
        rw [hst] at h
        simp only at h ⊢
        obtain ⟨g1, g2⟩ := bikeSt_mask b.stops m x.broom m' left hst
        obtain ⟨h1, h2⟩ := bikeGo_mask l m' _ h
        subst g1
        refine ⟨fun k hk j hj => ?_, h2⟩
        cases k with
        | zero => exact g2 j hj
        | succ k => exact h1 k (by simpa using hk) j hj
def maskK (p : sa7) (k : Nat) : Nat := (p.bikes.take k).foldl orB 0
def maskJ (p : sa7) (k j : Nat) : Nat := ((p.bikes.getD k ⟨0, []⟩).stops.take j).foldl orM (maskK p k)
theorem maskK_succ {p : sa7} {k : Nat} (hk : k < p.bikes.length) : maskJ p k (p.bikes.getD k ⟨0, []⟩).stops.length = maskK p (k + 1) := by
  unfold maskJ maskK
  rw [List.take_length, List.take_succ_eq_append_getElem hk, List.foldl_append, List.getD_eq_getElem?_getD, List.getElem?_eq_getElem hk]
  rfl
theorem maskJ_succ {p : sa7} {k j : Nat} (hj : j < (p.bikes.getD k ⟨0, []⟩).stops.length) : maskJ p k (j + 1) = maskJ p k j ||| 2 ^ ((p.bikes.getD k ⟨0, []⟩).stops.getD j 0).toNat := by
  unfold maskJ
  generalize (p.bikes.getD k ⟨0, []⟩).stops = l at hj ⊢
  rw [List.take_succ_eq_append_getElem hj, List.foldl_append, List.getD_eq_getElem?_getD, List.getElem?_eq_getElem hj]
  rfl
theorem go_all {x : ba7} {p : sa7} (hc : ia7 x p = 0) : (ne7 x p.bikes).1 = true ∧ (ne7 x p.bikes).2.1 = true := by
  unfold ia7 at hc
  repeat (split at hc <;> first | (rename_i h0; exact absurd hc h0) | (cases hc; done) | skip)
  simp_all
theorem once_free {x : ba7} {p : sa7} (hc : ia7 x p = 0) {k j : Nat} (hk : k < p.bikes.length) (hj : j < (p.bikes.getD k ⟨0, []⟩).stops.length) : (maskJ p k j).testBit ((p.bikes.getD k ⟨0, []⟩).stops.getD j 0).toNat = false := by
  have h := (bikeGo_mask p.bikes 0 true (go_all hc).1).1 k hk j hj
  simp only [ie7, Bool.or_eq_false_iff] at h
  exact h.2
theorem orM_lt {n : Nat} : ∀ (l : List Int) (m : Nat), m < 2 ^ n → (∀ c ∈ l, c.toNat < n) → l.foldl orM m < 2 ^ n
  | [], m, h, _ => h
  | c :: l, m, h, hc => by
    rw [List.foldl_cons]
    exact orM_lt l _ (Nat.or_lt_two_pow h (Nat.pow_lt_pow_right (by decide) (hc c (List.mem_cons_self ..)))) fun d hd => hc d (List.mem_cons_of_mem _ hd)
theorem orB_lt {n : Nat} : ∀ (l : List pa7) (m : Nat), m < 2 ^ n → (∀ b ∈ l, ∀ c ∈ b.stops, c.toNat < n) → l.foldl orB m < 2 ^ n
  | [], m, h, _ => h
  | b :: l, m, h, hc => by
    rw [List.foldl_cons]
    exact orB_lt l _ (orM_lt b.stops m h (hc b (List.mem_cons_self ..))) fun d hd => hc d (List.mem_cons_of_mem _ hd)
theorem once_all {x : ba7} {p : sa7} (hc : ia7 x p = 0) (hn : x.custs.length ≤ 6) : ∀ i, i < x.custs.length → (maskK p p.bikes.length).testBit i = true := by
  have h := (bikeGo_mask p.bikes 0 true (go_all hc).1).2 (go_all hc).2
  have ok := vh7 hc
  have hlt : p.bikes.foldl orB 0 < 2 ^ x.custs.length := orB_lt _ _ (Nat.two_pow_pos _) fun b hb c hcc => by
    have := (ok.bike b hb).2.2 c hcc
    unfold bc7 at this; omega
  unfold maskK
  rw [List.take_length]
  exact (sqb7 _ hn _ hlt).1 h
theorem bits_get0 {m n i : Nat} (hi : i < n) : (nn7 m n).getD i 0 = if m.testBit i then 1 else 0 := by
  rw [List.getD_eq_getElem?_getD, List.getElem?_eq_getElem (by rw [zcb7]; exact hi), Option.getD_some, tv7]
end Go.Proofs.Ytahffcepagopmaa
namespace Go.Proofs.Ytahffcepagopmaa.Ab
open Go.RowKit
def treeS : Tr := .br false 3 (.br false 5 (.br false 8 (.br false 9 (.br false 10 (.d false) .no) (.br false 10 (.br false 9 (.d false) .no) .no)) (.br false 10 (.br false 8 (.br false 9 (.d false) .no) .no) .no)) (.br false 10 (.br false 5 (.br false 8 (.br false 9 (.d false) .no) .no) .no) .no)) (.br false 10 (.br false 3 (.br false 5 (.br false 8 (.br false 9 (.d false) .no) .no) .no) .no) .no)
def planFS : Pl := .s .a (.s .a (.s .a (.s .a (.s .a (.k [7, 8, 9] (.t [0, 1, 2, 4, 6, 7] treeS [11] [11]) .a)))))
def headFS (s : wb7) (wi : uf7) (m : List Int × Int) (y : ba7) (p : sa7) (t : qb7) : List Root :=
  [.live false 26 11 (.box (scb7 s)), .live false 28 3 (.box (hnb7 wi)), .live false 31 2 (.box (ucb7 m)), .live false 39 9 (.box (qf7 y)), .live false 44 2 (.box (if7 p)), .live false 55 5 (.box (edb7 ⟨p, t, qw7 y p⟩))]
def CameI (p : sa7) (t : qb7) (sat c : Int) (k j : Nat) : Prop := (c = -1 ∧ ∀ i q, (i < k ∨ i = k ∧ q < j) → q < (tc7 p i).length → (stN (tc7 p i) q).sat ≠ sat) ∨ ∃ i q, i < p.trucks.length ∧ q < (tc7 p i).length ∧ (stN (tc7 p i) q).sat = sat ∧ c = (yo7 t i).getD q 0 ∧ 0 ≤ c
theorem came_new {p : sa7} {t : qb7} {sat : Int} {k j : Nat} (hk : k < p.trucks.length) (hj : j < (tc7 p k).length) (hs : (stN (tc7 p k) j).sat = sat) (h0 : 0 ≤ (yo7 t k).getD j 0) : CameI p t sat ((yo7 t k).getD j 0) k (j + 1) := .inr ⟨k, j, hk, hj, hs, rfl, h0⟩
theorem came_keep {p : sa7} {t : qb7} {sat c : Int} {k j : Nat} (h : CameI p t sat c k j) (hs : c < 0 → (stN (tc7 p k) j).sat ≠ sat) : CameI p t sat c k (j + 1) := by
  rcases h with ⟨h1, h2⟩ | h
  · refine .inl ⟨h1, fun i q hq hl => ?_⟩
    by_cases e : i = k ∧ q = j
    · obtain ⟨rfl, rfl⟩ := e; exact hs (by omega)
    · exact h2 i q (by omega) hl
  · exact .inr h
theorem came_next {p : sa7} {t : qb7} {sat c : Int} {k : Nat} (h : CameI p t sat c k (tc7 p k).length) : CameI p t sat c (k + 1) 0 := by
  rcases h with ⟨h1, h2⟩ | h
  · refine .inl ⟨h1, fun i q hq hl => h2 i q ?_ hl⟩
    by_cases e : i = k
    · subst e; exact .inr ⟨rfl, hl⟩
    · exact .inl (by omega)
  · exact .inr h
theorem came_end {x : ba7} {p : sa7} {t : qb7} (hc : ia7 x p = 0) (hl : ∀ c ∈ x.custs, 1 ≤ c.load) {k : Nat} (hk : k < p.bikes.length) {c : Int} (h : CameI p t (sc7 p k).sat c p.trucks.length 0) :
    ∃ i q, i < p.trucks.length ∧ q < (tc7 p i).length ∧ (stN (tc7 p i) q).sat = (sc7 p k).sat ∧ c = (yo7 t i).getD q 0 ∧ 0 ≤ c := by
  rcases h with ⟨h1, h2⟩ | h
  · obtain ⟨i, hi, q, hq, e⟩ := came_some hc hl (ub7 hk ⟨0, []⟩)
    exact absurd e (h2 i q (.inl hi) hq)
  · exact h
theorem fit_lens {p : sa7} {t : qb7} (h : qn7 p t = true) : (t.trucks.length = p.trucks.length ∧ t.bikes.length = p.bikes.length) ∧ (∀ k, k < p.trucks.length → (yo7 t k).length = (tc7 p k).length) ∧ ∀ k, k < p.bikes.length → (yk7 t k).starts.length = (sc7 p k).stops.length := by
  unfold qn7 fq7 on7 at h
  simp only [Bool.and_eq_true, decide_eq_true_eq, List.all_eq_true, List.mem_range] at h
  exact ⟨h.1, h.2.1, h.2.2⟩
theorem feasServes_p {s : wb7} {wi : uf7} {m : List Int × Int} (hs : SmallK s) (hw : xpb7 wi) (hm : nhb7 m.1 m.2) :
    zi7 Try.prog 3 [.agg (scb7 s), .agg (hnb7 wi), .agg (ucb7 m)] (fun r => r = .c (.bool true)) := by
  refine pcall_ofP planFS xy7 (by kernel_rfl) (fun _ => ([], 0, none)) Try.func3 rfl (by kernel_rfl) Try.ntmps3 (congrArg Array.toList Try.results3) (by kernel_rfl) (by simp) ?_
  simp -implicitDefEqProofs only [go_sem, ↓reduceIte, reduceCtorEq, Nat.reduceAdd, Nat.reduceLT, Nat.reduceEqDiff, Nat.reduceMul, Nat.reduceLeDiff, Nat.reduceSub, planFS, apb7, qnb7, scb7, hnb7, ucb7]
  refine rc7 ujb7 trivial rfl (fun r h => by subst h; rfl) ?_
  rintro r rfl
  (try simp -implicitDefEqProofs only [go_sem, ↓reduceIte, reduceCtorEq, Nat.reduceAdd, Nat.reduceLT, Nat.reduceEqDiff, Nat.reduceMul, Nat.reduceLeDiff, Nat.reduceSub, apb7, qnb7])
  intro _
  refine yv7 (tzb7 hs) (by simp -implicitDefEqProofs only [go_sem, ↓reduceIte, reduceCtorEq, Nat.reduceAdd, Nat.reduceLT, Nat.reduceEqDiff, Nat.reduceMul, Nat.reduceLeDiff, Nat.reduceSub]) rfl rfl ?_
  rintro r rfl
  have hy := usb7 hs
  generalize th7 s = y at hy
  simp -implicitDefEqProofs only [go_sem, ↓reduceIte, reduceCtorEq, Nat.reduceAdd, Nat.reduceLT, Nat.reduceEqDiff, Nat.reduceMul, Nat.reduceLeDiff, Nat.reduceSub, apb7, qnb7, qf7]
  refine yv7 (wvb7 hy hw) (by simp -implicitDefEqProofs only [go_sem, ↓reduceIte, reduceCtorEq, Nat.reduceAdd, Nat.reduceLT, Nat.reduceEqDiff, Nat.reduceMul, Nat.reduceLeDiff, Nat.reduceSub]) rfl rfl ?_
  rintro r rfl
  have hp := mrb7 hy wi
  have hsk := draft_soon hy wi
  generalize yh7 y wi = p at hp hsk
  simp -implicitDefEqProofs only [go_sem, ↓reduceIte, reduceCtorEq, Nat.reduceAdd, Nat.reduceLT, Nat.reduceEqDiff, Nat.reduceMul, Nat.reduceLeDiff, Nat.reduceSub, apb7, qnb7, if7]
  have hcode := msb7 hy hp
  by_cases hc : ia7 y p = 0
  · rw [hc] at hcode
    refine rc7 hcode (by simp -implicitDefEqProofs only [go_sem, ↓reduceIte, reduceCtorEq, Nat.reduceAdd, Nat.reduceLT, Nat.reduceEqDiff, Nat.reduceMul, Nat.reduceLeDiff, Nat.reduceSub]) rfl (fun r h => by subst h; rfl) ?_
    rintro r rfl
    simp -implicitDefEqProofs only [go_sem, ↓reduceIte, reduceCtorEq, Nat.reduceAdd, Nat.reduceLT, Nat.reduceEqDiff, Nat.reduceMul, Nat.reduceLeDiff, Nat.reduceSub, apb7, qnb7, eq_self, not_true_eq_false, not_false_eq_true, decide_false, decide_true, Bool.not_false, Bool.not_true, Bool.or_false, Bool.false_or, Bool.true_or, Bool.or_true, Bool.and_true, Bool.true_and, Bool.false_and, Bool.and_false, true_implies]
    refine k_cut (fun σ' => ∃ t, (bu7 t ∧ t.trucks.length ≤ 200000 ∧ t.bikes.length ≤ 200000) ∧ σ' = ⟨[(7, true, .c (.ptr 3 1 0 0)), (8, true, .c (.ptr 4 1 0 0)), (9, true, .c (.ptr 5 1 0 0))], headFS s wi m y p t⟩) ?_ ?_
    · simp -implicitDefEqProofs only [go_sem, ↓reduceIte, reduceCtorEq, Nat.reduceAdd, Nat.reduceLT, Nat.reduceEqDiff, Nat.reduceMul, Nat.reduceLeDiff, Nat.reduceSub, treeS, qkb7, hfc7, fec7, qec7, et_d, ucc7]
      repeat' (first
        | exact ⟨_, ⟨by assumption, by assumption, by assumption⟩, rfl⟩
        | (refine yv7 (ozb7 hsk) (by simp -implicitDefEqProofs only [go_sem, ↓reduceIte, reduceCtorEq, Nat.reduceAdd, Nat.reduceLT, Nat.reduceEqDiff, Nat.reduceMul, Nat.reduceLeDiff, Nat.reduceSub]) rfl rfl ?_; rintro r rfl)
        | (refine qqb7 hsk hm (by simp -implicitDefEqProofs only [go_sem, ↓reduceIte, reduceCtorEq, Nat.reduceAdd, Nat.reduceLT, Nat.reduceEqDiff, Nat.reduceMul, Nat.reduceLeDiff, Nat.reduceSub, ucb7, dd7]) rfl rfl ?_; intro t ht htl htb)
        | (refine rc7 (lhb7 hsk hp.small) (by simp -implicitDefEqProofs only [go_sem, ↓reduceIte, reduceCtorEq, Nat.reduceAdd, Nat.reduceLT, Nat.reduceEqDiff, Nat.reduceMul, Nat.reduceLeDiff, Nat.reduceSub]) rfl (fun r h => by subst h; rfl) ?_; rintro r rfl)
        | refine And.intro ?_ ?_
        | simp -implicitDefEqProofs only [go_sem, ↓reduceIte, reduceCtorEq, Nat.reduceAdd, Nat.reduceLT, Nat.reduceEqDiff, Nat.reduceMul, Nat.reduceLeDiff, Nat.reduceSub, e_keep, dd7, edb7, if7, List.cons_append, List.nil_append])
    · rintro σ' ⟨t, ⟨ht, htl, htb⟩, rfl⟩
      have hcw : ua7 (qw7 y p) := by have := wjb7 hy hp; unfold hh7 at this; rwa [if_pos hc] at this
      have hck := ko7 (s := ⟨p, t, qw7 y p⟩) hy hp ht hcw
      by_cases hf : fr7 y ⟨p, t, qw7 y p⟩ = 0
      · rw [hf] at hck
        have hcl : na7 y p t = 0 := by
          unfold fr7 at hf
          by_cases e : na7 y p t = 0
          · exact e
          · simp only at hf; rw [if_pos e] at hf; exact hf
        have hv := qlb7 (t := t) hc
        rw [hcl] at hv
        have hfit : qn7 p t = true := by
          cases hff : qn7 p t with
          | true => rfl
          | false => rw [if_pos hff] at hv; cases hv
        have hcan : otb7 y p t = true := by
          rw [← ptb7 t (vh7 hc)]
          cases hff : jvb7 y p t with
          | true => rfl
          | false => rw [if_neg (by rw [hfit]; simp), if_pos hff] at hv; cases hv
        simp -implicitDefEqProofs only [go_sem, ↓reduceIte, reduceCtorEq, Nat.reduceAdd, Nat.reduceLT, Nat.reduceEqDiff, Nat.reduceMul, Nat.reduceLeDiff, Nat.reduceSub, apb7, headFS, edb7, dd7, qf7, if7, List.cons_append, List.nil_append]
        refine rc7 hck (by simp -implicitDefEqProofs only [go_sem, ↓reduceIte, reduceCtorEq, Nat.reduceAdd, Nat.reduceLT, Nat.reduceEqDiff, Nat.reduceMul, Nat.reduceLeDiff, Nat.reduceSub]) rfl (fun r h => by subst h; rfl) ?_
        rintro r rfl
        simp -implicitDefEqProofs only [go_sem, ↓reduceIte, reduceCtorEq, Nat.reduceAdd, Nat.reduceLT, Nat.reduceEqDiff, Nat.reduceMul, Nat.reduceLeDiff, Nat.reduceSub, eq_self, not_true_eq_false, not_false_eq_true, decide_false, decide_true, Bool.not_false, Bool.not_true, Bool.or_false, Bool.false_or, Bool.true_or, Bool.or_true, Bool.and_true, Bool.true_and, Bool.false_and, Bool.and_false, true_implies]
        have gd := hsk.good
        have hcl : ∀ c ∈ y.custs, 1 ≤ c.load := fun c h => (gd.cust c h).1.1
        have hbk : ∀ b ∈ p.bikes, (0 ≤ b.sat ∧ b.sat < y.sats.length) ∧ ∀ c ∈ b.stops, bc7 y c := fun b h => ⟨(hsk.b1 b h).2.1, (hsk.b1 b h).2.2⟩
        have hsf := serve_facts gd hbk hcan
        have hlo := times_lo gd hcan
        obtain ⟨⟨hT, hB⟩, hTl, hBl⟩ := fit_lens hfit
        have htl2 := hsk.tl; have hbl2 := hsk.bl
        clear hck hcode
        refine ⟨by have := gd.custs; omega, ?_⟩
        refine wd7 (ι := Nat) [7, 8, 9, 10, 53, 54] [55] (fun k => k ≤ p.bikes.length) (fun k => [.c (I6 k)]) (fun k => headFS s wi m y p t ++ [.live false 3 1 (.ints .i64 (nn7 (maskK p k) y.custs.length))]) (fun k => p.bikes.length - k) (by kernel_rfl) ⟨0, Nat.zero_le _, rfl, by show _ = _ ++ [Root.live false 3 1 (.ints .i64 (nn7 0 y.custs.length))]; rw [zhb7]; rfl⟩ (fun k _ => ⟨rfl, rfl, rfl, rfl⟩) ?_
        intro k hk
        simp -implicitDefEqProofs only [go_sem, ↓reduceIte, reduceCtorEq, Nat.reduceAdd, Nat.reduceLT, Nat.reduceEqDiff, Nat.reduceMul, Nat.reduceLeDiff, Nat.reduceSub, headFS, edb7, dd7, qf7, if7, List.cons_append, List.nil_append]
        refine ⟨fun h => ?_, fun h => ?_⟩
        · have hlt : k < p.bikes.length := by omega
          obtain ⟨hb1, hb2, hb3⟩ : (sc7 p k).stops.length ≤ 100000 ∧ (0 ≤ (sc7 p k).sat ∧ (sc7 p k).sat < y.sats.length) ∧ ∀ c ∈ (sc7 p k).stops, bc7 y c := hsk.b1 _ (ub7 hlt ⟨0, []⟩)
          refine ⟨by omega, ?_⟩
          refine wd7 (ι := Int × Nat) [7, 8, 9, 10, 11, 12, 53, 54, 55, 61, 62] [13, 63] (fun s => s.2 ≤ p.trucks.length ∧ CameI p t (sc7 p k).sat s.1 s.2 0) (fun s => [.c (I6 s.1), .c (I6 s.2)]) (fun _ => _) (fun s => p.trucks.length - s.2) (by kernel_rfl) ⟨(-1, 0), ⟨Nat.zero_le _, .inl ⟨rfl, fun i q h => by omega⟩⟩, rfl, rfl⟩ (fun k _ => ⟨rfl, rfl, rfl, rfl⟩) ?_
          rintro ⟨c, i⟩ ⟨hi, hci⟩
          simp only [] at hi hci
          simp -implicitDefEqProofs only [go_sem, ↓reduceIte, reduceCtorEq, Nat.reduceAdd, Nat.reduceLT, Nat.reduceEqDiff, Nat.reduceMul, Nat.reduceLeDiff, Nat.reduceSub]
          refine ⟨fun h => ?_, fun h => ?_⟩
          · have hit : i < p.trucks.length := by omega
            refine ⟨by omega, ?_⟩
            refine wd7 (ι := Int × Nat) [7, 8, 9, 10, 11, 12, 14, 53, 54, 55, 61, 62, 63, 69, 70] [13, 71] (fun s => s.2 ≤ (tc7 p i).length ∧ CameI p t (sc7 p k).sat s.1 i s.2) (fun s => [.c (I6 s.1), .c (I6 s.2)]) (fun _ => _) (fun s => (tc7 p i).length - s.2) (by kernel_rfl) ⟨(c, 0), ⟨Nat.zero_le _, hci⟩, rfl, rfl⟩ (fun k _ => ⟨rfl, rfl, rfl, rfl⟩) ?_
            rintro ⟨c, j⟩ ⟨hj, hcj⟩
            simp only [] at hj hcj
            simp -implicitDefEqProofs only [go_sem, ↓reduceIte, reduceCtorEq, Nat.reduceAdd, Nat.reduceLT, Nat.reduceEqDiff, Nat.reduceMul, Nat.reduceLeDiff, Nat.reduceSub]
            refine ⟨fun h => ?_, fun h => ?_⟩
            · have hjl : j < (tc7 p i).length := by omega
              have e1 := hTl i hit
              have hl0 : 0 ≤ (yo7 t i).getD j 0 := hlo i hit j hjl
              have e4 : (tc7 p i).length ≤ 100000 := (hsk.t1 _ (ub7 hit [])).1
              refine ⟨by omega, fun _ _ => by omega, fun _ _ => by omega, fun hs _ => ⟨by omega, by omega, by omega, ((yo7 t i).getD j 0, j + 1), ⟨by show j + 1 ≤ _; omega, came_new hit hjl hs hl0⟩, rfl, by show _ - (j + 1) < _; omega⟩, fun hf2 => ⟨by omega, (c, j + 1), ⟨by show j + 1 ≤ _; omega, came_keep hcj fun hn hs => ?_⟩, rfl, by show _ - (j + 1) < _; omega⟩⟩
              simp [hs, hn] at hf2
            · obtain rfl : j = (tc7 p i).length := by omega
              exact ⟨by omega, (c, i + 1), ⟨by show i + 1 ≤ _; omega, came_next hcj⟩, rfl, by show _ - (i + 1) < _; omega⟩
          · obtain rfl : i = p.trucks.length := by omega
            obtain ⟨i, q, hi2, hq, hs, hce, h0⟩ := came_end hc hcl hlt hci
            refine wd7 (ι := Nat) [7, 8, 9, 10, 11, 13, 53, 54, 55, 110, 111] [112] (fun j => j ≤ (sc7 p k).stops.length) (fun j => [.c (I6 j)]) (fun j => headFS s wi m y p t ++ [.live false 3 1 (.ints .i64 (nn7 (maskJ p k j) y.custs.length)), .live false 59 2 (.box [I6 (sc7 p k).sat, bi7 (sc7 p k).stops])]) (fun j => (sc7 p k).stops.length - j) (by kernel_rfl) ⟨0, Nat.zero_le _, rfl, rfl⟩ (fun k _ => ⟨rfl, rfl, rfl, rfl⟩) ?_
            intro j hj
            simp -implicitDefEqProofs only [go_sem, ↓reduceIte, reduceCtorEq, Nat.reduceAdd, Nat.reduceLT, Nat.reduceEqDiff, Nat.reduceMul, Nat.reduceLeDiff, Nat.reduceSub, headFS, edb7, dd7, qf7, if7, List.cons_append, List.nil_append]
            refine ⟨fun h => ?_, fun h => ?_⟩
            · have hjl : j < (sc7 p k).stops.length := by omega
              have hco := hb3 _ (ub7 hjl 0)
              obtain ⟨f1, f2, f3⟩ := hsf k hlt j hjl
              have f1 : (yo7 t i).getD q 0 ≤ (yk7 t k).starts.getD j 0 := f1 i hi2 q hq hs
              have f2 : (tb7 y ((sc7 p k).stops.getD j 0)).opn ≤ (yk7 t k).starts.getD j 0 := f2
              have f3 : (yk7 t k).starts.getD j 0 ≤ (tb7 y ((sc7 p k).stops.getD j 0)).cls := f3
              have hfr : (maskJ p k j).testBit ((sc7 p k).stops.getD j 0).toNat = false := once_free hc hlt hjl
              have hms : maskJ p k (j + 1) = maskJ p k j ||| 2 ^ ((sc7 p k).stops.getD j 0).toNat := maskJ_succ hjl
              have e2 := hBl k hlt
              unfold bc7 at hco
              clear hsf
              have hbn : (nn7 (maskJ p k j) y.custs.length).length = y.custs.length := zcb7 _ _
              have hg : (nn7 (maskJ p k j) y.custs.length).getD ((sc7 p k).stops.getD j 0).toNat 0 = 0 := by rw [bits_get0 (by omega), hfr]; rfl
              have hse : (nn7 (maskJ p k j) y.custs.length).set ((sc7 p k).stops.getD j 0).toNat ((nn7 (maskJ p k j) y.custs.length).getD ((sc7 p k).stops.getD j 0).toNat 0 + 1) = nn7 (maskJ p k (j + 1)) y.custs.length := by rw [hg, cob7 _ _ _ (0 + 1) rfl, hms]
              refine ⟨by omega, by omega, by omega, ⟨hco, hbn.symm⟩, by omega, by omega, ⟨hco, hbn.symm⟩, by omega, fun _ => hco, fun _ => hco, fun hh => ?_, fun _ => ⟨by omega, j + 1, by omega, rfl, by rw [hse], by omega⟩⟩
              exfalso
              simp only [Bool.or_eq_true, decide_eq_true_eq] at hh
              omega
            · obtain rfl : j = (sc7 p k).stops.length := by omega
              exact ⟨by omega, k + 1, by omega, rfl, by rw [show maskJ p k (sc7 p k).stops.length = maskK p (k + 1) from maskK_succ hlt], by omega⟩
        · obtain rfl : k = p.bikes.length := by omega
          have hbn : (nn7 (maskK p p.bikes.length) y.custs.length).length = y.custs.length := zcb7 _ _
          have hal : ∀ k, k < y.custs.length → (nn7 (maskK p p.bikes.length) y.custs.length).getD k 0 = 1 := fun k h => by rw [bits_get0 h, once_all hc hy.nc.2 k h]; rfl
          have hnc := hy.nc.2
          refine ⟨hbn.symm, ?_⟩
          refine wd7 (ι := Nat) [162, 163] [164] (fun k => k ≤ y.custs.length) (fun k => [.c (I6 k)]) (fun _ => _) (fun k => y.custs.length - k) (by kernel_rfl) ⟨0, Nat.zero_le _, rfl, rfl⟩ (fun k _ => ⟨rfl, rfl, rfl, rfl⟩) ?_
          intro k hk
          simp -implicitDefEqProofs only [go_sem, ↓reduceIte, reduceCtorEq, Nat.reduceAdd, Nat.reduceLT, Nat.reduceEqDiff, Nat.reduceMul, Nat.reduceLeDiff, Nat.reduceSub]
          intro h
          have hlt : k < y.custs.length := by omega
          exact ⟨⟨by omega, hbn.symm⟩, by omega, fun e => absurd (hal k hlt) e, fun _ => ⟨by omega, k + 1, by omega, rfl, by omega⟩⟩
      · simp -implicitDefEqProofs only [go_sem, ↓reduceIte, reduceCtorEq, Nat.reduceAdd, Nat.reduceLT, Nat.reduceEqDiff, Nat.reduceMul, Nat.reduceLeDiff, Nat.reduceSub, apb7, headFS, edb7, dd7, qf7, if7, List.cons_append, List.nil_append]
        refine rc7 hck (by simp -implicitDefEqProofs only [go_sem, ↓reduceIte, reduceCtorEq, Nat.reduceAdd, Nat.reduceLT, Nat.reduceEqDiff, Nat.reduceMul, Nat.reduceLeDiff, Nat.reduceSub]) rfl (fun r h => by subst h; rfl) ?_
        rintro r rfl
        simp -implicitDefEqProofs only [go_sem, ↓reduceIte, reduceCtorEq, Nat.reduceAdd, Nat.reduceLT, Nat.reduceEqDiff, Nat.reduceMul, Nat.reduceLeDiff, Nat.reduceSub, hf, eq_self, not_true_eq_false, not_false_eq_true, decide_false, decide_true, Bool.not_false, Bool.not_true, Bool.or_false, Bool.false_or, Bool.true_or, Bool.or_true, Bool.and_true, Bool.true_and, Bool.false_and, Bool.and_false, true_implies]
  · refine rc7 hcode (by simp -implicitDefEqProofs only [go_sem, ↓reduceIte, reduceCtorEq, Nat.reduceAdd, Nat.reduceLT, Nat.reduceEqDiff, Nat.reduceMul, Nat.reduceLeDiff, Nat.reduceSub]) rfl (fun r h => by subst h; rfl) ?_
    rintro r rfl
    simp -implicitDefEqProofs only [go_sem, ↓reduceIte, reduceCtorEq, Nat.reduceAdd, Nat.reduceLT, Nat.reduceEqDiff, Nat.reduceMul, Nat.reduceLeDiff, Nat.reduceSub, apb7, qnb7, hc, eq_self, not_true_eq_false, not_false_eq_true, decide_false, decide_true, Bool.not_false, Bool.not_true, Bool.or_false, Bool.false_or, Bool.true_or, Bool.or_true, Bool.and_true, Bool.true_and, Bool.false_and, Bool.and_false, true_implies]
theorem feasServes_c {w : World} {F G S : Nat → Prop} {s : wb7} {wi : uf7} {m : List Int × Int} {cs1 cs2 cs3 : List Value} (h1 : bp7.rep w F s cs1) (h2 : veb7.rep w G wi cs2) (h3 : qcb7.rep w S m cs3) :
    Calls Try.prog 3 #[.agg cs1.toArray, .agg cs2.toArray, .agg cs3.toArray] w fun e w' => e = .returned (.bool true) ∧ Below w.heap.size w w' :=
  vwb7 (vs := [.agg cs1.toArray, .agg cs2.toArray, .agg cs3.toArray]) (feasServes_p (ewb7 h1) (dac7 h2) (pvb7 h3)) ⟨_, _, rfl, ⟨_, rfl, ivb7 (bp7.old h1)⟩, _, _, rfl, ⟨_, rfl, pxb7 (veb7.old h2)⟩, _, _, rfl, ⟨_, rfl, zvb7 (qcb7.old h3)⟩, rfl⟩
end Go.Proofs.Ytahffcepagopmaa.Ab
