/- Texts of the proof, joined: Nodes, Cost, Lit, Make, One, Awake17. -/
import Derived.Test.YtafhjfkdlmijdaaGc
import Derived.Laws.OwnMore
import Derived.Test.YtafhjfkdlmijdaaGb
import Derived.Deep.DeepCutAuto
/- Contracts: plan.Truck.Nodes, plan.Bike.Nodes. -/
namespace Go.Proofs.Ytafhjfkdlmijdaa
open Go.RowKit

theorem flat1 {α β : Type} (f : α → β) : ∀ xs : List α, xs.flatMap (fun x => [f x]) = xs.map f
  | [] => rfl
  | x :: xs => by rw [List.flatMap_cons, List.map_cons, flat1 f xs]; rfl
/-- What a call owns as a row reads as a slice. -/
theorem owns_rep {α : Type} {S : Shape α} {h0 : 0 < S.sz} {w : World} {B : Nat} {T : TypeId} {v : Value} {xs : List α} (enc : α → List Value) (hl : ∀ x, (enc x).length = S.sz) (hs : ∀ x ∈ xs, S.rep w (fun b => B ≤ b) x (enc x))
    (h : w.ownsRow B T S.sz v xs.length (xs.flatMap enc)) : (sliceS S h0).rep w (fun b => B ≤ b) xs [v] := by
  obtain ⟨h1, h2⟩ := h
  rcases h2 with ⟨rfl, hn⟩ | ⟨g, cap, cur, rfl, hg, hh, hn1, hc, hsz, ht⟩
  · have : xs = [] := List.eq_nil_of_length_eq_zero hn
    subst this
    exact ⟨none, 0, 0, 0, rfl, Nat.le_refl _, Nat.zero_le _, fun h => absurd h (Nat.not_lt_zero _), fun _ h => absurd h (Nat.not_lt_zero _)⟩
  · have hR : Row w g T (xs.flatMap enc) := ⟨cur, cur.toList.drop (xs.length * S.sz), hh, by rw [← ht, List.take_append_drop]⟩
    refine ⟨some ⟨g, 0, none⟩, g, 0, cap, rfl, hn1, hc, fun _ => ⟨rfl, hg⟩, fun i hi => ⟨enc xs[i], hs _ (List.getElem_mem hi), fun j hj => ?_⟩⟩
    have e := flatMap_get enc S.sz hl xs i j hi hj
    have hj' : j < (enc xs[i]).length := by rw [hl]; exact hj
    rw [List.getElem?_eq_getElem hj'] at e ⊢
    rw [Nat.zero_add]
    exact hR.get e
theorem owns_ints {w : World} {B : Nat} {T : TypeId} {v : Value} {xs : List Int} (h : w.ownsRow B T 1 v xs.length (xs.map intV)) (hw : ∀ x ∈ xs, wf64 x) : (sliceS intS).rep w (fun b => B ≤ b) xs [v] :=
  owns_rep (S := intS) (fun x => [intV x]) (fun _ => rfl) (fun x hx => ⟨rfl, hw x hx⟩) (by rw [flat1]; exact h)
theorem Row.grown {w w' : World} {g : Nat} {e : TypeId} {cs : List Value} {B T n k : Nat} {v : Value} {xs : List Value} (h : Row w g e cs) (hown : w.ownsRow B T k v n xs) (he : e ≠ T) (hg : w.grownBy w' v.ownBlock) : Row w' g e cs :=
  h.keep (hg.block g h.lt fun e => by obtain ⟨cs', hc'⟩ := ownBlock_row hown e.symm; exact h.ne hc' he rfl)
theorem below_owned {B B' T n k : Nat} {a w w' : World} {v : Value} {xs : List Value} (h : Below B a w) (hown : w.ownsRow B' T k v n xs) (hB : B ≤ w.heap.size) (hB' : B ≤ B') (hg : w.grownBy w' v.ownBlock) : Below B a w' :=
  h.grown hg hB fun k hk => Nat.le_trans hB' (hown.lt k hk).1

def truckNodes (t : List StopD) : List Int := 0 :: t.map (fun s => 1 + s.sat)
def bikeNodes (x : InstD) (b : BikeD) : List Int := (1 + b.sat) :: b.stops.map (fun c => 1 + x.sats.length + c)
theorem map_take_succ {α β : Type} (f : α → β) (z : β) (l : List α) (k : Nat) (h : k < l.length) : z :: (l.take (k + 1)).map f = (z :: (l.take k).map f) ++ [f l[k]] := by
  rw [List.take_succ_eq_append_getElem h, List.map_append]; rfl

def truckV (t : List StopD) (k : Nat) : List Value := (0 :: (t.take k).map (fun s => 1 + s.sat)).map intV
def bikeV (x : InstD) (st : Int) (t : List Int) (k : Nat) : List Value := ((1 + st) :: (t.take k).map (fun c => 1 + x.sats.length + c)).map intV
theorem truckV_succ (t : List StopD) (k : Nat) (h : k < t.length) : truckV t (k + 1) = truckV t k ++ [.int .i64 (1 + t[k].sat)] := by
  unfold truckV; rw [map_take_succ _ _ _ _ h, List.map_append]; rfl
theorem bikeV_succ (x : InstD) (st : Int) (t : List Int) (k : Nat) (h : k < t.length) : bikeV x st t (k + 1) = bikeV x st t k ++ [.int .i64 (1 + x.sats.length + t[k])] := by
  unfold bikeV; rw [map_take_succ _ _ _ _ h, List.map_append]; rfl

theorem info_int : (Try.prog.info? 3).map (fun i => (i.zero, i.size, i.bytes)) = some (some (.int .i64 0), 1, 8) := by kernel_rfl

set_option maxRecDepth 100000 in
set_option maxHeartbeats 1600000 in
theorem truckNodes_c {w : World} {F G : Nat → Prop} {x : InstD} {cs : List Value} {t : List StopD} {v : Value} (h : instS.rep w F x cs) (hl : (sliceS stopS).rep w G t [v]) (hin : ∀ s ∈ t, 0 ≤ s.sat ∧ s.sat ≤ 1000000) (hn : t.length ≤ 1000000) :
    Calls Try.prog 94 #[.agg #[v], .agg cs.toArray] w fun e w' => ∃ u, e = .returned u ∧ (sliceS intS).rep w' (fun b => w.heap.size ≤ b) (truckNodes t) [u] ∧ Below w.heap.size w w' := by
  have hrep := h
  obtain ⟨s, c, co, ti, rfl, -, -, -, -, -⟩ := h
  obtain ⟨a2, b2, off2, c2, hs2, hl2, hc2, ha2, -, hcell2, -⟩ := stops_open hl
  obtain rfl := List.cons.inj hs2 |>.1
  clear hs2 hl
  go_enter Try.func94, Try.ntmps94
  go_wp2
  go_loopw [5, 12] (fun ov i wr => ∃ (k : Nat) (ao : Option Addr) (cp : Nat), k ≤ t.length ∧ i = .int .i64 k ∧ ov = .slice ao (k + 1) cp ∧ wr.ownsRow w.heap.size 3 1 (.slice ao (k + 1) cp) (k + 1) (truckV t k) ∧
      Row wr (w.heap.size + 1) 33 [.int .i64 x.fin, .int .i64 x.tmany, .int .i64 x.troom, .int .i64 x.bmany, .int .i64 x.broom, s, c, co, ti] ∧ Below w.heap.size w wr) (fun _ i _ => t.length - (intOf i).toNat)
  case atStart =>
    refine ⟨0, _, _, Nat.zero_le _, rfl, rfl, ?_, ?_, (((Below.refl _ _).alloc (Nat.le_refl _) _).alloc (by simp) _).alloc (by simp; omega) _⟩
    · have := World.ownsRow_lit (e := 3) (size := 1) (base := w.heap.size) ((w.alloc (.cells #[.slice a2 t.length c2] 108)).alloc (.cells #[.int .i64 x.fin, .int .i64 x.tmany, .int .i64 x.troom, .int .i64 x.bmany, .int .i64 x.broom, s, c, co, ti] 33)) #[.int .i64 0] 1 (by simp; omega) (by decide) rfl
      simpa [truckV, intV] using this
    · exact Row.alloc (Row.new (w := w.alloc (.cells #[.slice a2 t.length c2] 108)) (cs := [.int .i64 x.fin, .int .i64 x.tmany, .int .i64 x.troom, .int .i64 x.bmany, .int .i64 x.broom, s, c, co, ti]) (by simp)) _
  case round =>
    obtain ⟨k, ao, cp, hk, rfl, rfl, hown, R, hb⟩ := hrel
    obtain ⟨wo, rfl⟩ : ∃ wo : World, wo = wr := ⟨_, rfl⟩
    by_cases hlt : k < t.length
    · have hx := idx_at (c := c2) Try.underlying106 sz_stop (ha2 (by omega)) hlt
      have g0 := below_cell hb (hcell2 k hlt).1
      have g1 := below_cell hb (hcell2 k hlt).2
      have i0 := hin _ (List.getElem_mem hlt)
      obtain ⟨sp, hsp⟩ : ∃ sp, sp = t[k] := ⟨_, rfl⟩
      rw [← hsp] at g0 g1 i0
      obtain ⟨st, ld⟩ := sp
      simp only [] at g0 g1 i0
      have HM := hid (truckV_succ t k hlt)
      rw [← hsp] at HM
      have R0 := R.alloc (.cells #[.int .i64 st, .int .i64 ld] 105)
      have hsz := hb.size
      have hb0 := hb.alloc hb.size (.cells #[.int .i64 st, .int .i64 ld] 105)
      have hown0 := hown.alloc (.cells #[.int .i64 st, .int .i64 ld] 105)
      have HO := hid hown0
      obtain ⟨q0, q1, q2, q3, q4, q5, q6, q7, q8⟩ := row9 R0
      clear hcell2 ha2 hsp hin hown R hown0
      go_wp2_with fail
      refine (instSat_c (instS.below hrep hb0) (by omega)).mono ?_
      rintro e w1 ⟨rfl, hb1⟩
      have R1 := R0.below hb1
      have hB1 := below_step hb0 hb1
      have hown1 := owns_below HO.out hb1
      have hs1 := hB1.size
      clear q0 q1 q2 q3 q4 q5 q6 q7 q8 R0
      have HR1 := hid R1
      have HB1 := hid hB1
      obtain ⟨i1, hi, hz0, hz1, hz2⟩ := info_parts info_int
      clear R1 hB1 hb0 hb1
      go_wp2_with (at_builtin; refine wpList_append_own _ rfl _ _ 49 rfl w.heap.size 3 i1 (.int .i64 0) 1 8 Try.underlying49 hi hz0 hz1 hz2 rfl (by decide) _ _ _ rfl (hown1.alloc _) ⟨w1.heap.size, 0, none⟩ 1 1 [.int .i64 (1 + st)] rfl rfl ?c1 ?c2 ?c3 ?c4 ?c5 ?_)
      case c1 => exact cell_one_new _ _ _
      case c2 => intro u hu; simp at hu; subst hu; rfl
      case c3 => unfold maxLen; omega
      case c4 => omega
      case c5 => simp; omega
      intro v' w2 hown' hgrow _
      obtain ⟨ao', cp', hv', -, -⟩ := owns_slice hown'
      subst hv'
      have hR2 := (HR1.out.alloc _).grown (hown1.alloc _) (by decide) hgrow
      have hB2 := below_owned (HB1.out.alloc hs1 _) (hown1.alloc _) (by simp; omega) (Nat.le_refl _) hgrow
      have HOW := hid (show w2.ownsRow w.heap.size 3 1 (.slice ao' (k + 1 + 1) cp') (k + 1 + 1) (truckV t (k + 1)) from by rw [HM.out]; exact hown')
      clear hown' hgrow hown1 hi hz0 hz1 hz2
      go_wp2
      go_roundw
      case rel => exact ⟨k + 1, ao', cp', by omega, by go_num, rfl, HOW.out, hR2, hB2⟩
      case measure => simp [intOf]; omega
    · have hke : k = t.length := by omega
      subst hke
      have hr : (sliceS intS).rep wo (fun b => w.heap.size ≤ b) (truckNodes t) [.slice ao (t.length + 1) cp] := by
        refine owns_ints (T := 3) ?_ ?_
        · have : (truckNodes t).length = t.length + 1 := by simp [truckNodes]
          rw [this]; unfold truckNodes; unfold truckV at hown; rw [List.take_length] at hown; exact hown
        · intro v hv
          simp only [truckNodes, List.mem_cons, List.mem_map] at hv
          rcases hv with rfl | ⟨s, hs, rfl⟩
          · unfold wf64; omega
          · have := hin s hs; unfold wf64; omega
      have HR := hid hr
      clear hr hown hcell2 ha2 hin
      go_wp2
      go_ret
      exact ⟨_, rfl, HR.out, hb⟩

set_option maxRecDepth 100000 in
set_option maxHeartbeats 1600000 in
theorem bikeNodes_c {w : World} {F G : Nat → Prop} {x : InstD} {cs : List Value} {k0 : BikeD} {bs : List Value} (h : instS.rep w F x cs) (hl : bikeS.rep w G k0 bs) (hsl : x.sats.length ≤ 1000000) (hb0 : 0 ≤ k0.sat ∧ k0.sat ≤ 1000000)
    (hin : ∀ c ∈ k0.stops, 0 ≤ c ∧ c ≤ 1000000) (hn : k0.stops.length ≤ 1000000) :
    Calls Try.prog 95 #[.agg bs.toArray, .agg cs.toArray] w fun e w' => ∃ u, e = .returned u ∧ (sliceS intS).rep w' (fun b => w.heap.size ≤ b) (bikeNodes x k0) [u] ∧ Below w.heap.size w w' := by
  have hrep := h
  obtain ⟨s, c, co, ti, rfl, -, -, -, -, -⟩ := h
  obtain ⟨v, rfl, -, hl⟩ := hl
  obtain ⟨st, t⟩ := k0
  simp only [] at hl hb0 hin hn
  obtain ⟨a2, b2, off2, c2, hs2, hl2, hc2, ha2, -, hcell2, -⟩ := ints_open hl
  obtain rfl := List.cons.inj hs2 |>.1
  clear hs2 hl
  have R0 := Row.new (w := w.alloc (.cells #[.int .i64 st, .slice a2 t.length c2] 128)) (g := w.heap.size + 1) (e := 33) (cs := [.int .i64 x.fin, .int .i64 x.tmany, .int .i64 x.troom, .int .i64 x.bmany, .int .i64 x.broom, s, c, co, ti]) (by simp)
  have P0 := (Row.new (w := w) (g := w.heap.size) (e := 128) (cs := [.int .i64 st, .slice a2 t.length c2]) rfl).alloc (.cells #[.int .i64 x.fin, .int .i64 x.tmany, .int .i64 x.troom, .int .i64 x.bmany, .int .i64 x.broom, s, c, co, ti] 33)
  have hbb : Below w.heap.size w ((w.alloc (.cells #[.int .i64 st, .slice a2 t.length c2] 128)).alloc (.cells #[.int .i64 x.fin, .int .i64 x.tmany, .int .i64 x.troom, .int .i64 x.bmany, .int .i64 x.broom, s, c, co, ti] 33)) := ((Below.refl _ _).alloc (Nat.le_refl _) _).alloc (by simp) _
  go_enter Try.func95, Try.ntmps95
  go_wp2_with fail
  refine (instSat_c (instS.below hrep hbb) (by omega)).mono ?_
  rintro e w1 ⟨rfl, hb1⟩
  have R1 := R0.below hb1
  have hB1 := below_step hbb hb1
  have P1 := P0.below hb1
  clear R0 P0 hbb hb1
  obtain ⟨p0, p1⟩ := row2 P1
  have hs1 := hB1.size
  have hz1 := P1.lt
  have hz2 := R1.lt
  go_wp2
  go_loopw [5, 16] (fun ov i wr => ∃ (k : Nat) (ao : Option Addr) (cp : Nat), k ≤ t.length ∧ i = .int .i64 k ∧ ov = .slice ao (k + 1) cp ∧ wr.ownsRow w.heap.size 3 1 (.slice ao (k + 1) cp) (k + 1) (bikeV x st t k) ∧
      Row wr (w.heap.size + 1) 33 [.int .i64 x.fin, .int .i64 x.tmany, .int .i64 x.troom, .int .i64 x.bmany, .int .i64 x.broom, s, c, co, ti] ∧ Below w.heap.size w wr) (fun _ i _ => t.length - (intOf i).toNat)
  case atStart =>
    refine ⟨0, _, _, Nat.zero_le _, rfl, rfl, ?_, R1.alloc _, hB1.alloc hs1 _⟩
    have := World.ownsRow_lit (e := 3) (size := 1) (base := w.heap.size) w1 #[.int .i64 (1 + st)] 1 hs1 (by decide) rfl
    simpa [bikeV, intV] using this
  case round =>
    clear R1 P1 p0 p1 hB1
    obtain ⟨k, ao, cp, hk, rfl, rfl, hown, R, hb⟩ := hrel
    obtain ⟨wo, rfl⟩ : ∃ wo : World, wo = wr := ⟨_, rfl⟩
    by_cases hlt : k < t.length
    · have hx := idx_at1 (c := c2) Try.underlying49 sz_int (ha2 (by omega)) hlt
      have g0 := below_cell hb (hcell2 k hlt)
      have i0 := hin _ (List.getElem_mem hlt)
      obtain ⟨sp, hsp⟩ : ∃ sp, sp = t[k] := ⟨_, rfl⟩
      rw [← hsp] at g0 i0
      have HM := hid (bikeV_succ x st t k hlt)
      rw [← hsp] at HM
      have hsz := hb.size
      have HO := hid hown
      obtain ⟨q0, q1, q2, q3, q4, q5, q6, q7, q8⟩ := row9 R
      clear hcell2 ha2 hsp hin hown
      go_wp2_with fail
      refine (instCust_c (instS.below hrep hb) hsl (by omega)).mono ?_
      rintro e w1 ⟨rfl, hb1⟩
      have R1 := R.below hb1
      have hB1 := below_step hb hb1
      have hown1 := owns_below HO.out hb1
      have hs1 := hB1.size
      clear q0 q1 q2 q3 q4 q5 q6 q7 q8 R
      have HR1 := hid R1
      have HB1 := hid hB1
      obtain ⟨i1, hi, hz0, hz1, hz2⟩ := info_parts info_int
      clear R1 hB1 hb hb1
      go_wp2_with (at_builtin; refine wpList_append_own _ rfl _ _ 49 rfl w.heap.size 3 i1 (.int .i64 0) 1 8 Try.underlying49 hi hz0 hz1 hz2 rfl (by decide) _ _ _ rfl (hown1.alloc _) ⟨w1.heap.size, 0, none⟩ 1 1 [.int .i64 (1 + x.sats.length + sp)] rfl rfl ?c1 ?c2 ?c3 ?c4 ?c5 ?_)
      case c1 => exact cell_one_new _ _ _
      case c2 => intro u hu; simp at hu; subst hu; rfl
      case c3 => unfold maxLen; omega
      case c4 => omega
      case c5 => simp; omega
      intro v' w2 hown' hgrow _
      obtain ⟨ao', cp', hv', -, -⟩ := owns_slice hown'
      subst hv'
      have hR2 := (HR1.out.alloc _).grown (hown1.alloc _) (by decide) hgrow
      have hB2 := below_owned (HB1.out.alloc hs1 _) (hown1.alloc _) (by simp; omega) (Nat.le_refl _) hgrow
      have HOW := hid (show w2.ownsRow w.heap.size 3 1 (.slice ao' (k + 1 + 1) cp') (k + 1 + 1) (bikeV x st t (k + 1)) from by rw [HM.out]; exact hown')
      clear hown' hgrow hown1 hi hz0 hz1 hz2
      go_wp2
      go_roundw
      case rel => exact ⟨k + 1, ao', cp', by omega, by go_num, rfl, HOW.out, hR2, hB2⟩
      case measure => simp [intOf]; omega
    · have hke : k = t.length := by omega
      subst hke
      have hr : (sliceS intS).rep wo (fun b => w.heap.size ≤ b) (bikeNodes x ⟨st, t⟩) [.slice ao (t.length + 1) cp] := by
        refine owns_ints (T := 3) ?_ ?_
        · have : (bikeNodes x ⟨st, t⟩).length = t.length + 1 := by simp [bikeNodes]
          rw [this]; unfold bikeNodes; unfold bikeV at hown; rw [List.take_length] at hown; exact hown
        · intro v hv
          simp only [bikeNodes, List.mem_cons, List.mem_map] at hv
          rcases hv with rfl | ⟨s, hs, rfl⟩
          · unfold wf64; omega
          · have := hin s hs; unfold wf64; omega
      have HR := hid hr
      clear hr hown hcell2 ha2 hin
      go_wp2
      go_ret
      exact ⟨_, rfl, HR.out, hb⟩
end Go.Proofs.Ytafhjfkdlmijdaa
/- Contract: plan.Cost. -/
namespace Go.Proofs.Ytafhjfkdlmijdaa
open Go.RowKit

/-- What the first so many trucks, bikes cost. -/
def costT (x : InstD) (l : List (List StopD)) (k : Nat) : Int := ((l.take k).map fun t => wayD x (truckNodes t)).sum
def costB (x : InstD) (l : List BikeD) (k : Nat) : Int := ((l.take k).map fun b => wayD x (bikeNodes x b)).sum
/-- plan.Cost, of a plan that may be -/
def costD (x : InstD) (p : PlanD) : Int := costT x p.trucks p.trucks.length + costB x p.bikes p.bikes.length
theorem costT_succ {x : InstD} {l : List (List StopD)} {k : Nat} (h : k < l.length) : costT x l (k + 1) = costT x l k + wayD x (truckNodes l[k]) := by
  unfold costT; rw [List.take_succ_eq_append_getElem h, List.map_append, List.sum_append]; simp
theorem costB_succ {x : InstD} {l : List BikeD} {k : Nat} (h : k < l.length) : costB x l (k + 1) = costB x l k + wayD x (bikeNodes x l[k]) := by
  unfold costB; rw [List.take_succ_eq_append_getElem h, List.map_append, List.sum_append]; simp
theorem wayD_bd {x : InstD} (g : Good x) (l : List Int) : 0 ≤ wayD x l ∧ wayD x l ≤ 1000000000 * (l.length : Int) := wayUp_bd g l l.length
theorem costT_bd {x : InstD} (g : Good x) (l : List (List StopD)) : ∀ k : Nat, k ≤ l.length → 0 ≤ costT x l k ∧ costT x l k ≤ 1000000000 * ((k + tstopsUp l k : Nat) : Int)
  | 0, _ => by unfold costT tstopsUp; simp
  | k + 1, h => by
    have h1 := costT_bd g l k (by omega)
    have h2 := wayD_bd g (truckNodes (l[k]'(by omega)))
    have h3 : (truckNodes (l[k]'(by omega))).length = (l[k]'(by omega)).length + 1 := by simp [truckNodes]
    rw [h3] at h2
    rw [costT_succ (by omega), tstopsUp_succ (by omega)]
    push_cast at h1 h2 ⊢; omega
theorem costB_bd {x : InstD} (g : Good x) (l : List BikeD) : ∀ k : Nat, k ≤ l.length → 0 ≤ costB x l k ∧ costB x l k ≤ 1000000000 * ((k + stopsUp l k : Nat) : Int)
  | 0, _ => by unfold costB stopsUp; simp
  | k + 1, h => by
    have h1 := costB_bd g l k (by omega)
    have h2 := wayD_bd g (bikeNodes x (l[k]'(by omega)))
    have h3 : (bikeNodes x (l[k]'(by omega))).length = (l[k]'(by omega)).stops.length + 1 := by simp [bikeNodes]
    rw [h3] at h2
    rw [costB_succ (by omega), stopsUp_succ (by omega)]
    push_cast at h1 h2 ⊢; omega
/-- plan.Cost -/
def costOf (x : InstD) (p : PlanD) : Int := if planCheck x p = 0 then costD x p else 0
def CustOk (x : InstD) (c : Int) : Prop := 0 ≤ c ∧ c < x.custs.length
theorem custBad_false {x : InstD} {m : Nat} {c : Int} (h : custBad x m c = false) : CustOk x c := by
  simp only [custBad, Bool.or_eq_false_iff, decide_eq_false_iff_not] at h
  unfold CustOk; omega
theorem custs_some {x : InstD} : ∀ (l : List Int) (m : Nat) (left : Int) (r : Nat × Int), l.foldl (custSt x) (some (m, left)) = some r → ∀ s ∈ l, CustOk x s
  | [], _, _, _, _, s, hs => by cases hs
  | a :: l, m, left, r, h, s, hs => by
    rw [List.foldl_cons] at h
    cases hb : custBad x m a
    · rw [custSt_ok hb] at h
      rcases List.mem_cons.1 hs with rfl | hs
      · exact custBad_false hb
      · exact custs_some l _ _ r h s hs
    · rw [custSt_bad hb, custs_none] at h; cases h
def BikeOk (x : InstD) (b : BikeD) : Prop := (0 ≤ b.sat ∧ b.sat < x.sats.length) ∧ 0 < b.stops.length ∧ ∀ c ∈ b.stops, CustOk x c
theorem bikeGo_some {x : InstD} : ∀ (l : List BikeD) (m : Nat) (d : Bool), (bikeGo x l m d).1 = true → ∀ b ∈ l, BikeOk x b
  | [], _, _, _, _, h => by cases h
  | a :: l, m, d, h, b, hb => by
    cases ha : bikeBad x a
    case true => rw [bikeGo_bad ha] at h; cases h
    cases hs : bikeSt x m a.stops with
    | none => rw [bikeGo_none hs] at h; cases h
    | some q =>
      obtain ⟨m', left⟩ := q
      rw [bikeGo_ok ha hs] at h
      rcases List.mem_cons.1 hb with rfl | hb
      · simp only [bikeBad, Bool.or_eq_false_iff, decide_eq_false_iff_not] at ha
        exact ⟨by omega, by omega, custs_some _ _ _ _ hs⟩
      · exact bikeGo_some l _ _ h b hb
structure PlanOk (x : InstD) (p : PlanD) : Prop where
  inst : check x = 0
  many : p.trucks.length ≤ x.tmany ∧ p.bikes.length ≤ x.bmany
  truck : ∀ t ∈ p.trucks, 0 < t.length ∧ ∀ s ∈ t, StopOk x s
  bike : ∀ b ∈ p.bikes, BikeOk x b
theorem planOk_of {x : InstD} {p : PlanD} (h : planCheck x p = 0) : PlanOk x p := by
  unfold planCheck at h
  split at h
  · rename_i h0; exact absurd h h0
  rename_i h0
  split at h
  · cases h
  rename_i h1
  split at h
  · cases h
  rename_i h2
  have h0' : check x = 0 := by simpa using h0
  have h3 : (trucksB x p.trucks).1 = true ∧ (bikesB x p.bikes).1 = true := by simpa using h2
  exact ⟨h0', by omega, trucksB_ok h3.1, bikeGo_some _ _ _ h3.2⟩
theorem truckNodes_in {x : InstD} {t : List StopD} (h : ∀ s ∈ t, StopOk x s) : ∀ a ∈ truckNodes t, 0 ≤ a ∧ a < nodes x := by
  intro a ha
  simp only [truckNodes, List.mem_cons, List.mem_map] at ha
  unfold nodes
  rcases ha with rfl | ⟨s, hs, rfl⟩
  · omega
  · have := (h s hs).1; omega
theorem bikeNodes_in {x : InstD} {b : BikeD} (h : BikeOk x b) : ∀ a ∈ bikeNodes x b, 0 ≤ a ∧ a < nodes x := by
  intro a ha
  simp only [bikeNodes, List.mem_cons, List.mem_map] at ha
  unfold nodes
  have h1 := h.1
  rcases ha with rfl | ⟨s, hs, rfl⟩
  · omega
  · have := h.2.2 s hs; unfold CustOk at this; omega

set_option maxRecDepth 100000 in
set_option maxHeartbeats 3200000 in
theorem cost_c {w : World} {F G : Nat → Prop} {x : InstD} {p : PlanD} {cs ps : List Value} (h : instS.rep w F x cs) (hp : planS.rep w G p ps) (hn : check x = 0 → x.custs.length ≤ 6) (hsm : PlanSmall p) :
    Calls Try.prog 62 #[.agg cs.toArray, .agg ps.toArray] w fun e w' => e = .returned (.tuple #[.int .i64 (costOf x p), .int .i64 (planCheck x p)]) ∧ Below w.heap.size w w' := by
  have hrep := h
  have hprep := hp
  obtain ⟨s, c, co, ti, rfl, -, -, -, -, -⟩ := h
  obtain ⟨tv, bv, rfl, h3, h4⟩ := hp
  obtain ⟨a2, b2, off2, c2, hs2, hl2, hc2, ha2, -, hcell2⟩ := trucks_open h3
  obtain rfl := List.cons.inj hs2 |>.1
  obtain ⟨a4, b4, off4, c4, hs4, hl4, hc4, ha4, -, hcell4⟩ := bikes_open h4
  obtain rfl := List.cons.inj hs4 |>.1
  clear hs2 hs4 h3 h4
  have R := (Row.new (w := w) (e := 33) (cs := [.int .i64 x.fin, .int .i64 x.tmany, .int .i64 x.troom, .int .i64 x.bmany, .int .i64 x.broom, s, c, co, ti]) rfl).alloc (.cells #[.slice a2 p.trucks.length c2, .slice a4 p.bikes.length c4] 46)
  have RP := Row.new (w := w.alloc (.cells #[.int .i64 x.fin, .int .i64 x.tmany, .int .i64 x.troom, .int .i64 x.bmany, .int .i64 x.broom, s, c, co, ti] 33)) (e := 46) (g := w.heap.size + 1) (cs := [.slice a2 p.trucks.length c2, .slice a4 p.bikes.length c4]) (by simp)
  have hb0 : Below w.heap.size w ((w.alloc (.cells #[.int .i64 x.fin, .int .i64 x.tmany, .int .i64 x.troom, .int .i64 x.bmany, .int .i64 x.broom, s, c, co, ti] 33)).alloc (.cells #[.slice a2 p.trucks.length c2, .slice a4 p.bikes.length c4] 46)) := ((Below.refl _ _).alloc (Nat.le_refl _) _).alloc (by simp) _
  have HS := hid hsm
  have HC2 := hid hcell2
  have HC4 := hid hcell4
  clear hcell2 hcell4
  by_cases hpc : planCheck x p = 0
  case neg =>
    have hck2 := bne_zero hpc
    have HE := hid (show costOf x p = 0 from if_neg hpc)
    clear hpc
    go_enter Try.func62, Try.ntmps62
    go_wp2_with fail
    refine (planCheck_c (instS.below hrep hb0) (planS.below hprep hb0) hn hsm).mono ?_
    rintro e w1 ⟨rfl, hb1⟩
    clear hsm
    go_wp2
    go_ret2
    exact ⟨by rw [HE.out]; rfl, below_step hb0 hb1⟩
  have ok := planOk_of hpc
  have gd := good_of ok.inst
  have hss := gd.sats
  have hn6 := hn ok.inst
  have hmn := ok.many
  have htm := gd.tmany
  have hbm := gd.bmany
  have OK := hid ok
  have GD := hid gd
  have HE := hid (show costOf x p = costD x p from if_pos hpc)
  have HPC := hid hpc
  clear hpc ok gd
  go_enter Try.func62, Try.ntmps62
  go_wp2_with fail
  refine (planCheck_c (instS.below hrep hb0) (planS.below hprep hb0) hn hsm).mono ?_
  rintro e w1 ⟨rfl, hb1⟩
  rw [HPC.out]
  have R1 := R.below hb1
  have RP1 := RP.below hb1
  have hB1 := below_step hb0 hb1
  have hz1 := RP1.lt
  have hts := HS.out.2
  have hbs := HS.out.1
  clear R RP hb0 hb1 hn hsm
  obtain ⟨p0, p1⟩ := row2 RP1
  go_wp2
  go_loopw [7, 21] (fun ss i wr => ∃ k : Nat, k ≤ p.trucks.length ∧ i = .int .i64 k ∧ ss = .int .i64 (costT x p.trucks k) ∧ Row wr w.heap.size 33 [.int .i64 x.fin, .int .i64 x.tmany, .int .i64 x.troom, .int .i64 x.bmany, .int .i64 x.broom, s, c, co, ti] ∧
      Row wr (w.heap.size + 1) 46 [.slice a2 p.trucks.length c2, .slice a4 p.bikes.length c4] ∧ Below w.heap.size w wr) (fun _ i _ => p.trucks.length - (intOf i).toNat)
  case atStart => exact ⟨0, Nat.zero_le _, rfl, rfl, R1, RP1, hB1⟩
  case round =>
    clear p0 p1 R1 RP1 hB1 hz1
    obtain ⟨k, hk, rfl, rfl, R, RP, hb⟩ := hrel
    obtain ⟨wo, rfl⟩ : ∃ wo : World, wo = wr := ⟨_, rfl⟩
    have hcb := costT_bd GD.out p.trucks k hk
    have htu : tstopsUp p.trucks k ≤ 1000000 := by
      by_cases hlt : k < p.trucks.length
      · have h1 := tstopsUp_succ hlt; have h2 := tstopsUp_le (l := p.trucks) (k := k + 1); omega
      · have : k = p.trucks.length := by omega
        subst this; exact hts
    have hkk : 1000000000 * ((k + tstopsUp p.trucks k : Nat) : Int) ≤ 1000000000 * 1000060 := by omega
    have hzz := RP.lt
    by_cases hlt : k < p.trucks.length
    · have hx := idx_at1 (c := c2) Try.underlying39 sz_truck (ha2 (by omega)) hlt
      obtain ⟨sv, g0, hr0⟩ := HC2.out k hlt
      have htl := tstopsUp_all (List.getElem_mem hlt)
      have hok := OK.out.truck _ (List.getElem_mem hlt)
      have HS2 := hid (costT_succ (x := x) hlt)
      obtain ⟨tr, htr⟩ : ∃ tr, tr = p.trucks[k] := ⟨_, rfl⟩
      obtain ⟨sm, hsm⟩ : ∃ sm, sm = costT x p.trucks k := ⟨_, rfl⟩
      rw [← htr] at hr0 htl hok HS2
      rw [← hsm] at hcb HS2 ⊢
      have hwb := wayD_bd GD.out (truckNodes tr)
      have hnl : (truckNodes tr).length = tr.length + 1 := by simp [truckNodes]
      have HNL := hid hnl
      have hwb2 : wayD x (truckNodes tr) ≤ 1000000000 * 1000001 := by rw [hnl] at hwb; omega
      obtain ⟨a3, b3, off3, c3, hs3, hl3, hc3, -, -, -, -⟩ := stops_open hr0
      obtain rfl := List.cons.inj hs3 |>.1
      have g1 := below_cell hb g0
      have hrt := (sliceS stopS).below hr0 hb
      clear htr hsm ha2 g0 hr0 hnl hs3
      go_wp2
      generalize hwq : wo.alloc (.cells #[.slice a3 tr.length c3] 108) = wq
      have HWQ := hid hwq
      have hob : Old wo wq := by rw [← hwq]; exact (Below.refl _ _).alloc (Nat.le_refl _) _
      have k0 : wq.cell? ⟨wo.heap.size, 0, none⟩ = some (.slice a3 tr.length c3) := by rw [← hwq]; simp
      have R1 := R.below hob
      have RP1 := RP.below hob
      have hB1 := below_step hb hob
      have hrt1 := (sliceS stopS).below hrt hob
      have hzq : wo.heap.size < wq.heap.size := by rw [← hwq]; simp
      clear hwq hob hrt R RP hb g1
      obtain ⟨q0, q1, q2, q3, q4, q5, q6, q7, q8⟩ := row9 R1
      have z0 : ∀ e : At (Old wq), _ := fun e => e.cell q0
      have z1 : ∀ e : At (Old wq), _ := fun e => e.cell q1
      have z2 : ∀ e : At (Old wq), _ := fun e => e.cell q2
      have z3 : ∀ e : At (Old wq), _ := fun e => e.cell q3
      have z4 : ∀ e : At (Old wq), _ := fun e => e.cell q4
      have z5 : ∀ e : At (Old wq), _ := fun e => e.cell q5
      have z6 : ∀ e : At (Old wq), _ := fun e => e.cell q6
      have z7 : ∀ e : At (Old wq), _ := fun e => e.cell q7
      have z8 : ∀ e : At (Old wq), _ := fun e => e.cell q8
      have z9 : ∀ e : At (Old wq), _ := fun e => e.cell k0
      refine wp_region_mix (Old wq) [] [([0, 1, 2, 3], 4, false), ([], 5, false), ([6], 7, false)] (by kernel_rfl) (by kernel_rfl) (fun _ _ d _ _ h => by cases d <;> exact h) (Old.drew _) ?_
      simp only [mixOf, List.map_cons, List.map_nil, Array.getD_eq_getD_getElem?, List.getElem?_toArray, List.getElem?_cons_succ, List.getElem?_cons_zero, Option.getD_some, wpMix]
      repeat (go_big_quiet_step (fail))
      refine wpQuiet_nil ?_
      have hO0 := Old.drew wq
      go_wp2_with fail
      refine (truckNodes_c (instS.below hrep (below_step hB1 hO0)) ((sliceS stopS).below hrt1 hO0) (fun s hs => by have := (hok.2 s hs).1; omega) (by omega)).mono ?_
      rintro e w2 ⟨u, rfl, hu, hb2⟩
      have hO2 := hO0.step hb2
      go_wp2_with fail
      refine ⟨hO2, wpQuiet_nil ?_⟩
      go_wp2_with fail
      refine (way_c (instS.below hrep (below_step hB1 hO2)) hu OK.out.inst (truckNodes_in hok.2) (by rw [HNL.out]; omega)).mono ?_
      rintro e w3 ⟨rfl, hb3⟩
      have hO3 := hO2.step hb3
      go_wp2_with fail
      refine ⟨hO3, ?_⟩
      obtain ⟨wd, hwd⟩ : ∃ wd, wd = wayD x (truckNodes tr) := ⟨_, rfl⟩
      rw [← hwd] at hwb hwb2 HS2 ⊢
      clear hwd
      repeat (go_big_quiet_step (fail))
      refine wpQuiet_nil ?_
      go_wp2_with fail
      refine ⟨hO3, ?_⟩
      go_wp2
      go_roundw
      case rel => exact ⟨k + 1, by omega, by go_num, by rw [HS2.out], R1.below hO3, RP1.below hO3, below_step hB1 hO3⟩
      case measure => simp [intOf]; omega
    · have hke : k = p.trucks.length := by omega
      subst hke
      obtain ⟨T, hT⟩ : ∃ T, T = costT x p.trucks p.trucks.length := ⟨_, rfl⟩
      rw [← hT] at hcb ⊢
      have HT := hid hT
      have hTb : 0 ≤ T ∧ T ≤ 1000000000 * 1000060 := by omega
      obtain ⟨p0, p1⟩ := row2 RP
      clear hT hcb htu hkk hk HC2 ha2
      go_wp2
      go_loopw [7, 36] (fun ss i wr => ∃ k : Nat, k ≤ p.bikes.length ∧ i = .int .i64 k ∧ ss = .int .i64 (T + costB x p.bikes k) ∧ Row wr w.heap.size 33 [.int .i64 x.fin, .int .i64 x.tmany, .int .i64 x.troom, .int .i64 x.bmany, .int .i64 x.broom, s, c, co, ti] ∧
          Below w.heap.size w wr) (fun _ i _ => p.bikes.length - (intOf i).toNat)
      case atStart => exact ⟨0, Nat.zero_le _, rfl, by unfold costB; simp, R, hb⟩
      case round =>
        clear p0 p1 R RP hb hzz
        obtain ⟨k, hk, rfl, rfl, R, hb⟩ := hrel
        obtain ⟨wo, rfl⟩ : ∃ wo : World, wo = wr := ⟨_, rfl⟩
        have hcb := costB_bd GD.out p.bikes k hk
        have htu : stopsUp p.bikes k ≤ 1000000 := by
          by_cases hlt : k < p.bikes.length
          · have h1 := stopsUp_succ hlt; have h2 := stopsUp_le (l := p.bikes) (k := k + 1); omega
          · have : k = p.bikes.length := by omega
            subst this; exact hbs
        have hkk : 1000000000 * ((k + stopsUp p.bikes k : Nat) : Int) ≤ 1000000000 * 1000060 := by omega
        have hzz := R.lt
        by_cases hlt : k < p.bikes.length
        · have hx := idx_at (c := c4) Try.underlying44 sz_bike (ha4 (by omega)) hlt
          obtain ⟨sv, g0, g0', hwf0, hr0⟩ := HC4.out k hlt
          have htl := stopsUp_all (List.getElem_mem hlt)
          have hok := OK.out.bike _ (List.getElem_mem hlt)
          have HS2 := hid (costB_succ (x := x) hlt)
          obtain ⟨tr, htr⟩ : ∃ tr, tr = p.bikes[k] := ⟨_, rfl⟩
          obtain ⟨sm, hsm⟩ : ∃ sm, sm = costB x p.bikes k := ⟨_, rfl⟩
          rw [← htr] at hr0 htl hok HS2 g0 hwf0
          rw [← hsm] at hcb HS2 ⊢
          have hwb := wayD_bd GD.out (bikeNodes x tr)
          have hnl : (bikeNodes x tr).length = tr.stops.length + 1 := by simp [bikeNodes]
          have HNL := hid hnl
          have hwb2 : wayD x (bikeNodes x tr) ≤ 1000000000 * 1000001 := by rw [hnl] at hwb; omega
          obtain ⟨a3, b3, off3, c3, hs3, hl3, hc3, -, -, -, -⟩ := ints_open hr0
          obtain rfl := List.cons.inj hs3 |>.1
          have g1 := below_cell hb g0
          have g1' := below_cell hb g0'
          have hrt := (sliceS intS).below hr0 hb
          clear htr hsm ha4 g0 g0' hr0 hnl hs3
          go_wp2
          generalize hwq : wo.alloc (.cells #[.int .i64 tr.sat, .slice a3 tr.stops.length c3] 128) = wq
          have hob : Old wo wq := by rw [← hwq]; exact (Below.refl _ _).alloc (Nat.le_refl _) _
          have k0 : wq.cell? ⟨wo.heap.size, 0, none⟩ = some (.int .i64 tr.sat) := by rw [← hwq]; simp
          have k1 : wq.cell? ⟨wo.heap.size, 1, none⟩ = some (.slice a3 tr.stops.length c3) := by rw [← hwq]; simp
          have R1 := R.below hob
          have hB1 := below_step hb hob
          have hrt1 : bikeS.rep wq G tr [.int .i64 tr.sat, .slice a3 tr.stops.length c3] := ⟨_, rfl, hwf0, (sliceS intS).below hrt hob⟩
          have hzq : wo.heap.size < wq.heap.size := by rw [← hwq]; simp
          clear hwq hob hrt R hb g1 g1'
          obtain ⟨q0, q1, q2, q3, q4, q5, q6, q7, q8⟩ := row9 R1
          have z0 : ∀ e : At (Old wq), _ := fun e => e.cell q0
          have z1 : ∀ e : At (Old wq), _ := fun e => e.cell q1
          have z2 : ∀ e : At (Old wq), _ := fun e => e.cell q2
          have z3 : ∀ e : At (Old wq), _ := fun e => e.cell q3
          have z4 : ∀ e : At (Old wq), _ := fun e => e.cell q4
          have z5 : ∀ e : At (Old wq), _ := fun e => e.cell q5
          have z6 : ∀ e : At (Old wq), _ := fun e => e.cell q6
          have z7 : ∀ e : At (Old wq), _ := fun e => e.cell q7
          have z8 : ∀ e : At (Old wq), _ := fun e => e.cell q8
          have z9 : ∀ e : At (Old wq), _ := fun e => e.cell k0
          have z10 : ∀ e : At (Old wq), _ := fun e => e.cell k1
          refine wp_region_mix (Old wq) [] [([0, 1, 2, 3], 4, false), ([], 5, false), ([6], 7, false)] (by kernel_rfl) (by kernel_rfl) (fun _ _ d _ _ h => by cases d <;> exact h) (Old.drew _) ?_
          simp only [mixOf, List.map_cons, List.map_nil, Array.getD_eq_getD_getElem?, List.getElem?_toArray, List.getElem?_cons_succ, List.getElem?_cons_zero, Option.getD_some, wpMix]
          repeat (go_big_quiet_step (fail))
          refine wpQuiet_nil ?_
          have hO0 := Old.drew wq
          go_wp2_with fail
          refine (bikeNodes_c (instS.below hrep (below_step hB1 hO0)) (bikeS.below hrt1 hO0) (by omega) (by have := hok.1; omega) (fun s hs => by have := hok.2.2 s hs; unfold CustOk at this; omega) (by omega)).mono ?_
          rintro e w2 ⟨u, rfl, hu, hb2⟩
          have hO2 := hO0.step hb2
          go_wp2_with fail
          refine ⟨hO2, wpQuiet_nil ?_⟩
          go_wp2_with fail
          refine (way_c (instS.below hrep (below_step hB1 hO2)) hu OK.out.inst (bikeNodes_in hok) (by rw [HNL.out]; omega)).mono ?_
          rintro e w3 ⟨rfl, hb3⟩
          have hO3 := hO2.step hb3
          go_wp2_with fail
          refine ⟨hO3, ?_⟩
          obtain ⟨wd, hwd⟩ : ∃ wd, wd = wayD x (bikeNodes x tr) := ⟨_, rfl⟩
          rw [← hwd] at hwb hwb2 HS2 ⊢
          clear hwd
          repeat (go_big_quiet_step (fail))
          refine wpQuiet_nil ?_
          go_wp2_with fail
          refine ⟨hO3, ?_⟩
          go_wp2
          go_roundw
          case rel => exact ⟨k + 1, by omega, by go_num, by rw [HS2.out, Int.add_assoc], R1.below hO3, below_step hB1 hO3⟩
          case measure => simp [intOf]; omega
        · have hke : k = p.bikes.length := by omega
          subst hke
          have HF := hid (show costOf x p = T + costB x p.bikes p.bikes.length from by rw [HE.out, HT.out]; rfl)
          obtain ⟨B, hB⟩ : ∃ B, B = costB x p.bikes p.bikes.length := ⟨_, rfl⟩
          rw [← hB] at hcb HF ⊢
          clear hB HC4 ha4
          go_wp2
          go_ret2
          exact ⟨by rw [HF.out, HPC.out]; rfl, hb⟩
end Go.Proofs.Ytafhjfkdlmijdaa
/- Data written out by a call read as data; an instance of one's own, with a number stored. No program in sight. -/
namespace Go.Proofs.Ytafhjfkdlmijdaa
open Go.RowKit

theorem lit_rep {α : Type} {S : Shape α} {h0 : 0 < S.sz} {w : World} {F : Nat → Prop} {xs : List α} {g c : Nat} {T : TypeId} (vs : List (List Value)) (hl : vs.length = xs.length) (hv : ∀ v ∈ vs, v.length = S.sz)
    (hr : ∀ i (h : i < xs.length) (h' : i < vs.length), S.rep w F xs[i] vs[i]) (h : Row w g T vs.flatten) (hc : xs.length ≤ c) (hm : c ≤ maxLen) (hF : F g) : (sliceS S h0).rep w F xs [.slice (some ⟨g, 0, none⟩) xs.length c] := by
  refine ⟨some ⟨g, 0, none⟩, g, 0, c, rfl, hc, hm, fun _ => ⟨rfl, hF⟩, fun i hi => ⟨vs[i]'(by omega), hr i hi (by omega), fun j hj => ?_⟩⟩
  have hget : ∀ (l : List (List Value)) (i : Nat) (hi : i < l.length), (∀ v ∈ l, v.length = S.sz) → l.flatten[i * S.sz + j]? = (l[i])[j]? := by
    intro l
    induction l with
    | nil => intro i hi; simp at hi
    | cons a l ih =>
      intro i hi hl
      have ha := hl a (List.mem_cons_self ..)
      rw [List.flatten_cons]
      cases i with
      | zero => rw [Nat.zero_mul, Nat.zero_add, List.getElem?_append_left (by rw [ha]; exact hj)]; rfl
      | succ i =>
        rw [List.getElem?_append_right (by rw [ha, Nat.succ_mul]; omega), ha, show (i + 1) * S.sz + j - S.sz = i * S.sz + j by rw [Nat.succ_mul]; omega]
        exact ih i (by simpa using hi) fun v hv => hl v (List.mem_cons_of_mem _ hv)
  have e := hget vs i (by omega) hv
  have hj' : j < (vs[i]'(by omega)).length := by rw [hv _ (List.getElem_mem _)]; exact hj
  rw [List.getElem?_eq_getElem hj'] at e ⊢
  rw [Nat.zero_add]
  exact h.get e

theorem lit1 {α : Type} {S : Shape α} {h0 : 0 < S.sz} {w : World} {F : Nat → Prop} {x : α} {v : List Value} {g : Nat} {T : TypeId} (hr : S.rep w F x v) (h : Row w g T v) (hF : F g) : (sliceS S h0).rep w F [x] [.slice (some ⟨g, 0, none⟩) 1 1] := by
  refine lit_rep (xs := [x]) (T := T) [v] rfl ?_ ?_ (by simpa using h) (Nat.le_refl _) (by decide) hF
  · intro u hu; simp at hu; subst hu; exact S.len hr
  · intro i h h'
    obtain rfl : i = 0 := by simp at h; exact h
    exact hr
theorem lit2 {α : Type} {S : Shape α} {h0 : 0 < S.sz} {w : World} {F : Nat → Prop} {x y : α} {v u : List Value} {g : Nat} {T : TypeId} (hr : S.rep w F x v) (hr' : S.rep w F y u) (h : Row w g T (v ++ u)) (hF : F g) : (sliceS S h0).rep w F [x, y] [.slice (some ⟨g, 0, none⟩) 2 2] := by
  refine lit_rep (xs := [x, y]) (T := T) [v, u] rfl ?_ ?_ (by simpa using h) (Nat.le_refl _) (by decide) hF
  · intro z hz; simp at hz; rcases hz with rfl | rfl
    · exact S.len hr
    · exact S.len hr'
  · intro i h h'
    match i, h with
    | 0, _ => exact hr
    | 1, _ => exact hr'
theorem Row.setApart {w : World} {g g' : Nat} {e e' : TypeId} {cs cs' : List Value} (h : Row w g e cs) (h' : Row w g' e' cs') (he : e ≠ e') (j : Nat) (u : Value) : Row (w.setCell ⟨g', j, none⟩ u) g e cs := h.setOther (a := ⟨g', j, none⟩) (h.ne h' he) u
theorem alloc_row (w : World) (c : List Value) (T : TypeId) : Below w.heap.size w (w.alloc (.cells c.toArray T)) ∧ Row (w.alloc (.cells c.toArray T)) w.heap.size T c ∧ (w.alloc (.cells c.toArray T)).heap.size = w.heap.size + 1 :=
  ⟨(Below.refl _ _).alloc (Nat.le_refl _) _, Row.new rfl, by simp⟩
theorem allocs3 (w : World) (c1 c2 c3 : List Value) (T1 T2 T3 : TypeId) : ∃ W, W = ((w.alloc (.cells c1.toArray T1)).alloc (.cells c2.toArray T2)).alloc (.cells c3.toArray T3) ∧ Below w.heap.size w W ∧
    Row W w.heap.size T1 c1 ∧ Row W (w.heap.size + 1) T2 c2 ∧ Row W (w.heap.size + 2) T3 c3 ∧ W.heap.size = w.heap.size + 3 := by
  obtain ⟨b1, r1, z1⟩ := alloc_row w c1 T1
  obtain ⟨b2, r2, z2⟩ := alloc_row (w.alloc (.cells c1.toArray T1)) c2 T2
  obtain ⟨b3, r3, z3⟩ := alloc_row ((w.alloc (.cells c1.toArray T1)).alloc (.cells c2.toArray T2)) c3 T3
  refine ⟨_, rfl, below_step (below_step b1 b2) b3, (r1.below b2).below b3, ?_, ?_, by omega⟩
  · rw [z1] at r2; exact r2.below b3
  · rw [show w.heap.size + 2 = ((w.alloc (.cells c1.toArray T1)).alloc (.cells c2.toArray T2)).heap.size by omega]; exact r3
/-- Five blocks laid one behind the other. -/
theorem allocs5 (w : World) (c1 c2 c3 c4 c5 : List Value) (T1 T2 T3 T4 T5 : TypeId) : ∃ W, W = ((((w.alloc (.cells c1.toArray T1)).alloc (.cells c2.toArray T2)).alloc (.cells c3.toArray T3)).alloc (.cells c4.toArray T4)).alloc (.cells c5.toArray T5) ∧ Below w.heap.size w W ∧
    Row W w.heap.size T1 c1 ∧ Row W (w.heap.size + 1) T2 c2 ∧ Row W (w.heap.size + 2) T3 c3 ∧ Row W (w.heap.size + 3) T4 c4 ∧ Row W (w.heap.size + 4) T5 c5 ∧ W.heap.size = w.heap.size + 5 := by
  obtain ⟨b1, r1, z1⟩ := alloc_row w c1 T1
  obtain ⟨b2, r2, z2⟩ := alloc_row (w.alloc (.cells c1.toArray T1)) c2 T2
  obtain ⟨b3, r3, z3⟩ := alloc_row ((w.alloc (.cells c1.toArray T1)).alloc (.cells c2.toArray T2)) c3 T3
  obtain ⟨b4, r4, z4⟩ := alloc_row (((w.alloc (.cells c1.toArray T1)).alloc (.cells c2.toArray T2)).alloc (.cells c3.toArray T3)) c4 T4
  obtain ⟨b5, r5, z5⟩ := alloc_row ((((w.alloc (.cells c1.toArray T1)).alloc (.cells c2.toArray T2)).alloc (.cells c3.toArray T3)).alloc (.cells c4.toArray T4)) c5 T5
  refine ⟨_, rfl, below_step (below_step (below_step (below_step b1 b2) b3) b4) b5, (((r1.below b2).below b3).below b4).below b5, ?_, ?_, ?_, ?_, by omega⟩
  · rw [z1] at r2; exact ((r2.below b3).below b4).below b5
  · rw [show w.heap.size + 2 = ((w.alloc (.cells c1.toArray T1)).alloc (.cells c2.toArray T2)).heap.size by omega]; exact (r3.below b4).below b5
  · rw [show w.heap.size + 3 = (((w.alloc (.cells c1.toArray T1)).alloc (.cells c2.toArray T2)).alloc (.cells c3.toArray T3)).heap.size by omega]; exact r4.below b5
  · rw [show w.heap.size + 4 = ((((w.alloc (.cells c1.toArray T1)).alloc (.cells c2.toArray T2)).alloc (.cells c3.toArray T3)).alloc (.cells c4.toArray T4)).heap.size by omega]; exact r5
/-- A row of one's own, one number stored. -/
theorem RowsOwn.set {TR TI B : Nat} {w : World} {v : Value} {rows : List (List Int)} {g : Nat} {rs : List Nat} (h : RowsOwn w B TR TI v rows g rs) (hne : TR ≠ TI) {i j : Nat} (hi : i < rows.length) (hi' : i < rs.length) (hj : j < rows[i].length) (u : Int) :
    RowsOwn (w.setCell ⟨rs[i], j, none⟩ (intV u)) B TR TI v (rows.set i (rows[i].set j u)) g rs := by
  obtain ⟨c, k0, k1, k2, k3, k4, k5, k6, k7, k8⟩ := h
  have hz : List.zipWith rowV rs (rows.set i (rows[i].set j u)) = List.zipWith rowV rs rows := by
    apply List.ext_getElem
    · simp
    · intro n h1 h2
      simp only [List.getElem_zipWith, List.getElem_set]
      split
      · rename_i e; subst e; unfold rowV; simp
      · rfl
  refine ⟨c, by rw [k0]; simp, by simpa using k1, k2, k3, ?_, by simpa using k5, fun n h1 h2 => ?_, k7, k8⟩
  · rw [hz]
    exact k4.setApart (k6 i hi' hi) hne _ _
  · simp only [List.getElem_set]
    split
    · rename_i e; subst e
      have := (k6 i hi' hi).set (j := j) (by rw [List.length_map]; exact hj) (intV u)
      rwa [← List.map_set] at this
    · rename_i e
      have hn : n < rows.length := by simpa using h2
      refine (k6 n h1 hn).setOther (fun e2 => e ?_) _
      exact ((List.getElem_inj k7).1 e2).symm
theorem RowsOwn.keepAll {w w' : World} {B TR TI : Nat} {v : Value} {rows : List (List Int)} {g : Nat} {rs : List Nat} (h : RowsOwn w B TR TI v rows g rs) (h1 : w'.heap[g]? = w.heap[g]?) (h2 : ∀ b ∈ rs, w'.heap[b]? = w.heap[b]?) : RowsOwn w' B TR TI v rows g rs := by
  obtain ⟨c, k0, k1, k2, k3, k4, k5, k6, k7, k8⟩ := h
  exact ⟨c, k0, k1, k2, k3, k4.keep h1, k5, fun i h h' => (k6 i h h').keep (h2 _ (List.getElem_mem h)), k7, k8⟩
theorem RowsOwn.open {TR TI B : Nat} {w : World} {v : Value} {rows : List (List Int)} {g : Nat} {rs : List Nat} (h : RowsOwn w B TR TI v rows g rs) : ∃ c, v = .slice (some ⟨g, 0, none⟩) rows.length c ∧ rs.length = rows.length ∧
    (∀ i (h : i < rows.length) (h' : i < rs.length), w.cell? ⟨g, i, none⟩ = some (.slice (some ⟨rs[i], 0, none⟩) rows[i].length rows[i].length)) ∧
    (∀ i (h : i < rows.length) (h' : i < rs.length), Row w rs[i] TI (rows[i].map intV) ∧ B ≤ rs[i]) := by
  obtain ⟨c, k0, k1, k2, k3, k4, k5, k6, k7, k8⟩ := h
  refine ⟨c, k0, k5, fun i h h' => ?_, fun i h h' => ⟨k6 i h' h, k8 _ (List.getElem_mem h')⟩⟩
  have := k4.get (j := i) (v := rowV rs[i] rows[i]) (by rw [List.getElem?_zipWith, List.getElem?_eq_getElem h', List.getElem?_eq_getElem h])
  exact this

def setAt (l : List (List Int)) (i j : Nat) (u : Int) : List (List Int) := l.set i ((l.getD i []).set j u)
/-- The instance with a number of its costs stored; likewise of its times. -/
def InstD.putCost (x : InstD) (i j : Nat) (u : Int) : InstD := { x with cost := setAt x.cost i j u }
def InstD.putTime (x : InstD) (i j : Nat) (u : Int) : InstD := { x with time := setAt x.time i j u }
/-- An instance of one's own, its blocks named. -/
structure InstAt (TS TC TR TI : Nat) (w : World) (B : Nat) (x : InstD) (cs : List Value) (gs cs1 gc cc1 gco cco : Nat) (rco : List Nat) (gti cti : Nat) (rti : List Nat) : Prop where
  lit : cs = [.int .i64 x.fin, .int .i64 x.tmany, .int .i64 x.troom, .int .i64 x.bmany, .int .i64 x.broom, .slice (some ⟨gs, 0, none⟩) x.sats.length cs1, .slice (some ⟨gc, 0, none⟩) x.custs.length cc1, .slice (some ⟨gco, 0, none⟩) x.cost.length cco, .slice (some ⟨gti, 0, none⟩) x.time.length cti]
  caps : x.sats.length ≤ cs1 ∧ cs1 ≤ maxLen ∧ x.custs.length ≤ cc1 ∧ cc1 ≤ maxLen
  leS : B ≤ gs
  leC : B ≤ gc
  sats : Row w gs TS (x.sats.flatMap satV)
  custs : Row w gc TC (x.custs.flatMap custV)
  costs : RowsOwn w B TR TI (.slice (some ⟨gco, 0, none⟩) x.cost.length cco) x.cost gco rco
  times : RowsOwn w B TR TI (.slice (some ⟨gti, 0, none⟩) x.time.length cti) x.time gti rti
  apart : gco ≠ gti
  apart2 : ∀ a ∈ rco, ∀ b ∈ rti, a ≠ b
section
variable {TS TC TR TI B gs cs1 gc cc1 gco cco gti cti : Nat} {w : World} {x : InstD} {cs : List Value} {rco rti : List Nat}
theorem InstOwn.at (h : InstOwn TS TC TR TI w B x cs) : ∃ gs cs1 gc cc1 gco cco rco gti cti rti, InstAt TS TC TR TI w B x cs gs cs1 gc cc1 gco cco rco gti cti rti := by
  obtain ⟨gs, cs1, gc, cc1, vco, vti, gco, rco, gti, rti, k0, k1, k2, k3, k4, k5, k6, k7, k8, k9⟩ := h
  obtain ⟨c, hv, -⟩ := k6.open
  obtain ⟨c', hv', -⟩ := k7.open
  subst hv; subst hv'
  exact ⟨gs, cs1, gc, cc1, gco, c, rco, gti, c', rti, k0, k1, k2, k3, k4, k5, k6, k7, k8, k9⟩
theorem InstAt.own (h : InstAt TS TC TR TI w B x cs gs cs1 gc cc1 gco cco rco gti cti rti) : InstOwn TS TC TR TI w B x cs :=
  ⟨gs, cs1, gc, cc1, _, _, gco, rco, gti, rti, h.lit, h.caps, h.leS, h.leC, h.sats, h.custs, h.costs, h.times, h.apart, h.apart2⟩
theorem InstAt.drew (h : InstAt TS TC TR TI w B x cs gs cs1 gc cc1 gco cco rco gti cti rti) : InstAt TS TC TR TI w.drew B x cs gs cs1 gc cc1 gco cco rco gti cti rti := ⟨h.lit, h.caps, h.leS, h.leC, h.sats.drew, h.custs.drew, h.costs.keepAll rfl fun _ _ => rfl, h.times.keepAll rfl fun _ _ => rfl, h.apart, h.apart2⟩
theorem InstAt.below {w' : World} (h : InstAt TS TC TR TI w B x cs gs cs1 gc cc1 gco cco rco gti cti rti) (hb : Below w.heap.size w w') : InstAt TS TC TR TI w' B x cs gs cs1 gc cc1 gco cco rco gti cti rti :=
  ⟨h.lit, h.caps, h.leS, h.leC, h.sats.below hb, h.custs.below hb, h.costs.below hb, h.times.below hb, h.apart, h.apart2⟩
theorem RowsOwn.row {TR TI B : Nat} {w : World} {v : Value} {rows : List (List Int)} {g : Nat} {rs : List Nat} (h : RowsOwn w B TR TI v rows g rs) {i : Nat} (hi : i < rows.length) :
    w.cell? ⟨g, i, none⟩ = some (.slice (some ⟨rs.getD i 0, 0, none⟩) (rows.getD i []).length (rows.getD i []).length) ∧ Row w (rs.getD i 0) TI ((rows.getD i []).map intV) ∧ B ≤ rs.getD i 0 ∧ rs.getD i 0 ∈ rs := by
  obtain ⟨c, hv, hrl, hg, hr⟩ := h.open
  have hi' : i < rs.length := by omega
  have e1 : rows.getD i [] = rows[i] := by rw [List.getD_eq_getElem?_getD, List.getElem?_eq_getElem hi]; rfl
  have e2 : rs.getD i 0 = rs[i] := by rw [List.getD_eq_getElem?_getD, List.getElem?_eq_getElem hi']; rfl
  rw [e1, e2]
  exact ⟨hg i hi hi', (hr i hi hi').1, (hr i hi hi').2, List.getElem_mem _⟩
theorem RowsOwn.apart {TR TI B : Nat} {w : World} {v : Value} {rows : List (List Int)} {g : Nat} {rs : List Nat} (h : RowsOwn w B TR TI v rows g rs) {i i' : Nat} (hi : i < rows.length) (hi' : i' < rows.length) (hne : i ≠ i') : rs.getD i 0 ≠ rs.getD i' 0 := by
  obtain ⟨c, k0, k1, k2, k3, k4, k5, k6, k7, k8⟩ := h
  rw [List.getD_eq_getElem?_getD, List.getD_eq_getElem?_getD, List.getElem?_eq_getElem (by omega), List.getElem?_eq_getElem (by omega)]
  intro e
  exact hne ((List.getElem_inj k7).1 e)
theorem RowsOwn.setAt {TR TI B : Nat} {w : World} {v : Value} {rows : List (List Int)} {g : Nat} {rs : List Nat} (h : RowsOwn w B TR TI v rows g rs) (hne : TR ≠ TI) {i j : Nat} (hi : i < rows.length) (hj : j < (rows.getD i []).length) (u : Int) :
    RowsOwn (w.setCell ⟨rs.getD i 0, j, none⟩ (intV u)) B TR TI v (setAt rows i j u) g rs := by
  have hrl : rs.length = rows.length := by obtain ⟨c, k0, k1, k2, k3, k4, k5, k6, k7, k8⟩ := h; exact k5
  have hi' : i < rs.length := by omega
  have e1 : rows.getD i [] = rows[i] := by rw [List.getD_eq_getElem?_getD, List.getElem?_eq_getElem hi]; rfl
  have e2 : rs.getD i 0 = rs[i] := by rw [List.getD_eq_getElem?_getD, List.getElem?_eq_getElem hi']; rfl
  unfold Go.Proofs.Ytafhjfkdlmijdaa.setAt
  rw [e1] at hj ⊢
  rw [e2]
  exact h.set hne hi hi' hj u
theorem setAt_len (l : List (List Int)) (i j : Nat) (u : Int) : (setAt l i j u).length = l.length := by unfold setAt; simp
theorem InstAt.setCost (h : InstAt TS TC TR TI w B x cs gs cs1 gc cc1 gco cco rco gti cti rti) (n1 : TS ≠ TI) (n2 : TC ≠ TI) (n3 : TR ≠ TI) {i j : Nat} (hi : i < x.cost.length) (hj : j < (x.cost.getD i []).length) (u : Int) :
    InstAt TS TC TR TI (w.setCell ⟨rco.getD i 0, j, none⟩ (intV u)) B (x.putCost i j u) cs gs cs1 gc cc1 gco cco rco gti cti rti := by
  obtain ⟨h1, h2, h3, h4⟩ := h.costs.row hi
  have hrt : Row w gti TR (List.zipWith rowV rti x.time) := by obtain ⟨_, _, _, _, _, kr, _⟩ := h.times; exact kr
  refine ⟨by rw [h.lit]; simp only [InstD.putCost, setAt_len], h.caps, h.leS, h.leC, h.sats.setApart h2 n1 _ _, h.custs.setApart h2 n2 _ _, ?_, ?_, h.apart, h.apart2⟩
  · have := h.costs.setAt n3 hi hj u
    show RowsOwn _ B TR TI (.slice _ (setAt x.cost i j u).length _) (setAt x.cost i j u) gco rco
    rw [setAt_len]; exact this
  · exact h.times.keepAll (Below.heap_setCell _ _ _ _ (hrt.ne h2 n3)) fun b hb => Below.heap_setCell _ _ _ _ fun e => h.apart2 _ h4 b hb e.symm
theorem InstAt.setTime (h : InstAt TS TC TR TI w B x cs gs cs1 gc cc1 gco cco rco gti cti rti) (n1 : TS ≠ TI) (n2 : TC ≠ TI) (n3 : TR ≠ TI) {i j : Nat} (hi : i < x.time.length) (hj : j < (x.time.getD i []).length) (u : Int) :
    InstAt TS TC TR TI (w.setCell ⟨rti.getD i 0, j, none⟩ (intV u)) B (x.putTime i j u) cs gs cs1 gc cc1 gco cco rco gti cti rti := by
  obtain ⟨h1, h2, h3, h4⟩ := h.times.row hi
  have hrt : Row w gco TR (List.zipWith rowV rco x.cost) := by obtain ⟨_, _, _, _, _, kr, _⟩ := h.costs; exact kr
  refine ⟨by rw [h.lit]; simp only [InstD.putTime, setAt_len], h.caps, h.leS, h.leC, h.sats.setApart h2 n1 _ _, h.custs.setApart h2 n2 _ _, ?_, ?_, h.apart, h.apart2⟩
  · exact h.costs.keepAll (Below.heap_setCell _ _ _ _ (hrt.ne h2 n3)) fun a ha => Below.heap_setCell _ _ _ _ fun e => h.apart2 a ha _ h4 e
  · have := h.times.setAt n3 hi hj u
    show RowsOwn _ B TR TI (.slice _ (setAt x.time i j u).length _) (setAt x.time i j u) gti rti
    rw [setAt_len]; exact this
end
end Go.Proofs.Ytafhjfkdlmijdaa
/- Contracts: wharfagelaw11.Nodes, Make. -/
namespace Go.Proofs.Ytafhjfkdlmijdaa
open Go.RowKit

theorem nodes11_c (w : World) (f1 f2 f3 f4 f5 : Value) (a a' : Option Addr) (n n' c c' : Nat) (co ti : Value) (hn : n ≤ 1000000) (hn' : n' ≤ 1000000) {N : Nat} (hN : 1 + n + n' = N) :
    Calls Try.prog 50 #[.agg #[f1, f2, f3, f4, f5, .slice a n c, .slice a' n' c', co, ti]] w fun e w' => e = .returned (.int .i64 (N : Int)) ∧ Below w.heap.size w w' := by
  go_enter Try.func50, Try.ntmps50
  go_wp2
  go_ret
  exact ⟨ret_int (by omega), (Below.refl _ _).alloc (Nat.le_refl _) _⟩

theorem info_sat : (Try.prog.info? 38).map (fun i => (i.zero, i.size, i.bytes)) = some (some (.agg #[.int .i64 0, .int .i64 0]), 2, 16) := by kernel_rfl
theorem info_cust : (Try.prog.info? 112).map (fun i => (i.zero, i.size, i.bytes)) = some (some (.agg #[.int .i64 0, .int .i64 0, .int .i64 0, .int .i64 0]), 4, 32) := by kernel_rfl

theorem mul_bd {a w A : Int} (h0 : 0 ≤ a) (h1 : a ≤ A) (hw : 1 ≤ w ∧ w ≤ 9) : 0 ≤ w * a ∧ w * a ≤ 9 * A := by
  constructor
  · exact Int.mul_nonneg (by omega) h0
  · exact Int.le_trans (Int.mul_le_mul_of_nonneg_right hw.2 h0) (Int.mul_le_mul_of_nonneg_left h1 (by omega))
theorem mul_bd' {a w A : Int} (h0 : 0 ≤ a) (h1 : a ≤ A) (hw : 1 ≤ w ∧ w ≤ 9) : 0 ≤ a * w ∧ a * w ≤ 9 * A := by
  rw [Int.mul_comm]; exact mul_bd h0 h1 hw

/-- The instance's box while it is being filled. -/
def yV (x : SmallD) (s c : Value) : List Value :=
  [intV (40 + x.fin * wideOf x), intV (1 + x.trucks % 4), intV (5 + wideOf x * (x.troom % 40)), intV (1 + x.bikes % 6), intV (3 + wideOf x * (x.broom % 20)), s, c, .slice none 0 0, .slice none 0 0]

set_option maxRecDepth 100000 in
set_option maxHeartbeats 2000000 in
theorem make_c {w : World} {F : Nat → Prop} {x : SmallD} {cs : List Value} (h : smallS.rep w F x cs) :
    Calls Try.prog 16 #[.agg cs.toArray] w fun e w' => ∃ ds, e = .returned (.agg ds.toArray) ∧ InstOwn 38 112 34 2 w' w.heap.size (makeD x) ds ∧ Below w.heap.size w w' := by
  obtain ⟨s, c, co, ti, rfl, ⟨wf1, wf2, wf3, wf4, wf5⟩, h1, h2, h3, h4⟩ := h
  obtain ⟨a, b, off, c1, hs, hlc, hc, ha, -, hcell, hwf⟩ := lsats_open h1
  obtain ⟨a', b', off', c1', hs', hlc', hc', ha', -, hcell', hwf'⟩ := lwhos_open h2
  obtain rfl := List.cons.inj hs |>.1
  obtain rfl := List.cons.inj hs' |>.1
  clear hs hs' h1 h2
  unfold wf8 at wf1 wf2 wf3 wf4 wf5
  obtain ⟨lo, hlo⟩ : ∃ lo, x.loose = lo := ⟨_, rfl⟩
  obtain ⟨tg, htg⟩ : ∃ tg, x.tight = tg := ⟨_, rfl⟩
  rw [hlo, htg]
  have HW := hid (show wideOf x = if lo then 9 else 1 from by unfold wideOf; rw [hlo])
  have HL := hid (show ∀ c, loadOf x c = if tg then 1 + c.load % 6 + c.load / 32 else 1 + c.load % 6 from fun c => by unfold loadOf; rw [htg])
  clear hlo htg
  go_enter Try.func16, Try.ntmps16
  go_upto_if 12 with fail
  go_cut [3] (fun s3 wx => s3 = .int .i64 (wideOf x) ∧ Below w.heap.size w wx ∧ wx.heap.size = w.heap.size + 2 ∧
    Row wx w.heap.size 26 [.int .u8 x.fin, .int .u8 x.trucks, .int .u8 x.troom, .int .u8 x.bikes, .int .u8 x.broom, .slice a x.sats.length c1, .slice a' x.custs.length c1', co, ti, .bool tg, .bool lo] ∧
    Row wx (w.heap.size + 1) 33 [.int .i64 0, .int .i64 0, .int .i64 0, .int .i64 0, .int .i64 0, .slice none 0 0, .slice none 0 0, .slice none 0 0, .slice none 0 0])
  case first =>
    cases lo
    all_goals
      go_wp2
      go_meet
      exact ⟨by rw [HW.out]; rfl, ((Below.refl _ _).alloc (Nat.le_refl _) _).alloc (by simp) _, by simp, (Row.new rfl).alloc _, Row.new (by simp)⟩
  case rest =>
    obtain ⟨rfl, hb0, hz0, R0, R1⟩ := hcut
    have HR0 := hid R0
    have HR1 := hid R1
    have HZ := hid hz0
    have hz : w.heap.size + 1 < wc.heap.size := by omega
    have hzz : w.heap.size < wc.heap.size := by omega
    have g0 := R0.cell (j := 0) (by simp)
    have g1 := R0.cell (j := 1) (by simp)
    have g2 := R0.cell (j := 2) (by simp)
    have g3 := R0.cell (j := 3) (by simp)
    have g4 := R0.cell (j := 4) (by simp)
    have g5 := R0.cell (j := 5) (by simp)
    simp only [List.getElem_cons_succ, List.getElem_cons_zero] at g0 g1 g2 g3 g4 g5
    clear R0 R1 hz0
    have hwd : 1 ≤ wideOf x ∧ wideOf x ≤ 9 := by unfold wideOf; split <;> omega
    obtain ⟨wd, hwd'⟩ : ∃ wd, wd = wideOf x := ⟨_, rfl⟩
    rw [← hwd'] at hwd ⊢
    have HWD := hid hwd'
    clear hwd'
    have b1 := mul_bd' wf1.1 wf1.2 hwd
    have b2 := mul_bd (a := x.troom % 40) (A := 39) (by omega) (by omega) hwd
    have b3 := mul_bd (a := x.broom % 20) (A := 19) (by omega) (by omega) hwd
    go_wp2
    obtain ⟨wm, rfl⟩ : ∃ wm : World, wm = wc := ⟨_, rfl⟩
    have hyD : yV x (.slice none 0 0) (.slice none 0 0) = [.int .i64 (40 + x.fin * wd), .int .i64 (1 + x.trucks % 4), .int .i64 (5 + wd * (x.troom % 40)), .int .i64 (1 + x.bikes % 6), .int .i64 (3 + wd * (x.broom % 20)), .slice none 0 0, .slice none 0 0, .slice none 0 0, .slice none 0 0] := by
      unfold yV intV; rw [← HWD.out]
    have HYD := hid hyD
    clear hyD g0 g1 g2 g3 g4
    go_loopw [49] (fun ii wr => ∃ (k : Nat) (ao : Option Addr) (cp : Nat), k ≤ x.sats.length ∧ ii = .int .i64 k ∧ wr.ownsRow (wm.heap.size + 1) 38 2 (.slice ao (satsUp x k).length cp) (satsUp x k).length ((satsUp x k).flatMap satV) ∧
        Row wr wm.heap.size 33 (yV x (.slice ao (satsUp x k).length cp) (.slice none 0 0)) ∧ Below wm.heap.size wm wr)
      (fun ii _ => x.sats.length - (intOf ii).toNat)
    case atStart =>
      refine ⟨0, none, 0, Nat.zero_le _, rfl, World.ownsRow_nil _ _ _ _, ?_, (Below.refl _ _).alloc (Nat.le_refl _) _⟩
      show Row _ _ _ (yV x (.slice none 0 0) (.slice none 0 0))
      rw [HYD.out]
      exact Row.new rfl
    case round =>
      obtain ⟨k, ao, cp, hk, rfl, hown, hy, hb⟩ := hrel
      have HOWN := hid hown
      have HY := hid hy
      have hsz : wm.heap.size < wr.heap.size := hy.lt
      have y5 := hy.cell (j := 5) (by simp [yV])
      simp only [yV, List.getElem_cons_succ, List.getElem_cons_zero] at y5
      have f5 := hy.frozen 5
      have hsl := satsUp_len hk
      have HSL := hid hsl
      clear hown hy
      by_cases hlt : k < x.sats.length
      · have hx := idx_at (c := c1) Try.underlying22 sz_lsat (ha (by omega)) hlt
        have hbw : Below w.heap.size w wr := hb0.trans (hb.mono (by omega))
        have q0 := below_cell hbw (hcell k hlt).1
        have q1 := below_cell hbw (hcell k hlt).2
        have hwk := hwf _ (List.getElem_mem hlt)
        unfold wf8 at hwk
        have b4 := mul_bd (a := x.sats[k].room % 40) (A := 39) (by omega) (by omega) hwd
        have hsat := hid (show satOf x x.sats[k] = ⟨4 + wd * (x.sats[k].room % 40), x.sats[k].hold % 12⟩ from by unfold satOf; rw [HWD.out])
        clear hcell hcell' hwf hwf' ha ha' hbw
        by_cases h3 : k < 3
        · have hlen : (satsUp x k).length = k := by omega
          rw [hlen] at y5
          have HLEN := hid hlen
          clear hlen hsl
          have HOWN2 : Hid (wr.ownsRow (wm.heap.size + 1) 38 2 (.slice ao k cp) k ((satsUp x k).flatMap satV)) := by have := HOWN.out; rw [HLEN.out] at this; exact this
          have hown := HOWN2.out
          obtain ⟨i1, hi, hz0, hz1, hz2⟩ := info_parts info_sat
          go_wp2_with (at_builtin; refine wpList_append_own _ rfl _ _ 29 rfl (wm.heap.size + 1) 38 i1 (.agg #[.int .i64 0, .int .i64 0]) 2 16 Try.underlying29 hi hz0 hz1 hz2 rfl (by decide) _ _ _ rfl ((hown.alloc _).alloc _) ⟨wr.heap.size + 1, 0, none⟩ 1 1 [.int .i64 (4 + wd * (x.sats[k].room % 40)), .int .i64 (x.sats[k].hold % 12)] rfl rfl ?c1 ?c2 ?c3 ?c4 ?c5 ?_)
          case c1 => exact cells_new (by simp) _ _
          case c2 => intro u hu; simp at hu; rcases hu with rfl | rfl <;> rfl
          case c3 => unfold maxLen; omega
          case c4 => omega
          case c5 => simp; omega
          intro v' w1 hown' hgrow _
          have hblk : (Value.slice ao k cp).ownBlock ≠ some wm.heap.size := fun e => by
            have := (HOWN2.out.lt _ e).1; omega
          have hy1 : Row w1 wm.heap.size 33 (yV x (.slice ao (satsUp x k).length cp) (.slice none 0 0)) :=
            ((HY.out.alloc _).alloc _).keep (hgrow.block _ (by simp; omega) (fun e => hblk e.symm))
          have hb1 : Below wm.heap.size wm w1 := ((hb.alloc (by omega) _).alloc (by simp; omega) _).grown hgrow (by simp; omega) (fun b hbk => by have := (HOWN2.out.lt _ hbk).1; omega)
          have HS := hid (show (satsUp x (k + 1)).flatMap satV = (satsUp x k).flatMap satV ++ [.int .i64 (4 + wd * (x.sats[k].room % 40)), .int .i64 (x.sats[k].hold % 12)] from by
            rw [satsUp_lt hlt h3, List.flatMap_append, hsat.out]; rfl)
          have HS1 := hid (show (satsUp x (k + 1)).length = k + 1 from by rw [satsUp_len (by omega)]; omega)
          obtain ⟨ao', cp', hv', -, -⟩ := owns_slice hown'
          rw [hv'] at hown'
          rw [hv']
          have HO1 := hid hown'
          have HY1 := hid hy1
          have z5 := hy1.cell (j := 5) (by simp [yV])
          simp only [yV, List.getElem_cons_succ, List.getElem_cons_zero] at z5
          have e5 := hy1.frozen 5
          clear hown' hgrow hv' hown hy1 hblk y5 f5 hi hz0 hz1 hz2 hsat
          go_wp2
          go_roundw
          case rel => exact ⟨k + 1, ao', cp', by omega, by go_num, by rw [HS.out, HS1.out]; exact ownsRow_setCell_below HO1.out (Nat.lt_succ_self _) _, by rw [HS1.out]; exact HY1.out.set (j := 5) (by simp [yV]) _, hb1.setCell (Nat.le_refl _) _⟩
          case measure => simp [intOf]; omega
        · have hlen : (satsUp x k).length = 3 := by omega
          rw [hlen] at y5
          have HS := hid (satsUp_ge (x := x) (k := k) (by omega))
          clear hlen hsl hsat
          go_wp2
          go_roundw
          case rel => exact ⟨k + 1, ao, cp, by omega, by go_num, by rw [HS.out]; exact HOWN.out.alloc _, by rw [HS.out]; exact HY.out.alloc _, hb.alloc (by omega) _⟩
          case measure => simp [intOf]; omega
      · have hks : k = x.sats.length := by omega
        subst hks
        have hsl2 : (satsUp x x.sats.length).length ≤ 3 := by omega
        have r0 := (HR0.out.belowB hb (by omega)).cell (j := 6) (by simp)
        simp only [List.getElem_cons_succ, List.getElem_cons_zero] at r0
        clear hcell hwf ha hsl
        go_upto_if 78 with fail
        go_cut [] (fun wx => ∃ gs cs1, Row wx gs 38 ((satsOf x).flatMap satV) ∧ wm.heap.size < gs ∧ (satsOf x).length ≤ cs1 ∧ cs1 ≤ maxLen ∧
          Row wx wm.heap.size 33 (yV x (.slice (some ⟨gs, 0, none⟩) (satsOf x).length cs1) (.slice none 0 0)) ∧ Below wm.heap.size wm wx)
        case first =>
          by_cases hnil : x.sats = []
          · have hz8 : (((satsUp x x.sats.length).length : Int) == 0) = true := by simp [satsUp, hnil]
            have HN := hid hnil
            clear hnil
            go_wp2
            go_meet
            have hso : satsOf x = [⟨60, 2⟩] := by unfold satsOf; rw [if_pos HN.out]
            refine ⟨wr.heap.size, 1, ?_, by omega, by rw [hso]; exact Nat.le_refl _, by decide, ?_, (hb.setCell (p := ⟨wm.heap.size, 5, none⟩) (Nat.le_refl _) _).alloc (by simp [World.setCell]; omega) _⟩
            · rw [hso]
              exact Row.new (cs := [.int .i64 60, .int .i64 2]) (by simp [World.setCell])
            · rw [hso]
              exact (HY.out.set (j := 5) (by simp [yV]) _).alloc _
          · have hz8 : (((satsUp x x.sats.length).length : Int) == 0) = false := by
              have : 0 < x.sats.length := List.length_pos_iff.2 hnil
              have h2 := HSL.out
              simp only [beq_eq_false_iff_ne]; omega
            have hpos : 0 < (satsUp x x.sats.length).length := by
              have : 0 < x.sats.length := List.length_pos_iff.2 hnil
              have h2 := HSL.out
              omega
            have HN := hid hnil
            clear hnil
            go_wp2
            go_meet
            have hso : satsOf x = satsUp x x.sats.length := by unfold satsOf; rw [if_neg HN.out]
            obtain ⟨g, c, hv, h1, h2, h3, h4⟩ := Row.of_owns HOWN.out hpos
            simp only [Value.slice.injEq] at hv
            obtain ⟨rfl, -, rfl⟩ := hv
            exact ⟨g, cp, by rw [hso]; exact h4, by omega, by rw [hso]; exact h1, h2, by rw [hso]; exact HY.out, hb⟩
        case rest =>
          clear hsl2 y5 f5 r0 HY HOWN HSL hb hsz ao cp
          obtain ⟨gs, cs1, hgs, hgs1, hcs1, hcs2, hy, hb⟩ := hcut
          obtain ⟨wn, rfl⟩ : ∃ wn : World, wn = wc := ⟨_, rfl⟩
          have HGS := hid hgs
          have HY := hid hy
          have hsz : wm.heap.size < wn.heap.size := hy.lt
          have hgl : gs < wn.heap.size := hgs.lt
          have r0 := (HR0.out.belowB hb (by omega)).cell (j := 6) (by simp)
          simp only [List.getElem_cons_succ, List.getElem_cons_zero] at r0
          clear hgs hy
          go_wp2
          go_loopw [85] (fun ii wr => ∃ (k : Nat) (ao : Option Addr) (cp : Nat), k ≤ x.custs.length ∧ ii = .int .i64 k ∧ wr.ownsRow wn.heap.size 112 4 (.slice ao (custsUp x k).length cp) (custsUp x k).length ((custsUp x k).flatMap custV) ∧
              Row wr wm.heap.size 33 (yV x (.slice (some ⟨gs, 0, none⟩) (satsOf x).length cs1) (.slice ao (custsUp x k).length cp)) ∧ Below wm.heap.size wm wr ∧ Row wr gs 38 ((satsOf x).flatMap satV) ∧ wn.heap.size ≤ wr.heap.size)
            (fun ii _ => x.custs.length - (intOf ii).toNat)
          case atStart => exact ⟨0, none, 0, Nat.zero_le _, rfl, World.ownsRow_nil _ _ _ _, HY.out, hb, HGS.out, Nat.le_refl _⟩
          case round =>
            obtain ⟨k, ao, cp, hk, rfl, hown, hy, hb', hgs', hsn⟩ := hrel
            clear hb HY HGS r0
            have HOWN := hid hown
            have HY := hid hy
            have HGS := hid hgs'
            have y6 := hy.cell (j := 6) (by simp [yV])
            simp only [yV, List.getElem_cons_succ, List.getElem_cons_zero] at y6
            have f6 := hy.frozen 6
            have hsz' : wm.heap.size < wr.heap.size := hy.lt
            have hgl' : gs < wr.heap.size := hgs'.lt
            have hzw : w.heap.size < wr.heap.size := by omega
            have hsl := custsUp_len hk
            have HSL := hid hsl
            clear hown hy hgs'
            by_cases hlt : k < x.custs.length
            · have hx := idx_at (c := c1') Try.underlying23 sz_lwho (ha' (by omega)) hlt
              have hbw : Below w.heap.size w wr := hb0.trans (hb'.mono (by omega))
              have q0 := below_cell hbw (hcell' k hlt).1
              have q1 := below_cell hbw (hcell' k hlt).2.1
              have q2 := below_cell hbw (hcell' k hlt).2.2.1
              have q3 := below_cell hbw (hcell' k hlt).2.2.2
              have s9 := (HR0.out.belowB hb' (by omega)).cell (j := 9) (by simp)
              simp only [List.getElem_cons_succ, List.getElem_cons_zero] at s9
              have hwk := hwf' _ (List.getElem_mem hlt)
              unfold wf8 at hwk
              have b4 := mul_bd hwk.2.2.1.1 hwk.2.2.1.2 hwd
              clear hcell' hwf' ha' hbw
              by_cases h3 : k < 6
              · have hlen : (custsUp x k).length = k := by omega
                rw [hlen] at y6
                have HLEN := hid hlen
                clear hlen hsl
                have HOWN2 : Hid (wr.ownsRow wn.heap.size 112 4 (.slice ao k cp) k ((custsUp x k).flatMap custV)) := by have := HOWN.out; rw [HLEN.out] at this; exact this
                have hown := HOWN2.out
                obtain ⟨i1, hi, hz0, hz1, hz2⟩ := info_parts info_cust
                obtain ⟨ld, hld⟩ : ∃ ld, ld = loadOf x x.custs[k] := ⟨_, rfl⟩
                have hcust := hid (show custOf x x.custs[k] = ⟨ld, x.custs[k].opn % 50, x.custs[k].opn % 50 + wd * x.custs[k].wide, x.custs[k].stay % 8⟩ from by unfold custOf; rw [HWD.out, hld])
                rw [HL.out] at hld
                have HLD := hid hld
                clear hld
                go_upto_if 99 with fail
                go_cut [9] (fun s9 wx => s9 = .int .i64 ld ∧ wx = wr.alloc (.cells #[.int .u8 x.custs[k].load, .int .u8 x.custs[k].opn, .int .u8 x.custs[k].wide, .int .u8 x.custs[k].stay] 110))
                case first =>
                  cases tg
                  all_goals
                    go_wp2
                    go_meet
                    exact ⟨by rw [HLD.out]; rfl, rfl⟩
                case rest =>
                  obtain ⟨rfl, rfl⟩ := hcut
                  go_wp2_with (at_builtin; refine wpList_append_own _ rfl _ _ 30 rfl wn.heap.size 112 i1 (.agg #[.int .i64 0, .int .i64 0, .int .i64 0, .int .i64 0]) 4 32 Try.underlying30 hi hz0 hz1 hz2 rfl (by decide) _ _ _ rfl ((hown.alloc _).alloc _) ⟨wr.heap.size + 1, 0, none⟩ 1 1 [.int .i64 ld, .int .i64 (x.custs[k].opn % 50), .int .i64 (x.custs[k].opn % 50 + wd * x.custs[k].wide), .int .i64 (x.custs[k].stay % 8)] rfl rfl ?d1 ?d2 ?d3 ?d4 ?d5 ?_)
                  case d1 => exact cells_new (by simp) _ _
                  case d2 => intro u hu; simp at hu; rcases hu with rfl | rfl | rfl | rfl <;> rfl
                  case d3 => unfold maxLen; omega
                  case d4 => omega
                  case d5 => simp; omega
                  intro v' w1 hown' hgrow _
                  have hblk : ∀ b, b < wn.heap.size → (Value.slice ao k cp).ownBlock ≠ some b := fun b hbl e => by
                    have := (HOWN2.out.lt _ e).1; omega
                  have hy1 : Row w1 wm.heap.size 33 (yV x (.slice (some ⟨gs, 0, none⟩) (satsOf x).length cs1) (.slice ao (custsUp x k).length cp)) :=
                    ((HY.out.alloc _).alloc _).keep (hgrow.block _ (by simp; omega) (fun e => hblk _ hsz e.symm))
                  have hg1 : Row w1 gs 38 ((satsOf x).flatMap satV) := ((HGS.out.alloc _).alloc _).keep (hgrow.block _ (by simp; omega) (fun e => hblk _ hgl e.symm))
                  have hb1 : Below wm.heap.size wm w1 := ((hb'.alloc (by omega) _).alloc (by simp; omega) _).grown hgrow (by simp; omega) (fun b hbk => by have := (HOWN2.out.lt _ hbk).1; omega)
                  have HS := hid (show (custsUp x (k + 1)).flatMap custV = (custsUp x k).flatMap custV ++ [.int .i64 ld, .int .i64 (x.custs[k].opn % 50), .int .i64 (x.custs[k].opn % 50 + wd * x.custs[k].wide), .int .i64 (x.custs[k].stay % 8)] from by
                    rw [custsUp_lt hlt h3, List.flatMap_append, hcust.out]; rfl)
                  have HS1 := hid (show (custsUp x (k + 1)).length = k + 1 from by rw [custsUp_len (by omega)]; omega)
                  have hn1 : wn.heap.size ≤ w1.heap.size := Nat.le_trans hsn (Nat.le_trans (by simp; omega) hgrow.size)
                  obtain ⟨ao', cp', hv', -, -⟩ := owns_slice hown'
                  rw [hv'] at hown'
                  rw [hv']
                  have HO1 := hid hown'
                  have HY1 := hid hy1
                  have z6 := hy1.cell (j := 6) (by simp [yV])
                  simp only [yV, List.getElem_cons_succ, List.getElem_cons_zero] at z6
                  have e6 := hy1.frozen 6
                  clear hown' hgrow hv' hown hy1 hblk y6 f6 hi hz0 hz1 hz2 hcust
                  go_wp2
                  go_roundw
                  case rel => exact ⟨k + 1, ao', cp', by omega, by go_num, by rw [HS.out, HS1.out]; exact ownsRow_setCell_below HO1.out hsz _, by rw [HS1.out]; exact HY1.out.set (j := 6) (by simp [yV]) _, hb1.setCell (Nat.le_refl _) _, hg1.setOther (by show gs ≠ wm.heap.size; omega) _, by simp [World.setCell]; exact hn1⟩
                  case measure => simp [intOf]; omega
              · have hlen : (custsUp x k).length = 6 := by omega
                rw [hlen] at y6
                have HS := hid (custsUp_ge (x := x) (k := k) (by omega))
                clear hlen hsl
                go_wp2
                go_roundw
                case rel => exact ⟨k + 1, ao, cp, by omega, by go_num, by rw [HS.out]; exact HOWN.out.alloc _, by rw [HS.out]; exact HY.out.alloc _, hb'.alloc (by omega) _, HGS.out.alloc _, by simp; omega⟩
                case measure => simp [intOf]; omega
            · have hks : k = x.custs.length := by omega
              subst hks
              have hsl2 : (custsUp x x.custs.length).length ≤ 6 := by omega
              clear hcell' hwf' ha' hsl
              go_upto_if 133 with fail
              go_cut [] (fun wx => ∃ gc cc1, Row wx gc 112 ((custsOf x).flatMap custV) ∧ wm.heap.size < gc ∧ (custsOf x).length ≤ cc1 ∧ cc1 ≤ maxLen ∧ Row wx gs 38 ((satsOf x).flatMap satV) ∧
                Row wx wm.heap.size 33 (yV x (.slice (some ⟨gs, 0, none⟩) (satsOf x).length cs1) (.slice (some ⟨gc, 0, none⟩) (custsOf x).length cc1)) ∧ Below wm.heap.size wm wx)
              case first =>
                by_cases hnil : x.custs = []
                · have hz8 : (((custsUp x x.custs.length).length : Int) == 0) = true := by simp [custsUp, hnil]
                  have HN := hid hnil
                  clear hnil
                  go_wp2
                  go_meet
                  have hso : custsOf x = [⟨2, 5, 90, 1⟩] := by unfold custsOf; rw [if_pos HN.out]
                  refine ⟨wr.heap.size, 1, ?_, by omega, by rw [hso]; exact Nat.le_refl _, by decide, ?_, ?_, (hb'.setCell (p := ⟨wm.heap.size, 6, none⟩) (Nat.le_refl _) _).alloc (by simp [World.setCell]; omega) _⟩
                  · rw [hso]
                    exact Row.new (cs := [.int .i64 2, .int .i64 5, .int .i64 90, .int .i64 1]) (by simp [World.setCell])
                  · exact (HGS.out.setOther (by show gs ≠ wm.heap.size; omega) _).alloc _
                  · rw [hso]
                    exact (HY.out.set (j := 6) (by simp [yV]) _).alloc _
                · have hz8 : (((custsUp x x.custs.length).length : Int) == 0) = false := by
                    have : 0 < x.custs.length := List.length_pos_iff.2 hnil
                    have h2 := HSL.out
                    simp only [beq_eq_false_iff_ne]; omega
                  have hpos : 0 < (custsUp x x.custs.length).length := by
                    have : 0 < x.custs.length := List.length_pos_iff.2 hnil
                    have h2 := HSL.out
                    omega
                  have HN := hid hnil
                  clear hnil
                  go_wp2
                  go_meet
                  have hso : custsOf x = custsUp x x.custs.length := by unfold custsOf; rw [if_neg HN.out]
                  obtain ⟨g, c, hv, h1, h2, h3, h4⟩ := Row.of_owns HOWN.out hpos
                  simp only [Value.slice.injEq] at hv
                  obtain ⟨rfl, -, rfl⟩ := hv
                  exact ⟨g, cp, by rw [hso]; exact h4, by omega, by rw [hso]; exact h1, h2, HGS.out, by rw [hso]; exact HY.out, hb'⟩
              case rest =>
                clear hsl2 y6 f6 HY HOWN HSL hb' hsz' HGS ao cp hgl' hzw hsn
                obtain ⟨gc, cc1, hgc, hgc1, hcc1, hcc2, hgs', hy, hb⟩ := hcut
                obtain ⟨wq, rfl⟩ : ∃ wq : World, wq = wc := ⟨_, rfl⟩
                have HGC := hid hgc
                have HGS := hid hgs'
                have HY := hid hy
                have hsz' : wm.heap.size < wq.heap.size := hy.lt
                have R0 := HR0.out.belowB hb (by omega)
                have p7 := R0.cell (j := 7) (by simp)
                have p8 := R0.cell (j := 8) (by simp)
                simp only [List.getElem_cons_succ, List.getElem_cons_zero] at p7 p8
                have hyc : ∀ j (h : j < 9), wq.cell? ⟨wm.heap.size, j, none⟩ = some ((yV x (.slice (some ⟨gs, 0, none⟩) (satsOf x).length cs1) (.slice (some ⟨gc, 0, none⟩) (custsOf x).length cc1))[j]'(by simpa [yV] using h)) := fun j h => hy.cell (by simpa [yV] using h)
                have y0 := hyc 0 (by omega)
                have y1 := hyc 1 (by omega)
                have y2 := hyc 2 (by omega)
                have y3 := hyc 3 (by omega)
                have y4 := hyc 4 (by omega)
                have y5 := hyc 5 (by omega)
                have y6 := hyc 6 (by omega)
                have y7 := hyc 7 (by omega)
                have y8 := hyc 8 (by omega)
                simp only [yV, intV, List.getElem_cons_succ, List.getElem_cons_zero] at y0 y1 y2 y3 y4 y5 y6 y7 y8
                have hls : (satsOf x).length ≤ 1000000 := by have := satsOf_len x; omega
                have hlc' : (custsOf x).length ≤ 1000000 := by have := custsOf_len x; omega
                have hno := nodesOf_le x
                have HNO := hid (show 1 + (satsOf x).length + (custsOf x).length = nodesOf x from rfl)
                have h100 : nodesOf x ≤ 100 := by omega
                have hbq : Below w.heap.size w wq := hb0.trans (hb.mono (by omega))
                have c3 : (sliceS u8S).rep wq F x.cost [co] := bytesS.below h3 hbq
                have c4 : (sliceS u8S).rep wq F x.time [ti] := bytesS.below h4 hbq
                clear hgc hgs' hy hyc R0 h3 h4 g5
                go_upto_region 25 with fail
                have k7 : ∀ e : At (Old wq), e.val.cell? ⟨w.heap.size, 7, none⟩ = some co := fun e => e.cell p7
                have k8 : ∀ e : At (Old wq), e.val.cell? ⟨w.heap.size, 8, none⟩ = some ti := fun e => e.cell p8
                have z0 : ∀ e : At (Old wq), _ := fun e => e.cell y0
                have z1 : ∀ e : At (Old wq), _ := fun e => e.cell y1
                have z2 : ∀ e : At (Old wq), _ := fun e => e.cell y2
                have z3 : ∀ e : At (Old wq), _ := fun e => e.cell y3
                have z4 : ∀ e : At (Old wq), _ := fun e => e.cell y4
                have z5 : ∀ e : At (Old wq), _ := fun e => e.cell y5
                have z6 : ∀ e : At (Old wq), _ := fun e => e.cell y6
                have z7 : ∀ e : At (Old wq), _ := fun e => e.cell y7
                have z8 : ∀ e : At (Old wq), _ := fun e => e.cell y8
                refine wp_region_mix (Old wq) [11, 12, 13] [([0, 1, 2, 5, 6, 7], 3, false), ([], 4, false), ([10], 8, false), ([], 9, false), ([], 11, true), ([], 12, true), ([], 13, true)] (by kernel_rfl) (by kernel_rfl) (fun _ _ d _ _ h => by cases d <;> exact h) (Old.drew _) ?_
                simp only [mixOf, List.map_cons, List.map_nil, Array.getD_eq_getD_getElem?, List.getElem?_toArray, List.getElem?_cons_succ, List.getElem?_cons_zero, Option.getD_some, wpMix]
                repeat (go_big_quiet_step (fail))
                refine wpQuiet_nil ?_
                go_wp2_with (go_at_call 50; refine (nodes11_c _ _ _ _ _ _ _ _ _ _ _ _ _ _ hls hlc' HNO.out).mono ?_; rintro e w1 ⟨rfl, hb1⟩)
                have hO1 := (Old.drew wq).step hb1
                refine ⟨hO1, wpQuiet_nil ?_⟩
                clear hb1
                have d3 := (sliceS u8S).below c3 hO1
                go_wp2_with (go_at_call 49; refine (square11_c d3 h100).mono ?_; rintro e w2 ⟨ao1, cp1, rs1, rfl, hi1, hb2⟩)
                have hO2 := hO1.step hb2
                refine ⟨hO2, ?_⟩
                repeat (go_big_quiet_step (fail))
                refine wpQuiet_nil ?_
                have HI1 := hid hi1
                have HB2 := hid hb2
                clear d3 hi1 hb2
                go_wp2_with (go_at_call 50; refine (nodes11_c _ _ _ _ _ _ _ _ _ _ _ _ _ _ hls hlc' HNO.out).mono ?_; rintro e w3 ⟨rfl, hb3⟩)
                have hO3 := hO2.step hb3
                refine ⟨hO3, wpQuiet_nil ?_⟩
                have HB3 := hid hb3
                clear hb3
                have d4 := (sliceS u8S).below c4 hO3
                go_wp2_with (go_at_call 49; refine (square11_c d4 h100).mono ?_; rintro e w4 ⟨ao2, cp2, rs2, rfl, hi2, hb4⟩)
                have hO4 := hO3.step hb4
                refine ⟨hO4, wpQuiet_nil ?_⟩
                have HI2 := hid hi2
                have HB4 := hid hb4
                clear d4 hi2 hb4 k7 k8 z0 z1 z2 z3 z4 z5 z6 z7 z8
                have hy4 := HY.out.below hO4
                have hr4 := ((HR1.out.belowB hb (by omega)).below hO4)
                have v0 := hO4.cell' y0
                have v1 := hO4.cell' y1
                have v2 := hO4.cell' y2
                have v3 := hO4.cell' y3
                have v4 := hO4.cell' y4
                have v5 := hO4.cell' y5
                have v6 := hO4.cell' y6
                have v7 := hO4.cell' y7
                have v8 := hO4.cell' y8
                have f7 := hy4.frozen 7
                have f8 := hy4.frozen 8
                have rc : ∀ j (h : j < 9), ∃ v, w4.cell? ⟨w.heap.size + 1, j, none⟩ = some v := fun j h => ⟨_, hr4.cell (j := j) (by simpa using h)⟩
                obtain ⟨u0, r0⟩ := rc 0 (by omega)
                obtain ⟨u1, r1⟩ := rc 1 (by omega)
                obtain ⟨u2, r2⟩ := rc 2 (by omega)
                obtain ⟨u3, r3⟩ := rc 3 (by omega)
                obtain ⟨u4, r4⟩ := rc 4 (by omega)
                obtain ⟨u5, r5⟩ := rc 5 (by omega)
                obtain ⟨u6, r6⟩ := rc 6 (by omega)
                obtain ⟨u7, r7⟩ := rc 7 (by omega)
                obtain ⟨u8, r8⟩ := rc 8 (by omega)
                have rf : ∀ j, w4.frozen? ⟨w.heap.size + 1, j, none⟩ = false := fun j => hr4.frozen j
                have rf0 := rf 0
                have rf1 := rf 1
                have rf2 := rf 2
                have rf3 := rf 3
                have rf4 := rf 4
                have rf5 := rf 5
                have rf6 := rf 6
                have rf7 := rf 7
                have rf8 := rf 8
                have HHY := hid hy4
                have HHR := hid hr4
                clear y0 y1 y2 y3 y4 y5 y6 y7 y8 p7 p8 rc rf hy4 hr4
                go_wp2
                refine wpQuiet_nil ?_
                go_wp2
                refine wpQuiet_nil ?_
                go_wp2
                have hle1 : w.heap.size ≤ wm.heap.size := by omega
                have hle2 : w.heap.size ≤ w.heap.size + 1 := by omega
                have hbw4 : Below w.heap.size w w4 := hbq.trans (hO4.mono hbq.size)
                refine bodyPost_ret (v := .agg #[.int .i64 (40 + x.fin * wideOf x), .int .i64 (1 + x.trucks % 4), .int .i64 (5 + wideOf x * (x.troom % 40)), .int .i64 (1 + x.bikes % 6), .int .i64 (3 + wideOf x * (x.broom % 20)), .slice (some ⟨gs, 0, none⟩) (satsOf x).length cs1, .slice (some ⟨gc, 0, none⟩) (custsOf x).length cc1, .slice ao1 (nodesOf x) cp1, .slice ao2 (nodesOf x) cp2]) (by simp [results, Try.results16, go_sem, r0, r1, r2, r3, r4, r5, r6, r7, r8]) rfl ⟨[.int .i64 (40 + x.fin * wideOf x), .int .i64 (1 + x.trucks % 4), .int .i64 (5 + wideOf x * (x.troom % 40)), .int .i64 (1 + x.bikes % 6), .int .i64 (3 + wideOf x * (x.broom % 20)), .slice (some ⟨gs, 0, none⟩) (satsOf x).length cs1, .slice (some ⟨gc, 0, none⟩) (custsOf x).length cc1, .slice ao1 (nodesOf x) cp1, .slice ao2 (nodesOf x) cp2], rfl, ?_, ?_⟩
                · refine InstOwn.keepOn (w := w4) (TX := 33) ?_ (fun b e cs hR he => ?_) (by decide) (by decide) (by decide) (by decide)
                  · have hpos1 : 0 < (square11 x.cost (nodesOf x)).length := by unfold square11; rw [sqSt_len]; omega
                    have hpos2 : 0 < (square11 x.time (nodesOf x)).length := by unfold square11; rw [sqSt_len]; omega
                    obtain ⟨gco, o1⟩ := HI1.out.own hpos1
                    obtain ⟨gti, o2⟩ := HI2.out.own hpos2
                    have l1 : w.heap.size ≤ w1.heap.size := Nat.le_trans hbq.size hO1.size
                    have l2 := HB2.out.size
                    have l3 := HB3.out.size
                    have hg1 : gco < w2.heap.size := by obtain ⟨_, _, _, _, _, hr, _⟩ := o1; exact hr.lt
                    have hg2 : w3.heap.size ≤ gti := by obtain ⟨_, _, _, _, hg, _⟩ := o2; exact hg
                    exact ⟨gs, cs1, gc, cc1, _, _, gco, rs1, gti, rs2, rfl, ⟨hcs1, hcs2, hcc1, hcc2⟩, by omega, by omega, HGS.out.below hO4, HGC.out.below hO4, ((o1.below HB3.out).below HB4.out).mono l1, o2.mono (by omega), by omega,
                      fun a ha b hb2 => by have h1 := (HI1.out.2.2.2.2 a ha).2; have h2 := (HI2.out.2.2.2.2 b hb2).1; omega⟩
                  · have n1 : b ≠ wm.heap.size := hR.ne HHY.out he
                    have n2 : b ≠ w.heap.size + 1 := hR.ne HHR.out he
                    iterate 11 (rw [Below.heap_setCell _ _ _ _ (by first | exact n1 | exact n2)])
                · iterate 11 (refine Below.setCell ?_ (by first | exact hle1 | exact hle2) _)
                  exact hbw4
end Go.Proofs.Ytafhjfkdlmijdaa
/- Contract: wharfagelaw11.One: the plain instance. -/
namespace Go.Proofs.Ytafhjfkdlmijdaa
open Go.RowKit

def smallZ : SmallD := ⟨0, 0, 0, 0, 0, [], [], [], [], false, false⟩
theorem smallZ_rep (w : World) : smallS.rep w (fun _ => False) smallZ [.int .u8 0, .int .u8 0, .int .u8 0, .int .u8 0, .int .u8 0, .slice none 0 0, .slice none 0 0, .slice none 0 0, .slice none 0 0, .bool false, .bool false] := by
  have h0 : ∀ {α : Type} (S : Shape α), sliceRep S w (fun _ => False) [] [.slice none 0 0] := fun S => ⟨none, 0, 0, 0, rfl, Nat.le_refl _, Nat.zero_le _, fun h => absurd h (Nat.not_lt_zero _), fun _ h => absurd h (Nat.not_lt_zero _)⟩
  exact ⟨_, _, _, _, rfl, by unfold wf8 smallZ; decide, h0 _, h0 _, h0 _, h0 _⟩

theorem one_c (w : World) : Calls Try.prog 61 #[] w fun e w' => ∃ ds, e = .returned (.agg ds.toArray) ∧ InstOwn 38 112 34 2 w' w.heap.size (makeD smallZ) ds ∧ Below w.heap.size w w' := by
  have hz := smallZ_rep
  go_enter Try.func61, Try.ntmps61
  go_wp2_with (go_at_call 16; refine (make_c (hz _)).mono ?_; rintro e w1 ⟨ds, rfl, hi, hb⟩; obtain ⟨gs, cs1, gc, cc1, gco, cco, gti, cti, rfl⟩ := hi.lit; have R := (Row.new (w := w) (e := 33) (cs := [.int .i64 0, .int .i64 0, .int .i64 0, .int .i64 0, .int .i64 0, .slice none 0 0, .slice none 0 0, .slice none 0 0, .slice none 0 0]) rfl).below hb; obtain ⟨r0, r1, r2, r3, r4, r5, r6, r7, r8⟩ := row9 R; obtain ⟨f0, f1, f2, f3, f4, f5, f6, f7, f8⟩ := frozen9 R)
  refine bodyPost_ret (v := .agg #[.int .i64 (makeD smallZ).fin, .int .i64 (makeD smallZ).tmany, .int .i64 (makeD smallZ).troom, .int .i64 (makeD smallZ).bmany, .int .i64 (makeD smallZ).broom, .slice (some ⟨gs, 0, none⟩) (makeD smallZ).sats.length cs1, .slice (some ⟨gc, 0, none⟩) (makeD smallZ).custs.length cc1, .slice (some ⟨gco, 0, none⟩) (makeD smallZ).cost.length cco, .slice (some ⟨gti, 0, none⟩) (makeD smallZ).time.length cti]) (by simp [results, Try.results61, go_sem, r0, r1, r2, r3, r4, r5, r6, r7, r8]) rfl ⟨_, rfl, ?_, ?_⟩
  · refine InstOwn.keepOn (w := w1) (TX := 33) ?_ (fun b e cs hR he => ?_) (by decide) (by decide) (by decide) (by decide)
    · exact hi.mono (by simp)
    · have n1 : b ≠ w.heap.size := hR.ne R he
      iterate 9 (rw [Below.heap_setCell _ _ _ _ (by exact n1)])
  · iterate 9 (refine Below.setCell ?_ (by exact Nat.le_refl _) _)
    exact ((Below.refl _ _).alloc (Nat.le_refl _) _).trans (hb.mono (by simp))
end Go.Proofs.Ytafhjfkdlmijdaa
/- Contract: wharfagelaw17.Awake answers true. -/
namespace Go.Proofs.Ytafhjfkdlmijdaa
open Go.RowKit

def instZ : InstD := ⟨40, 1, 5, 1, 3, [⟨60, 2⟩], [⟨2, 5, 90, 1⟩], [[0, 0, 0], [0, 0, 0], [0, 0, 0]], [[0, 0, 0], [0, 0, 0], [0, 0, 0]]⟩
theorem instZ_eq : makeD smallZ = instZ := by decide
def inst17 : InstD := (instZ.putCost 0 1 5).putCost 1 2 7
def plan17 : PlanD := ⟨[[⟨0, 2⟩]], [⟨0, [0]⟩]⟩
theorem wf17 : InstWf inst17 := by
  unfold InstWf wf64 inst17 instZ InstD.putCost setAt maxLen; simp
theorem check17 : planCheck inst17 plan17 = 0 := by decide +kernel
theorem cost17 : costOf inst17 plan17 = 12 := by decide +kernel
theorem check17e : planCheck inst17 ⟨[], []⟩ = 8 := by decide +kernel
theorem inst17_ok : inst17.custs.length ≤ 6 := by decide
/-- A plan's two slices read, the plan reads. -/
theorem planE_rep (w : World) : planS.rep w (fun _ => True) ⟨[], []⟩ [.slice none 0 0, .slice none 0 0] :=
  ⟨_, _, rfl, ⟨none, 0, 0, 0, rfl, Nat.le_refl _, Nat.zero_le _, fun h => absurd h (Nat.not_lt_zero _), fun _ h => absurd h (Nat.not_lt_zero _)⟩, ⟨none, 0, 0, 0, rfl, Nat.le_refl _, Nat.zero_le _, fun h => absurd h (Nat.not_lt_zero _), fun _ h => absurd h (Nat.not_lt_zero _)⟩⟩
/-- The plan of one truck with one stop, one bike with one customer, as it is written out. -/
theorem planOne_rep {w : World} {h1 h2 h3 h4 : Nat} {s l b c : Int} {T1 T2 T3 T4 : TypeId} (r1 : Row w h1 T1 [.int .i64 s, .int .i64 l]) (r2 : Row w h2 T2 [.slice (some ⟨h1, 0, none⟩) 1 1]) (r3 : Row w h3 T3 [.int .i64 c]) (r4 : Row w h4 T4 [.int .i64 b, .slice (some ⟨h3, 0, none⟩) 1 1])
    (w1 : wf64 s) (w2 : wf64 l) (w3 : wf64 b) (w4 : wf64 c) : planS.rep w (fun _ => True) ⟨[[⟨s, l⟩]], [⟨b, [c]⟩]⟩ [.slice (some ⟨h2, 0, none⟩) 1 1, .slice (some ⟨h4, 0, none⟩) 1 1] := by
  have e1 : (sliceS stopS).rep w (fun _ => True) [⟨s, l⟩] [.slice (some ⟨h1, 0, none⟩) 1 1] := lit1 (S := stopS) ⟨rfl, w1, w2⟩ r1 trivial
  have e2 : trucksS.rep w (fun _ => True) [[⟨s, l⟩]] [.slice (some ⟨h2, 0, none⟩) 1 1] := lit1 (S := sliceS stopS) e1 r2 trivial
  have e3 : (sliceS intS).rep w (fun _ => True) [c] [.slice (some ⟨h3, 0, none⟩) 1 1] := lit1 (S := intS) ⟨rfl, w4⟩ r3 trivial
  have e4 : bikesS.rep w (fun _ => True) [⟨b, [c]⟩] [.slice (some ⟨h4, 0, none⟩) 1 1] := lit1 (S := bikeS) ⟨_, rfl, w3, e3⟩ r4 trivial
  exact ⟨_, _, rfl, e2, e4⟩

set_option maxRecDepth 100000 in
set_option maxHeartbeats 3200000 in
theorem awake17_c (w : World) : Calls Try.prog 48 #[] w fun e w' => e = .returned (.bool true) ∧ Below w.heap.size w w' := by
  go_enter Try.func48, Try.ntmps48
  go_wp2_with fail
  refine (one_c _).mono ?_
  rintro e w1 ⟨ds, rfl, hi, hb⟩
  rw [instZ_eq] at hi
  obtain ⟨gs, cs1, gc, cc1, gco, cco, rco, gti, cti, rti, I⟩ := hi.at
  obtain rfl := I.lit
  clear hi
  have R0 := Row.new (w := w1) (e := 33) (cs := [.int .i64 instZ.fin, .int .i64 instZ.tmany, .int .i64 instZ.troom, .int .i64 instZ.bmany, .int .i64 instZ.broom, .slice (some ⟨gs, 0, none⟩) instZ.sats.length cs1, .slice (some ⟨gc, 0, none⟩) instZ.custs.length cc1, .slice (some ⟨gco, 0, none⟩) instZ.cost.length cco, .slice (some ⟨gti, 0, none⟩) instZ.time.length cti]) rfl
  have hob : Old w1 (w1.alloc (.cells ([.int .i64 instZ.fin, .int .i64 instZ.tmany, .int .i64 instZ.troom, .int .i64 instZ.bmany, .int .i64 instZ.broom, .slice (some ⟨gs, 0, none⟩) instZ.sats.length cs1, .slice (some ⟨gc, 0, none⟩) instZ.custs.length cc1, .slice (some ⟨gco, 0, none⟩) instZ.cost.length cco, .slice (some ⟨gti, 0, none⟩) instZ.time.length cti]).toArray 33)) := (Below.refl _ _).alloc (Nat.le_refl _) _
  have I0 := I.below hob
  have hB0 := below_step hb hob
  have hzb := hb.size
  clear hob I hb
  go_upto_region 2 with fail
  generalize hwq : w1.alloc (.cells _ 33) = wq at *
  clear hwq
  go_cut [] (fun wx => InstAt 38 112 34 2 wx w.heap.size inst17 ([.int .i64 instZ.fin, .int .i64 instZ.tmany, .int .i64 instZ.troom, .int .i64 instZ.bmany, .int .i64 instZ.broom, .slice (some ⟨gs, 0, none⟩) instZ.sats.length cs1, .slice (some ⟨gc, 0, none⟩) instZ.custs.length cc1, .slice (some ⟨gco, 0, none⟩) instZ.cost.length cco, .slice (some ⟨gti, 0, none⟩) instZ.time.length cti]) gs cs1 gc cc1 gco cco rco gti cti rti ∧ Row wx w1.heap.size 33 ([.int .i64 instZ.fin, .int .i64 instZ.tmany, .int .i64 instZ.troom, .int .i64 instZ.bmany, .int .i64 instZ.broom, .slice (some ⟨gs, 0, none⟩) instZ.sats.length cs1, .slice (some ⟨gc, 0, none⟩) instZ.custs.length cc1, .slice (some ⟨gco, 0, none⟩) instZ.cost.length cco, .slice (some ⟨gti, 0, none⟩) instZ.time.length cti]) ∧ Below w.heap.size w wx)
  case first =>
    obtain ⟨c0, r0, l0, m0⟩ := I0.costs.row (i := 0) (by decide)
    obtain ⟨c1, r1, l1, m1⟩ := I0.costs.row (i := 1) (by decide)
    have hne := I0.costs.apart (i := 0) (i' := 1) (by decide) (by decide) (by decide)
    have I2 := (I0.setCost (i := 0) (j := 1) (by decide) (by decide) (by decide) (by decide) (by decide) 5)
    have I3 := (I2.setCost (i := 1) (j := 2) (by decide) (by decide) (by decide) (by decide) (by decide) 7)
    have hr0 := R0.ne r0 (by decide)
    have hr1 := R0.ne r1 (by decide)
    generalize hx0 : rco.getD 0 0 = x0 at *
    generalize hx1 : rco.getD 1 0 = x1 at *
    clear hx0 hx1 m0 m1
    have R3 := hid ((R0.setOther (a := ⟨x0, 1, none⟩) hr0 (intV 5)).setOther (a := ⟨x1, 2, none⟩) hr1 (intV 7))
    have hB3 := hid ((hB0.setCell (p := ⟨x0, 1, none⟩) l0 (intV 5)).setCell (p := ⟨x1, 2, none⟩) l1 (intV 7))
    have HI3 := hid I3
    have d0 := r0.cell (j := 1) (by decide)
    have d1 := r1.cell (j := 2) (by decide)
    have f0 := r0.frozen 1
    have f1 := r1.frozen 2
    have hx0 : ∀ w, (Instr.indexAt 31 (.slice (some ⟨gco, 0, none⟩) instZ.cost.length cco) (.int .i64 0)).run Try.prog w = .ok (.pointer (some ⟨gco, 0, none⟩)) w := idx_at1 Try.underlying31 sz_row rfl (k := 0) (by decide)
    have hx1 : ∀ w, (Instr.indexAt 31 (.slice (some ⟨gco, 0, none⟩) instZ.cost.length cco) (.int .i64 1)).run Try.prog w = .ok (.pointer (some ⟨gco, 1, none⟩)) w := idx_at1 Try.underlying31 sz_row rfl (k := 1) (by decide)
    have hx2 : ∀ w, (Instr.indexAt 34 (.slice (some ⟨x0, 0, none⟩) (instZ.cost.getD 0 []).length (instZ.cost.getD 0 []).length) (.int .i64 1)).run Try.prog w = .ok (.pointer (some ⟨x0, 1, none⟩)) w := idx_at1 Try.underlying34 sz_i64 rfl (k := 1) (by decide)
    have hx3 : ∀ w, (Instr.indexAt 34 (.slice (some ⟨x1, 0, none⟩) (instZ.cost.getD 1 []).length (instZ.cost.getD 1 []).length) (.int .i64 2)).run Try.prog w = .ok (.pointer (some ⟨x1, 2, none⟩)) w := idx_at1 Try.underlying34 sz_i64 rfl (k := 2) (by decide)
    clear I0 I2 I3 hr0 hr1 r0 r1 hB0
    obtain ⟨q0, q1, q2, q3, q4, q5, q6, q7, q8⟩ := row9 R0
    have z7 : ∀ e : At (Old wq), _ := fun e => e.cell q7
    have z9 : ∀ e : At (Old wq), _ := fun e => e.cell c0
    have z10 : ∀ e : At (Old wq), _ := fun e => e.cell c1
    refine wp_region_mix (Old wq) [9, 10, 11] [([0, 1, 2, 3, 4, 5, 6, 7], 8, false), ([], 9, true), ([], 10, true), ([], 11, true)] (by kernel_rfl) (by kernel_rfl) (fun _ _ d _ _ h => by cases d <;> exact h) (Old.drew _) ?_
    simp only [mixOf, List.map_cons, List.map_nil, Array.getD_eq_getD_getElem?, List.getElem?_toArray, List.getElem?_cons_succ, List.getElem?_cons_zero, Option.getD_some, wpMix]
    repeat (go_big_quiet_step (fail))
    refine wpQuiet_nil ?_
    go_wp2
    refine ⟨Old.drew _, wpQuiet_nil ?_⟩
    go_wp2
    refine wpQuiet_nil ?_
    go_wp2
    refine wpQuiet_nil ?_
    go_wp2
    go_meet
    exact ⟨HI3.out.drew, R3.out.drew, hB3.out.drew⟩
  case rest =>
    obtain ⟨I, R, hB⟩ := hcut
    obtain ⟨wq, rfl⟩ : ∃ wq : World, wq = wc := ⟨_, rfl⟩
    obtain ⟨W, hW, hold, r1, r2, r3, r4, r5, hz⟩ := allocs5 wq [.int .i64 0, .int .i64 2] [.slice (some ⟨wq.heap.size, 0, none⟩) 1 1] [.int .i64 0] [.int .i64 0, .slice (some ⟨wq.heap.size + 2, 0, none⟩) 1 1] [.slice (some ⟨wq.heap.size + 1, 0, none⟩) 1 1, .slice (some ⟨wq.heap.size + 3, 0, none⟩) 1 1] 105 108 3 128 46
    have HW := hid hW
    have R1 := R.below hold
    have hB1 := below_step hB hold
    have hI : instS.rep W (fun b => w.heap.size ≤ b) inst17 _ := (I.below hold).own.rep wf17
    have hP := planOne_rep (s := 0) (l := 2) (b := 0) (c := 0) r1 r2 r3 r4 (by unfold wf64; decide) (by unfold wf64; decide) (by unfold wf64; decide) (by unfold wf64; decide)
    have HI := hid hI
    have HP := hid hP
    obtain ⟨q0, q1, q2, q3, q4, q5, q6, q7, q8⟩ := row9 R
    have hzq := R.lt
    have hzq1 : w1.heap.size < wq.heap.size + 1 := by omega
    have hzq2 : w1.heap.size < wq.heap.size + 1 + 1 := by omega
    have hzq3 : w1.heap.size < wq.heap.size + 1 + 1 + 1 := by omega
    have hzq4 : w1.heap.size < wq.heap.size + 1 + 1 + 1 + 1 := by omega
    clear hW hold I R hB hI hP r1 r2 r3 r4
    go_wp2_with fail
    rw [show wq.heap.size + 1 + 1 + 1 = wq.heap.size + 3 from rfl, show wq.heap.size + 1 + 1 = wq.heap.size + 2 from rfl, ← HW.out]
    refine (cost_c HI.out HP.out (fun _ => inst17_ok) (by unfold PlanSmall; decide)).mono ?_
    rintro e w2 ⟨rfl, hb2⟩
    rw [show (⟨[[⟨0, 2⟩]], [⟨0, [0]⟩]⟩ : PlanD) = plan17 from rfl, cost17, check17]
    have R2 := R1.below hb2
    have P2 := r5.below hb2
    have hB2 := below_step hB1 hb2
    have HI2 := hid (instS.below HI.out hb2)
    have HP2 := hid (planS.below HP.out hb2)
    clear q0 q1 q2 q3 q4 q5 q6 q7 q8 HI HP R1 r5 hB1 hb2 HW
    obtain ⟨q0, q1, q2, q3, q4, q5, q6, q7, q8⟩ := row9 R2
    obtain ⟨p0, p1⟩ := row2 P2
    go_wp2_with fail
    refine (planCheck_c HI2.out HP2.out (fun _ => inst17_ok) (by unfold PlanSmall; decide)).mono ?_
    rintro e w3 ⟨rfl, hb3⟩
    rw [show (⟨[[⟨0, 2⟩]], [⟨0, [0]⟩]⟩ : PlanD) = plan17 from rfl, check17]
    have R3 := R2.below hb3
    have hB3 := below_step hB2 hb3
    have HI3 := hid (instS.below HI2.out hb3)
    clear q0 q1 q2 q3 q4 q5 q6 q7 q8 p0 p1 HI2 HP2 R2 P2 hB2 hb3
    obtain ⟨q0, q1, q2, q3, q4, q5, q6, q7, q8⟩ := row9 R3
    go_wp2_with fail
    refine (planCheck_c HI3.out (planE_rep _) (fun _ => inst17_ok) (by unfold PlanSmall; decide)).mono ?_
    rintro e w4 ⟨rfl, hb4⟩
    rw [check17e]
    go_wp2
    go_ret
    exact ⟨rfl, below_step hB3 hb4⟩
end Go.Proofs.Ytafhjfkdlmijdaa
