/- Contracts: plan.Truck.Nodes, plan.Bike.Nodes. -/
import Derived.Test.YtafhjfkdlmijdaaWay
import Derived.Laws.OwnMore
namespace Go.Proofs.Ytafhjfkdlmijdaa
open Go.RowKit

theorem flat1 {α β : Type} (f : α → β) : ∀ xs : List α, xs.flatMap (fun x => [f x]) = xs.map f
  | [] => rfl
  | x :: xs => by rw [List.flatMap_cons, List.map_cons, flat1 f xs]; rfl
/-- What a call owns as a row reads as a slice. -/
theorem owns_rep {α : Type} {S : Shape α} {h0 : 0 < S.sz} {w : World} {B : Nat} {T : TypeId} {v : Value} {xs : List α} (enc : α → List Value) (hl : ∀ x, (enc x).length = S.sz) (hs : ∀ x ∈ xs, S.rep w (fun b => B ≤ b) x (enc x))
    (h : w.ownsRow B T S.sz v xs.length (xs.flatMap enc)) : (sliceS S h0).rep w (fun b => B ≤ b) xs [v] := by
  obtain ⟨h1, h2⟩ := h
  rcases h2 with ⟨rfl, hn⟩ | ⟨g, cap, cur, rfl, hg, hh, hn1, hc, hsz, ht⟩
  · have : xs = [] := List.eq_nil_of_length_eq_zero hn
    subst this
    exact ⟨none, 0, 0, 0, rfl, Nat.le_refl _, Nat.zero_le _, fun h => absurd h (Nat.not_lt_zero _), fun i h => absurd h (Nat.not_lt_zero _)⟩
  · have hR : Row w g T (xs.flatMap enc) := ⟨cur, cur.toList.drop (xs.length * S.sz), hh, by rw [← ht, List.take_append_drop]⟩
    refine ⟨some ⟨g, 0, none⟩, g, 0, cap, rfl, hn1, hc, fun _ => ⟨rfl, hg⟩, fun i hi => ⟨enc xs[i], hs _ (List.getElem_mem hi), fun j hj => ?_⟩⟩
    have e := flatMap_get enc S.sz hl xs i j hi hj
    have hj' : j < (enc xs[i]).length := by rw [hl]; exact hj
    rw [List.getElem?_eq_getElem hj'] at e ⊢
    rw [Nat.zero_add]
    exact hR.get e
theorem owns_ints {w : World} {B : Nat} {T : TypeId} {v : Value} {xs : List Int} (h : w.ownsRow B T 1 v xs.length (xs.map intV)) (hw : ∀ x ∈ xs, wf64 x) : (sliceS intS).rep w (fun b => B ≤ b) xs [v] :=
  owns_rep (S := intS) (fun x => [intV x]) (fun _ => rfl) (fun x hx => ⟨rfl, hw x hx⟩) (by rw [flat1]; exact h)
theorem Row.grown {w w' : World} {g : Nat} {e : TypeId} {cs : List Value} {B T n k : Nat} {v : Value} {xs : List Value} (h : Row w g e cs) (hown : w.ownsRow B T k v n xs) (he : e ≠ T) (hg : w.grownBy w' v.ownBlock) : Row w' g e cs :=
  h.keep (hg.block g h.lt fun e => by obtain ⟨cs', hc'⟩ := ownBlock_row hown e.symm; exact h.ne hc' he rfl)
theorem below_owned {B B' T n k : Nat} {a w w' : World} {v : Value} {xs : List Value} (h : Below B a w) (hown : w.ownsRow B' T k v n xs) (hB : B ≤ w.heap.size) (hB' : B ≤ B') (hg : w.grownBy w' v.ownBlock) : Below B a w' :=
  h.grown hg hB fun k hk => Nat.le_trans hB' (hown.lt k hk).1

def truckNodes (t : List StopD) : List Int := 0 :: t.map (fun s => 1 + s.sat)
def bikeNodes (x : InstD) (b : BikeD) : List Int := (1 + b.sat) :: b.stops.map (fun c => 1 + x.sats.length + c)
theorem map_take_succ {α β : Type} (f : α → β) (z : β) (l : List α) (k : Nat) (h : k < l.length) : z :: (l.take (k + 1)).map f = (z :: (l.take k).map f) ++ [f l[k]] := by
  rw [List.take_succ_eq_append_getElem h, List.map_append]; rfl

def truckV (t : List StopD) (k : Nat) : List Value := (0 :: (t.take k).map (fun s => 1 + s.sat)).map intV
def bikeV (x : InstD) (st : Int) (t : List Int) (k : Nat) : List Value := ((1 + st) :: (t.take k).map (fun c => 1 + x.sats.length + c)).map intV
theorem truckV_succ (t : List StopD) (k : Nat) (h : k < t.length) : truckV t (k + 1) = truckV t k ++ [.int .i64 (1 + t[k].sat)] := by
  unfold truckV; rw [map_take_succ _ _ _ _ h, List.map_append]; rfl
theorem bikeV_succ (x : InstD) (st : Int) (t : List Int) (k : Nat) (h : k < t.length) : bikeV x st t (k + 1) = bikeV x st t k ++ [.int .i64 (1 + x.sats.length + t[k])] := by
  unfold bikeV; rw [map_take_succ _ _ _ _ h, List.map_append]; rfl

theorem info_int : (Try.prog.info? 3).map (fun i => (i.zero, i.size, i.bytes)) = some (some (.int .i64 0), 1, 8) := by kernel_rfl

set_option maxRecDepth 100000 in
set_option maxHeartbeats 1600000 in
theorem truckNodes_c {w : World} {F G : Nat → Prop} {x : InstD} {cs : List Value} {t : List StopD} {v : Value} (h : instS.rep w F x cs) (hl : (sliceS stopS).rep w G t [v]) (hin : ∀ s ∈ t, 0 ≤ s.sat ∧ s.sat ≤ 1000000) (hn : t.length ≤ 1000000) :
    Calls Try.prog 94 #[.agg #[v], .agg cs.toArray] w fun e w' => ∃ u, e = .returned u ∧ (sliceS intS).rep w' (fun b => w.heap.size ≤ b) (truckNodes t) [u] ∧ Below w.heap.size w w' := by
  have hrep := h
  obtain ⟨s, c, co, ti, rfl, -, -, -, -, -⟩ := h
  obtain ⟨a2, b2, off2, c2, hs2, hl2, hc2, ha2, -, hcell2, -⟩ := stops_open hl
  obtain rfl := List.cons.inj hs2 |>.1
  clear hs2 hl
  go_enter Try.func94, Try.ntmps94
  go_wp2
  go_loopw [5, 12] (fun ov i wr => ∃ (k : Nat) (ao : Option Addr) (cp : Nat), k ≤ t.length ∧ i = .int .i64 k ∧ ov = .slice ao (k + 1) cp ∧ wr.ownsRow w.heap.size 3 1 (.slice ao (k + 1) cp) (k + 1) (truckV t k) ∧
      Row wr (w.heap.size + 1) 33 [.int .i64 x.fin, .int .i64 x.tmany, .int .i64 x.troom, .int .i64 x.bmany, .int .i64 x.broom, s, c, co, ti] ∧ Below w.heap.size w wr) (fun _ i _ => t.length - (intOf i).toNat)
  case atStart =>
    refine ⟨0, _, _, Nat.zero_le _, rfl, rfl, ?_, ?_, (((Below.refl _ _).alloc (Nat.le_refl _) _).alloc (by simp) _).alloc (by simp; omega) _⟩
    · have := World.ownsRow_lit (e := 3) (size := 1) (base := w.heap.size) ((w.alloc (.cells #[.slice a2 t.length c2] 108)).alloc (.cells #[.int .i64 x.fin, .int .i64 x.tmany, .int .i64 x.troom, .int .i64 x.bmany, .int .i64 x.broom, s, c, co, ti] 33)) #[.int .i64 0] 1 (by simp; omega) (by decide) rfl
      simpa [truckV, intV] using this
    · exact Row.alloc (Row.new (w := w.alloc (.cells #[.slice a2 t.length c2] 108)) (cs := [.int .i64 x.fin, .int .i64 x.tmany, .int .i64 x.troom, .int .i64 x.bmany, .int .i64 x.broom, s, c, co, ti]) (by simp)) _
  case round =>
    obtain ⟨k, ao, cp, hk, rfl, rfl, hown, R, hb⟩ := hrel
    obtain ⟨wo, rfl⟩ : ∃ wo : World, wo = wr := ⟨_, rfl⟩
    by_cases hlt : k < t.length
    · have hx := idx_at (c := c2) Try.underlying106 sz_stop (ha2 (by omega)) hlt
      have g0 := below_cell hb (hcell2 k hlt).1
      have g1 := below_cell hb (hcell2 k hlt).2
      have i0 := hin _ (List.getElem_mem hlt)
      obtain ⟨sp, hsp⟩ : ∃ sp, sp = t[k] := ⟨_, rfl⟩
      rw [← hsp] at g0 g1 i0
      obtain ⟨st, ld⟩ := sp
      simp only [] at g0 g1 i0
      have HM := hid (truckV_succ t k hlt)
      rw [← hsp] at HM
      have R0 := R.alloc (.cells #[.int .i64 st, .int .i64 ld] 105)
      have hsz := hb.size
      have hb0 := hb.alloc hb.size (.cells #[.int .i64 st, .int .i64 ld] 105)
      have hown0 := hown.alloc (.cells #[.int .i64 st, .int .i64 ld] 105)
      have HO := hid hown0
      obtain ⟨q0, q1, q2, q3, q4, q5, q6, q7, q8⟩ := row9 R0
      clear hcell2 ha2 hsp hin hown R hown0
      go_wp2_with fail
      refine (instSat_c (instS.below hrep hb0) (by omega)).mono ?_
      rintro e w1 ⟨rfl, hb1⟩
      have R1 := R0.below hb1
      have hB1 := below_step hb0 hb1
      have hown1 := owns_below HO.out hb1
      have hs1 := hB1.size
      clear q0 q1 q2 q3 q4 q5 q6 q7 q8 R0
      have HR1 := hid R1
      have HB1 := hid hB1
      obtain ⟨i1, hi, hz0, hz1, hz2⟩ := info_parts info_int
      clear R1 hB1 hb0 hb1
      go_wp2_with (at_builtin; refine wpList_append_own _ rfl _ _ 49 rfl w.heap.size 3 i1 (.int .i64 0) 1 8 Try.underlying49 hi hz0 hz1 hz2 rfl (by decide) _ _ _ rfl (hown1.alloc _) ⟨w1.heap.size, 0, none⟩ 1 1 [.int .i64 (1 + st)] rfl rfl ?c1 ?c2 ?c3 ?c4 ?c5 ?_)
      case c1 => exact cell_one_new _ _ _
      case c2 => intro u hu; simp at hu; subst hu; rfl
      case c3 => unfold maxLen; omega
      case c4 => omega
      case c5 => simp; omega
      intro v' w2 hown' hgrow _
      obtain ⟨ao', cp', hv', -, -⟩ := owns_slice hown'
      subst hv'
      have hR2 := (HR1.out.alloc _).grown (hown1.alloc _) (by decide) hgrow
      have hB2 := below_owned (HB1.out.alloc hs1 _) (hown1.alloc _) (by simp; omega) (Nat.le_refl _) hgrow
      have HOW := hid (show w2.ownsRow w.heap.size 3 1 (.slice ao' (k + 1 + 1) cp') (k + 1 + 1) (truckV t (k + 1)) from by rw [HM.out]; exact hown')
      clear hown' hgrow hown1 hi hz0 hz1 hz2
      go_wp2
      go_roundw
      case rel => exact ⟨k + 1, ao', cp', by omega, by go_num, rfl, HOW.out, hR2, hB2⟩
      case measure => simp [intOf]; omega
    · have hke : k = t.length := by omega
      subst hke
      have hr : (sliceS intS).rep wo (fun b => w.heap.size ≤ b) (truckNodes t) [.slice ao (t.length + 1) cp] := by
        refine owns_ints (T := 3) ?_ ?_
        · have : (truckNodes t).length = t.length + 1 := by simp [truckNodes]
          rw [this]; unfold truckNodes; unfold truckV at hown; rw [List.take_length] at hown; exact hown
        · intro v hv
          simp only [truckNodes, List.mem_cons, List.mem_map] at hv
          rcases hv with rfl | ⟨s, hs, rfl⟩
          · unfold wf64; omega
          · have := hin s hs; unfold wf64; omega
      have HR := hid hr
      clear hr hown hcell2 ha2 hin
      go_wp2
      go_ret
      exact ⟨_, rfl, HR.out, hb⟩

set_option maxRecDepth 100000 in
set_option maxHeartbeats 1600000 in
theorem bikeNodes_c {w : World} {F G : Nat → Prop} {x : InstD} {cs : List Value} {k0 : BikeD} {bs : List Value} (h : instS.rep w F x cs) (hl : bikeS.rep w G k0 bs) (hsl : x.sats.length ≤ 1000000) (hb0 : 0 ≤ k0.sat ∧ k0.sat ≤ 1000000)
    (hin : ∀ c ∈ k0.stops, 0 ≤ c ∧ c ≤ 1000000) (hn : k0.stops.length ≤ 1000000) :
    Calls Try.prog 95 #[.agg bs.toArray, .agg cs.toArray] w fun e w' => ∃ u, e = .returned u ∧ (sliceS intS).rep w' (fun b => w.heap.size ≤ b) (bikeNodes x k0) [u] ∧ Below w.heap.size w w' := by
  have hrep := h
  obtain ⟨s, c, co, ti, rfl, -, -, -, -, -⟩ := h
  obtain ⟨v, rfl, -, hl⟩ := hl
  obtain ⟨st, t⟩ := k0
  simp only [] at hl hb0 hin hn
  obtain ⟨a2, b2, off2, c2, hs2, hl2, hc2, ha2, -, hcell2, -⟩ := ints_open hl
  obtain rfl := List.cons.inj hs2 |>.1
  clear hs2 hl
  have R0 := Row.new (w := w.alloc (.cells #[.int .i64 st, .slice a2 t.length c2] 128)) (g := w.heap.size + 1) (e := 33) (cs := [.int .i64 x.fin, .int .i64 x.tmany, .int .i64 x.troom, .int .i64 x.bmany, .int .i64 x.broom, s, c, co, ti]) (by simp)
  have P0 := (Row.new (w := w) (g := w.heap.size) (e := 128) (cs := [.int .i64 st, .slice a2 t.length c2]) rfl).alloc (.cells #[.int .i64 x.fin, .int .i64 x.tmany, .int .i64 x.troom, .int .i64 x.bmany, .int .i64 x.broom, s, c, co, ti] 33)
  have hbb : Below w.heap.size w ((w.alloc (.cells #[.int .i64 st, .slice a2 t.length c2] 128)).alloc (.cells #[.int .i64 x.fin, .int .i64 x.tmany, .int .i64 x.troom, .int .i64 x.bmany, .int .i64 x.broom, s, c, co, ti] 33)) := ((Below.refl _ _).alloc (Nat.le_refl _) _).alloc (by simp) _
  go_enter Try.func95, Try.ntmps95
  go_wp2_with fail
  refine (instSat_c (instS.below hrep hbb) (by omega)).mono ?_
  rintro e w1 ⟨rfl, hb1⟩
  have R1 := R0.below hb1
  have hB1 := below_step hbb hb1
  have P1 := P0.below hb1
  clear R0 P0 hbb hb1
  obtain ⟨p0, p1⟩ := row2 P1
  have hs1 := hB1.size
  have hz1 := P1.lt
  have hz2 := R1.lt
  go_wp2
  go_loopw [5, 16] (fun ov i wr => ∃ (k : Nat) (ao : Option Addr) (cp : Nat), k ≤ t.length ∧ i = .int .i64 k ∧ ov = .slice ao (k + 1) cp ∧ wr.ownsRow w.heap.size 3 1 (.slice ao (k + 1) cp) (k + 1) (bikeV x st t k) ∧
      Row wr (w.heap.size + 1) 33 [.int .i64 x.fin, .int .i64 x.tmany, .int .i64 x.troom, .int .i64 x.bmany, .int .i64 x.broom, s, c, co, ti] ∧ Below w.heap.size w wr) (fun _ i _ => t.length - (intOf i).toNat)
  case atStart =>
    refine ⟨0, _, _, Nat.zero_le _, rfl, rfl, ?_, R1.alloc _, hB1.alloc hs1 _⟩
    have := World.ownsRow_lit (e := 3) (size := 1) (base := w.heap.size) w1 #[.int .i64 (1 + st)] 1 hs1 (by decide) rfl
    simpa [bikeV, intV] using this
  case round =>
    clear R1 P1 p0 p1 hB1
    obtain ⟨k, ao, cp, hk, rfl, rfl, hown, R, hb⟩ := hrel
    obtain ⟨wo, rfl⟩ : ∃ wo : World, wo = wr := ⟨_, rfl⟩
    by_cases hlt : k < t.length
    · have hx := idx_at1 (c := c2) Try.underlying49 sz_int (ha2 (by omega)) hlt
      have g0 := below_cell hb (hcell2 k hlt)
      have i0 := hin _ (List.getElem_mem hlt)
      obtain ⟨sp, hsp⟩ : ∃ sp, sp = t[k] := ⟨_, rfl⟩
      rw [← hsp] at g0 i0
      have HM := hid (bikeV_succ x st t k hlt)
      rw [← hsp] at HM
      have hsz := hb.size
      have HO := hid hown
      obtain ⟨q0, q1, q2, q3, q4, q5, q6, q7, q8⟩ := row9 R
      clear hcell2 ha2 hsp hin hown
      go_wp2_with fail
      refine (instCust_c (instS.below hrep hb) hsl (by omega)).mono ?_
      rintro e w1 ⟨rfl, hb1⟩
      have R1 := R.below hb1
      have hB1 := below_step hb hb1
      have hown1 := owns_below HO.out hb1
      have hs1 := hB1.size
      clear q0 q1 q2 q3 q4 q5 q6 q7 q8 R
      have HR1 := hid R1
      have HB1 := hid hB1
      obtain ⟨i1, hi, hz0, hz1, hz2⟩ := info_parts info_int
      clear R1 hB1 hb hb1
      go_wp2_with (at_builtin; refine wpList_append_own _ rfl _ _ 49 rfl w.heap.size 3 i1 (.int .i64 0) 1 8 Try.underlying49 hi hz0 hz1 hz2 rfl (by decide) _ _ _ rfl (hown1.alloc _) ⟨w1.heap.size, 0, none⟩ 1 1 [.int .i64 (1 + x.sats.length + sp)] rfl rfl ?c1 ?c2 ?c3 ?c4 ?c5 ?_)
      case c1 => exact cell_one_new _ _ _
      case c2 => intro u hu; simp at hu; subst hu; rfl
      case c3 => unfold maxLen; omega
      case c4 => omega
      case c5 => simp; omega
      intro v' w2 hown' hgrow _
      obtain ⟨ao', cp', hv', -, -⟩ := owns_slice hown'
      subst hv'
      have hR2 := (HR1.out.alloc _).grown (hown1.alloc _) (by decide) hgrow
      have hB2 := below_owned (HB1.out.alloc hs1 _) (hown1.alloc _) (by simp; omega) (Nat.le_refl _) hgrow
      have HOW := hid (show w2.ownsRow w.heap.size 3 1 (.slice ao' (k + 1 + 1) cp') (k + 1 + 1) (bikeV x st t (k + 1)) from by rw [HM.out]; exact hown')
      clear hown' hgrow hown1 hi hz0 hz1 hz2
      go_wp2
      go_roundw
      case rel => exact ⟨k + 1, ao', cp', by omega, by go_num, rfl, HOW.out, hR2, hB2⟩
      case measure => simp [intOf]; omega
    · have hke : k = t.length := by omega
      subst hke
      have hr : (sliceS intS).rep wo (fun b => w.heap.size ≤ b) (bikeNodes x ⟨st, t⟩) [.slice ao (t.length + 1) cp] := by
        refine owns_ints (T := 3) ?_ ?_
        · have : (bikeNodes x ⟨st, t⟩).length = t.length + 1 := by simp [bikeNodes]
          rw [this]; unfold bikeNodes; unfold bikeV at hown; rw [List.take_length] at hown; exact hown
        · intro v hv
          simp only [bikeNodes, List.mem_cons, List.mem_map] at hv
          rcases hv with rfl | ⟨s, hs, rfl⟩
          · unfold wf64; omega
          · have := hin s hs; unfold wf64; omega
      have HR := hid hr
      clear hr hown hcell2 ha2 hin
      go_wp2
      go_ret
      exact ⟨_, rfl, HR.out, hb⟩
end Go.Proofs.Ytafhjfkdlmijdaa
