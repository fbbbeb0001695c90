/- Contracts: graph.Check and graph.Out, of a graph whose arcs lead from lesser nodes to greater ones. -/
import Derived.Test.YtafhjfkdlmijdaaOrder
import Derived.Test.YtafhjfkdlmijdaaGd
import Derived.BigRegion
namespace Go.Proofs.Ytafhjfkdlmijdaa
open Go.RowKit

structure ArcD where
  frm : Nat
  dst : Nat
  wt : Int
  deriving DecidableEq
structure GraphD where
  n : Nat
  arcs : List ArcD
  deriving DecidableEq
def arcV (s : ArcD) : List Value := [.int .i64 s.frm, .int .i64 s.dst, .int .i64 s.wt]
def arcS : Shape ArcD := plainS 3 (fun x cs => cs = arcV x) (by rintro x cs rfl; rfl)
def graphS : Shape GraphD where
  sz := 2
  rep := fun w F x cs => ∃ v, cs = [.int .i64 (x.n : Int), v] ∧ (sliceS arcS).rep w F x.arcs [v]
  len := by rintro w F x cs ⟨v, rfl, _⟩; rfl
  keep := by rintro w w' F x cs ⟨v, rfl, h⟩ ha; exact ⟨v, rfl, (sliceS arcS).keep h ha⟩
  weak := by rintro w F G x cs ⟨v, rfl, h⟩ ha; exact ⟨v, rfl, (sliceS arcS).weak h ha⟩
  lt := by rintro w F x cs ⟨v, rfl, h⟩; exact ⟨v, rfl, (sliceS arcS).lt h⟩
theorem arcs_open {w : World} {F : Nat → Prop} {xs : List ArcD} {cs : List Value} (h : (sliceS arcS).rep w F xs cs) :
    ∃ (a : Option Addr) (b off c : Nat), cs = [.slice a xs.length c] ∧ xs.length ≤ c ∧ c ≤ 9223372036854775807 ∧ (0 < xs.length → a = some ⟨b, off, none⟩) ∧ (0 < xs.length → F b) ∧
      (∀ k (h : k < xs.length), w.cell? ⟨b, off + k * 3, none⟩ = some (.int .i64 xs[k].frm) ∧ w.cell? ⟨b, off + k * 3 + 1, none⟩ = some (.int .i64 xs[k].dst) ∧ w.cell? ⟨b, off + k * 3 + 2, none⟩ = some (.int .i64 xs[k].wt)) := by
  obtain ⟨a, b, off, c, rfl, h1, h2, h3, h4⟩ := h
  refine ⟨a, b, off, c, rfl, h1, h2, fun h => (h3 h).1, fun h => (h3 h).2, fun k hk => ?_⟩
  obtain ⟨es, rfl, hc⟩ := h4 k hk
  have e0 := hc 0 (by decide)
  have e1 := hc 1 (by decide)
  have e2 := hc 2 (by decide)
  exact ⟨by simpa [arcS, plainS, arcV] using e0, by simpa [arcS, plainS, arcV] using e1, by simpa [arcS, plainS, arcV] using e2⟩
theorem sz_arc : ∀ w, (sizeOf 188).run Try.prog w = .ok 3 w := fun w => by kernel_rfl
/-- Arcs lead forward. -/
structure GGood (g : GraphD) : Prop where
  n : g.n ≤ 1000
  len : g.arcs.length ≤ 20000
  arc : ∀ a ∈ g.arcs, a.frm < a.dst ∧ a.dst < g.n ∧ 0 ≤ a.wt ∧ a.wt ≤ 1099511627776
theorem has_c {w : World} {n : Nat} {v : Value} {i : Nat} (hi : i < n) :
    Calls Try.prog 117 #[.agg #[.int .i64 (n : Int), v], .int .i64 (i : Int)] w fun e w' => e = .returned (.bool true) ∧ Below w.heap.size w w' := by
  have h1 : (i : Int) < (n : Int) := by omega
  have h0 : (0 : Int) ≤ (i : Int) := by omega
  go_enter Try.func117, Try.ntmps117
  go_wp2
  go_ret
  exact ⟨rfl, (Below.refl _ _).alloc (Nat.le_refl _) _⟩
set_option maxRecDepth 100000 in
set_option maxHeartbeats 1600000 in
theorem graphCheck_c {w : World} {F : Nat → Prop} {g : GraphD} {cs : List Value} (h : graphS.rep w F g cs) (hg : GGood g) :
    Calls Try.prog 104 #[.agg cs.toArray] w fun e w' => e = .returned (.int .i64 0) ∧ Below w.heap.size w w' := by
  obtain ⟨v, rfl, h⟩ := h
  obtain ⟨a, b, off, c, hs, -, -, ha, -, hcell⟩ := arcs_open h
  obtain rfl := List.cons.inj hs |>.1
  have HCELL := hid hcell
  have HG := hid hg
  have hn : (g.n : Int) ≤ 1000 := by have := hg.n; omega
  have hl : (g.arcs.length : Int) ≤ 20000 := by have := hg.len; omega
  clear hs h hcell hg
  go_enter Try.func104, Try.ntmps104
  go_wp2
  go_loopw [22] (fun i wr => ∃ k : Nat, k ≤ g.arcs.length ∧ i = .int .i64 k ∧ Below w.heap.size w wr ∧ Row wr w.heap.size 150 [.int .i64 (g.n : Int), .slice a g.arcs.length c]) (fun i _ => g.arcs.length - (intOf i).toNat)
  case atStart => exact ⟨0, Nat.zero_le _, rfl, (Below.refl _ _).alloc (Nat.le_refl _) _, Row.new rfl⟩
  case round =>
    obtain ⟨k, hk, rfl, hb, R⟩ := hrel
    obtain ⟨wq, rfl⟩ : ∃ wq : World, wq = wr := ⟨_, rfl⟩
    by_cases hlt : k < g.arcs.length
    · have hx := idx_at (c := c) Try.underlying148 sz_arc (ha (by omega)) hlt
      obtain ⟨g0, g1, g2⟩ := HCELL.out k hlt
      have p0 := below_cell hb g0
      have p1 := below_cell hb g1
      have p2 := below_cell hb g2
      obtain ⟨f1, f2, f3, f4⟩ := HG.out.arc _ (List.getElem_mem hlt)
      obtain ⟨ar, har⟩ : ∃ ar, ar = g.arcs[k] := ⟨_, rfl⟩
      rw [← har] at p0 p1 p2 f1 f2 f3 f4
      obtain ⟨x1, x2, x3⟩ := ar
      simp only [] at p0 p1 p2 f1 f2 f3 f4
      have hal : Below wq.heap.size wq (wq.alloc (.cells #[.int .i64 (x1 : Int), .int .i64 (x2 : Int), .int .i64 x3] 188)) := (Below.refl _ _).alloc (Nat.le_refl _) _
      have RA := Row.new (w := wq) (g := wq.heap.size) (e := 188) (cs := [.int .i64 (x1 : Int), .int .i64 (x2 : Int), .int .i64 x3]) rfl
      have R1 := R.below hal
      have hb1 := below_step hb hal
      clear har g0 g1 g2
      go_upto_region 6 with fail
      generalize wq.alloc (.cells #[.int .i64 (x1 : Int), .int .i64 (x2 : Int), .int .i64 x3] 188) = wa at *
      obtain ⟨q0, q1⟩ := row2 R1
      have a0 := RA.cell (j := 0) (by simp)
      have a1 := RA.cell (j := 1) (by simp)
      have a2 := RA.cell (j := 2) (by simp)
      simp only [List.getElem_cons_zero, List.getElem_cons_succ] at a0 a1 a2
      go_wp2_with fail
      refine (has_c (by omega)).mono ?_
      rintro e w1 ⟨rfl, hb2⟩
      have RA1 := RA.below hb2
      have R2 := R1.below hb2
      obtain ⟨q0, q1⟩ := row2 R2
      have a0 := RA1.cell (j := 0) (by simp)
      have a1 := RA1.cell (j := 1) (by simp)
      have a2 := RA1.cell (j := 2) (by simp)
      simp only [List.getElem_cons_zero, List.getElem_cons_succ] at a0 a1 a2
      go_wp2_with fail
      refine (has_c f2).mono ?_
      rintro e w2 ⟨rfl, hb3⟩
      have RA2 := RA1.below hb3
      have R3 := R2.below hb3
      have hb4 := below_step (below_step hb1 hb2) hb3
      have a2 := RA2.cell (j := 2) (by simp)
      simp only [List.getElem_cons_zero, List.getElem_cons_succ] at a2
      clear R R1 R2 RA RA1 RA2 hb1 hb2 hb3 hal q0 q1 p0 p1 p2
      go_wp2
      go_roundw
      case rel => exact ⟨k + 1, by omega, by go_num, hb4, R3⟩
      case measure => simp [intOf]; omega
    · have hke : k = g.arcs.length := by omega
      subst hke
      go_wp2
      go_ret
      exact ⟨rfl, hb⟩
/-- The arcs from a node, of the first so many. -/
def arcAt (g : GraphD) (k : Nat) : ArcD := g.arcs.getD k ⟨0, 0, 0⟩
def outUp (g : GraphD) (i k : Nat) : List Nat := (List.range k).filter fun j => (arcAt g j).frm == i
def natV (k : Nat) : Value := .int .i64 (k : Int)
theorem outUp_yes {g : GraphD} {i k : Nat} (h : (arcAt g k).frm = i) : outUp g i (k + 1) = outUp g i k ++ [k] := by
  unfold outUp; rw [List.range_succ, List.filter_append]; simp [h]
theorem outUp_no {g : GraphD} {i k : Nat} (h : (arcAt g k).frm ≠ i) : outUp g i (k + 1) = outUp g i k := by
  unfold outUp; rw [List.range_succ, List.filter_append]; simp [h]
theorem outUp_len (g : GraphD) (i k : Nat) : (outUp g i k).length ≤ k := by
  have := List.length_filter_le (fun j => (arcAt g j).frm == i) (List.range k); rw [List.length_range] at this; exact this
theorem arcAt_get {g : GraphD} {k : Nat} (h : k < g.arcs.length) : arcAt g k = g.arcs[k] := by
  unfold arcAt; rw [List.getD_eq_getElem?_getD, List.getElem?_eq_getElem h]; rfl
set_option maxRecDepth 100000 in
set_option maxHeartbeats 1600000 in
theorem graphOut_c {w : World} {F : Nat → Prop} {g : GraphD} {cs : List Value} (h : graphS.rep w F g cs) (hl : g.arcs.length ≤ 20000) (i : Nat) :
    Calls Try.prog 108 #[.agg cs.toArray, .int .i64 (i : Int)] w fun e w' => ∃ v, e = .returned v ∧ w'.ownsRow w.heap.size 3 1 v (outUp g i g.arcs.length).length ((outUp g i g.arcs.length).map natV) ∧ Below w.heap.size w w' := by
  obtain ⟨v, rfl, h⟩ := h
  obtain ⟨a, b, off, c, hs, -, -, ha, -, hcell⟩ := arcs_open h
  obtain rfl := List.cons.inj hs |>.1
  have HCELL := hid hcell
  have hli : (g.arcs.length : Int) ≤ 20000 := by omega
  clear hs h hcell
  go_enter Try.func108, Try.ntmps108
  go_wp2
  go_loopw [5, 11] (fun ov kv wr => ∃ (k : Nat) (ao : Option Addr) (cp : Nat), k ≤ g.arcs.length ∧ kv = .int .i64 k ∧ ov = .slice ao (outUp g i k).length cp ∧ wr.ownsRow w.heap.size 3 1 (.slice ao (outUp g i k).length cp) (outUp g i k).length ((outUp g i k).map natV) ∧
      Below w.heap.size w wr ∧ Row wr w.heap.size 150 [.int .i64 (g.n : Int), .slice a g.arcs.length c]) (fun _ kv _ => g.arcs.length - (intOf kv).toNat)
  case atStart => exact ⟨0, none, 0, Nat.zero_le _, rfl, rfl, World.ownsRow_nil _ _ _ _, (Below.refl _ _).alloc (Nat.le_refl _) _, Row.new rfl⟩
  case round =>
    obtain ⟨k, ao, cp, hk, rfl, rfl, hown, hb, R⟩ := hrel
    obtain ⟨wq, rfl⟩ : ∃ wq : World, wq = wr := ⟨_, rfl⟩
    by_cases hlt : k < g.arcs.length
    · have hx := idx_at (c := c) Try.underlying148 sz_arc (ha (by omega)) hlt
      obtain ⟨g0, g1, g2⟩ := HCELL.out k hlt
      have p0 := below_cell hb g0
      have p1 := below_cell hb g1
      have p2 := below_cell hb g2
      obtain ⟨ar, har⟩ : ∃ ar, ar = g.arcs[k] := ⟨_, rfl⟩
      have har2 : arcAt g k = ar := by rw [har]; exact arcAt_get hlt
      rw [← har] at p0 p1 p2
      obtain ⟨x1, x2, x3⟩ := ar
      simp only [] at p0 p1 p2
      have hal : Below wq.heap.size wq (wq.alloc (.cells #[.int .i64 (x1 : Int), .int .i64 (x2 : Int), .int .i64 x3] 188)) := (Below.refl _ _).alloc (Nat.le_refl _) _
      have HR1 := hid (R.below hal)
      have HB1 := hid (below_step hb hal)
      have HO1 := hid (owns_below hown hal)
      have hsz := hb.size
      have hol := outUp_len g i k
      by_cases e : x1 = i
      · have e1 : ((x1 : Int) == (i : Int)) = true := by simp [e]
        have HU := hid (outUp_yes (g := g) (i := i) (k := k) (by rw [har2]; exact e))
        clear har har2 g0 g1 g2 R hown hb e hal
        obtain ⟨i1, hi, hz0', hz1', hz2'⟩ := info_parts info_int
        obtain ⟨ol, hole⟩ : ∃ ol, ol = (outUp g i k).length := ⟨_, rfl⟩
        rw [← hole] at HO1 hol ⊢
        have HOL := hid hole
        clear hole
        go_upto_region 6 with fail
        generalize wq.alloc (.cells #[.int .i64 (x1 : Int), .int .i64 (x2 : Int), .int .i64 x3] 188) = wa at *
        have hown1 := HO1.out.alloc (.cells #[.int .i64 k] 3)
        have hwa := HB1.out.size
        go_wp2_with (at_builtin; refine wpList_append_own _ rfl _ _ 49 rfl w.heap.size 3 i1 (.int .i64 0) 1 8 Try.underlying49 hi hz0' hz1' hz2' rfl (by decide) _ _ _ rfl hown1 ⟨wa.heap.size, 0, none⟩ 1 1 [.int .i64 (k : Int)] rfl rfl ?c1 ?c2 ?c3 ?c4 ?c5 ?_)
        case c1 => exact cell_one_new _ _ _
        case c2 => intro u hu; simp at hu; subst hu; rfl
        case c3 => unfold maxLen; omega
        case c4 => omega
        case c5 => simp; omega
        intro v' w2 hown' hgrow _
        obtain ⟨ao', cp', hv', -, -⟩ := owns_slice hown'
        subst hv'
        have HB2 := hid (below_owned (w := wa.alloc (.cells #[.int .i64 k] 3)) (HB1.out.alloc hwa _) hown1 (by simp; omega) (Nat.le_refl _) hgrow)
        have HR2 := hid ((HR1.out.alloc (.cells #[.int .i64 k] 3)).grown hown1 (by decide) hgrow)
        have HO2 := hid (show w2.ownsRow w.heap.size 3 1 (.slice ao' (outUp g i (k + 1)).length cp') (outUp g i (k + 1)).length ((outUp g i (k + 1)).map natV) from by
          rw [HU.out, List.length_append, List.length_singleton, ← HOL.out, List.map_append]; exact hown')
        have HL := hid (show ol + 1 = (outUp g i (k + 1)).length from by rw [HU.out, List.length_append, List.length_singleton, ← HOL.out])
        clear hown' hgrow hown1 hi hz0' hz1' hz2'
        go_wp2
        go_roundw
        case rel => exact ⟨k + 1, ao', cp', by omega, by go_num, by rw [HL.out], HO2.out, HB2.out, HR2.out⟩
        case measure => simp [intOf]; omega
      · have e1 : ((x1 : Int) == (i : Int)) = false := by simp; omega
        have HU := hid (outUp_no (g := g) (i := i) (k := k) (by rw [har2]; exact e))
        clear har har2 g0 g1 g2 R hown hb e hal
        obtain ⟨ol, hole⟩ : ∃ ol, ol = outUp g i k := ⟨_, rfl⟩
        rw [← hole] at HO1 hol HU ⊢
        clear hole
        go_wp2
        go_roundw
        case rel => exact ⟨k + 1, ao, cp, by omega, by go_num, by rw [HU.out], by rw [HU.out]; exact HO1.out, HB1.out, HR1.out⟩
        case measure => simp [intOf]; omega
    · have hke : k = g.arcs.length := by omega
      subst hke
      go_wp2
      go_ret
      exact ⟨_, rfl, hown, hb⟩
end Go.Proofs.Ytafhjfkdlmijdaa
