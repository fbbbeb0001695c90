/- Contracts: the two methods of wharfage/clock's drafter. -/
import Derived.Test.YtafhjfkdlmijdaaGraph
import Derived.Test.YtafhjfkdlmijdaaGg
import Derived.Test.YtafhjfkdlmijdaaGh
namespace Go.Proofs.Ytafhjfkdlmijdaa
open Go.RowKit

/-- What changes is of these types, or lies at B or behind; nothing below. -/
structure Mut (ts : List TypeId) (B : Nat) (w w' : World) : Prop where
  bel : Below B w w'
  old : ∀ (b : Nat) (cs : Array Value) (e : TypeId) (fz : Nat × Nat), w.heap[b]? = some (.cells cs e fz) → e ∉ ts → w'.heap[b]? = some (.cells cs e fz)
section
variable {ts : List TypeId} {B : Nat} {w w1 w' : World}
theorem Mut.refl (ts : List TypeId) (B : Nat) (w : World) : Mut ts B w w := ⟨Below.refl _ _, fun _ _ _ _ h _ => h⟩
theorem Mut.trans (h : Mut ts B w w1) (k : Mut ts B w1 w') : Mut ts B w w' := ⟨h.bel.trans k.bel, fun b cs e fz hb h1 => k.old b cs e fz (h.old b cs e fz hb h1) h1⟩
theorem Mut.of_grown {row : Option Nat} (hg : w.grownBy w' row) (hB : B ≤ w.heap.size) (hr : ∀ b, row = some b → B ≤ b ∧ ∃ cs e fz, w.heap[b]? = some (.cells cs e fz) ∧ e ∈ ts) : Mut ts B w w' := by
  refine ⟨(Below.refl B w).grown hg hB (fun k hk => (hr k hk).1), fun b cs e fz hb h1 => ?_⟩
  rw [hg.block b (Array.getElem?_eq_some_iff.1 hb).1 (fun e' => ?_)]
  · exact hb
  · obtain ⟨-, cs', e'', fz', hb', ht⟩ := hr b e'.symm
    rw [hb] at hb'
    simp only [Option.some.injEq, Obj.cells.injEq] at hb'
    obtain ⟨-, rfl, -⟩ := hb'
    exact h1 ht
theorem Mut.below (hb : Below w.heap.size w w') (hB : B ≤ w.heap.size) : Mut ts B w w' :=
  .of_grown (row := none) ⟨hb.os, hb.tape, hb.output, hb.size, fun k hk _ => hb.block k hk⟩ hB fun _ h => by cases h
theorem Mut.set {g : Nat} {e : TypeId} {cs : List Value} (h : Row w g e cs) (he : e ∈ ts) (hB : B ≤ g) (j : Nat) (u : Value) : Mut ts B w (w.setCell ⟨g, j, none⟩ u) := by
  have hl := h.lt
  obtain ⟨cur, rest, h1, -⟩ := h
  exact .of_grown (grown_set w ⟨g, j, none⟩ u) (by omega) fun b hb => by
    obtain rfl := Option.some.inj hb
    exact ⟨hB, cur, e, (0, 0), h1, he⟩
theorem Mut.append {B' k n T : Nat} {v : Value} {xs : List Value} (h : w.ownsRow B' T k v n xs) (hT : T ∈ ts) (hg : w.grownBy w' v.ownBlock) (hB : B ≤ w.heap.size) (hB' : B ≤ B') : Mut ts B w w' :=
  .of_grown hg hB fun b hb => by
    have hl := h.lt b hb
    obtain ⟨cs, cur, rest, h1, -⟩ := ownBlock_row h hb
    exact ⟨by omega, cur, T, _, h1, hT⟩
theorem Mut.row {g : Nat} {e : TypeId} {cs : List Value} (h : Mut ts B w w') (hr : Row w g e cs) (h1 : e ∉ ts) : Row w' g e cs := by
  obtain ⟨cur, rest, h3, h4⟩ := hr
  exact ⟨cur, rest, h.old _ _ _ _ h3 h1, h4⟩
theorem Mut.owns {B' e k n : Nat} {v : Value} {xs : List Value} (h : Mut ts B w w') (hr : w.ownsRow B' e k v n xs) (h1 : e ∉ ts) : w'.ownsRow B' e k v n xs := by
  refine ⟨hr.1, ?_⟩
  rcases hr.2 with hn | ⟨g, cap, cur, rfl, hb, hgg, rest⟩
  · exact .inl hn
  · exact .inr ⟨g, cap, cur, rfl, hb, h.old _ _ _ _ hgg h1, rest⟩
theorem Mut.drew (h : Mut ts B w w') : Mut ts B w w'.drew := ⟨h.bel.drew, h.old⟩
end
def dts : List TypeId := [188, 2, 178]
/-- A drafter, in memory laid at B or behind. -/
def DOwn (w : World) (B qd : Nat) (fr : List Int) (arcs : List ArcD) : Prop :=
  ∃ aa ca af cf, Row w qd 178 [.int .i64 (fr.length : Int), .slice aa arcs.length ca, .slice af fr.length cf] ∧ w.ownsRow B 188 3 (.slice aa arcs.length ca) arcs.length (arcs.flatMap arcV) ∧
    w.ownsRow B 2 1 (.slice af fr.length cf) fr.length (fr.map intV) ∧ B ≤ qd
theorem DOwn.below {w w' : World} {B qd : Nat} {fr : List Int} {arcs : List ArcD} (h : DOwn w B qd fr arcs) (hb : Below w.heap.size w w') : DOwn w' B qd fr arcs := by
  obtain ⟨aa, ca, af, cf, R, O1, O2, hq⟩ := h
  exact ⟨aa, ca, af, cf, R.below hb, owns_below O1 hb, owns_below O2 hb, hq⟩
theorem DOwn.le {w : World} {B qd : Nat} {fr : List Int} {arcs : List ArcD} (h : DOwn w B qd fr arcs) : B ≤ w.heap.size := by
  obtain ⟨aa, ca, af, cf, R, O1, O2, hq⟩ := h
  have := R.lt; omega
theorem info_arc : (Try.prog.info? 188).map (fun i => (i.zero, i.size, i.bytes)) = some (some (.agg #[.int .i64 0, .int .i64 0, .int .i64 0]), 3, 24) := by kernel_rfl
set_option maxRecDepth 100000 in
set_option maxHeartbeats 800000 in
theorem event_c {w : World} {B qd : Nat} {fr : List Int} {arcs : List ArcD} (h : DOwn w B qd fr arcs) (hl : fr.length ≤ 100000) (f : Int) :
    Calls Try.prog 102 #[.pointer (some ⟨qd, 0, none⟩), .int .i64 f] w fun e w' => e = .returned (.int .i64 (fr.length : Int)) ∧ DOwn w' B qd (fr ++ [f]) arcs ∧ Mut dts B w w' := by
  have hB := h.le
  obtain ⟨aa, ca, af, cf, R, O1, O2, hq⟩ := h
  have c2 := R.cell (j := 2) (by simp)
  simp only [List.getElem_cons_zero, List.getElem_cons_succ] at c2
  have hlb : (fr.length : Int) ≤ 100000 := by omega
  obtain ⟨n, hn⟩ : ∃ n, n = fr.length := ⟨_, rfl⟩
  rw [← hn] at R O2 c2 hlb ⊢
  have HN := hid hn
  have hown1 := O2.alloc (.cells #[.int .i64 f] 2)
  have R1 := R.alloc (.cells #[.int .i64 f] 2)
  have HO1 := hid (O1.alloc (.cells #[.int .i64 f] 2))
  have HM1 := hid (Mut.below (ts := dts) (B := B) ((Below.refl w.heap.size w).alloc (Nat.le_refl _) (.cells #[.int .i64 f] 2)) hB)
  obtain ⟨i1, hi, hi0, hi1, hi2⟩ := info_parts info_i64
  clear hn hl
  go_enter Try.func102, Try.ntmps102
  go_wp2_with (at_builtin; refine wpList_append_own _ rfl _ _ 34 rfl B 2 i1 (.int .i64 0) 1 8 Try.underlying34 hi hi0 hi1 hi2 rfl (by decide) _ _ _ rfl hown1 ⟨w.heap.size, 0, none⟩ 1 1 [.int .i64 f] rfl rfl ?k1 ?k2 ?k3 ?k4 ?k5 ?_)
  case k1 => exact cell_one_new _ _ _
  case k2 => first | rfl | (intro u hu; simp at hu; subst hu; rfl)
  case k3 => unfold maxLen; omega
  case k4 => omega
  case k5 => first | omega | (simp; omega)
  intro v' w2 hown' hgrow _
  obtain ⟨ao', cp', hv', -, -⟩ := owns_slice hown'
  subst hv'
  have R2 := R1.grown hown1 (by decide) hgrow
  have HO2 := hid (HO1.out.kept hgrow (own_type HO1.out hown1 (by decide)))
  have HM2 := hid (HM1.out.trans (Mut.append hown1 (by decide) hgrow (by simp; omega) (Nat.le_refl _)))
  have d2 := R2.cell (j := 2) (by simp)
  have f2 := R2.frozen 2
  simp only [List.getElem_cons_zero, List.getElem_cons_succ] at d2
  have R3 := R2.set (j := 2) (by simp) (.slice ao' (n + 1) cp')
  have HO3 := hid (owns_setApart HO2.out R2 (by decide) 2 (.slice ao' (n + 1) cp'))
  have HOF3 := hid (owns_setApart hown' R2 (by decide) 2 (.slice ao' (n + 1) cp'))
  have HM3 := hid (HM2.out.trans (Mut.set R2 (by decide) hq 2 (.slice ao' (n + 1) cp')))
  clear hown' hgrow hown1 hi hi0 hi1 hi2 R R1 O1 O2 c2
  go_upto_region 2 with fail
  generalize w2.setCell ⟨qd, 2, none⟩ (.slice ao' (n + 1) cp') = w3 at R3 HO3 HOF3 HM3 ⊢
  have d0 := R3.cell (j := 0) (by simp)
  have f0 := R3.frozen 0
  simp only [List.set_cons_zero, List.set_cons_succ, List.getElem_cons_zero] at d0 R3
  have R4 := R3.set (j := 0) (by simp) (.int .i64 ((n : Int) + 1))
  have HO4 := hid (owns_setApart HO3.out R3 (by decide) 0 (.int .i64 ((n : Int) + 1)))
  have HOF4 := hid (owns_setApart HOF3.out R3 (by decide) 0 (.int .i64 ((n : Int) + 1)))
  have HM4 := hid (HM3.out.trans (Mut.set R3 (by decide) hq 0 (.int .i64 ((n : Int) + 1))))
  clear d2 f2 R2
  go_upto_region 3 with fail
  generalize w3.setCell ⟨qd, 0, none⟩ (.int .i64 ((n : Int) + 1)) = w4 at R4 HO4 HOF4 HM4 ⊢
  have g0 := R4.cell (j := 0) (by simp)
  simp only [List.set_cons_zero, List.getElem_cons_zero] at g0 R4
  have HD := hid (show DOwn w4 B qd (fr ++ [f]) arcs from by
    have e : (fr ++ [f]).length = n + 1 := by rw [List.length_append, List.length_singleton, HN.out]
    refine ⟨aa, ca, ao', cp', ?_, HO4.out, ?_, hq⟩
    · rw [e]; push_cast; exact R4
    · rw [e, List.map_append]; exact HOF4.out)
  clear d0 f0 R3 R4
  go_wp2
  go_ret
  exact ⟨by simp, HD.out, HM4.out⟩
set_option maxRecDepth 100000 in
set_option maxHeartbeats 800000 in
theorem behind_c {w : World} {B qd : Nat} {fr : List Int} {arcs : List ArcD} (h : DOwn w B qd fr arcs) (hl : arcs.length ≤ 100000) (s : ArcD) :
    Calls Try.prog 103 #[.pointer (some ⟨qd, 0, none⟩), .int .i64 (s.frm : Int), .int .i64 (s.dst : Int), .int .i64 s.wt] w fun e w' => e = .returned (.tuple #[]) ∧ DOwn w' B qd fr (arcs ++ [s]) ∧ Mut dts B w w' := by
  have hB := h.le
  obtain ⟨aa, ca, af, cf, R, O1, O2, hq⟩ := h
  obtain ⟨s1, s2, s3⟩ := s
  simp only []
  have c1 := R.cell (j := 1) (by simp)
  simp only [List.getElem_cons_zero, List.getElem_cons_succ] at c1
  have hlb : (arcs.length : Int) ≤ 100000 := by omega
  obtain ⟨n, hn⟩ : ∃ n, n = arcs.length := ⟨_, rfl⟩
  rw [← hn] at R O1 c1 hlb
  have HN := hid hn
  have hown1 := O1.alloc (.cells #[.int .i64 (s1 : Int), .int .i64 (s2 : Int), .int .i64 s3] 188)
  have R1 := R.alloc (.cells #[.int .i64 (s1 : Int), .int .i64 (s2 : Int), .int .i64 s3] 188)
  have HO1 := hid (O2.alloc (.cells #[.int .i64 (s1 : Int), .int .i64 (s2 : Int), .int .i64 s3] 188))
  have HM1 := hid (Mut.below (ts := dts) (B := B) ((Below.refl w.heap.size w).alloc (Nat.le_refl _) (.cells #[.int .i64 (s1 : Int), .int .i64 (s2 : Int), .int .i64 s3] 188)) hB)
  obtain ⟨i1, hi, hi0, hi1, hi2⟩ := info_parts info_arc
  clear hn hl
  go_enter Try.func103, Try.ntmps103
  go_wp2_with (at_builtin; refine wpList_append_own _ rfl _ _ 148 rfl B 188 i1 (.agg #[.int .i64 0, .int .i64 0, .int .i64 0]) 3 24 Try.underlying148 hi hi0 hi1 hi2 rfl (by decide) _ _ _ rfl hown1 ⟨w.heap.size, 0, none⟩ 1 1 [.int .i64 (s1 : Int), .int .i64 (s2 : Int), .int .i64 s3] rfl rfl ?k1 ?k2 ?k3 ?k4 ?k5 ?_)
  case k1 => exact cells_new (cs := [.int .i64 (s1 : Int), .int .i64 (s2 : Int), .int .i64 s3]) rfl _
  case k2 => intro u hu; simp at hu; rcases hu with rfl | rfl | rfl <;> rfl
  case k3 => unfold maxLen; omega
  case k4 => omega
  case k5 => first | omega | (simp; omega)
  intro v' w2 hown' hgrow _
  obtain ⟨ao', cp', hv', -, -⟩ := owns_slice hown'
  subst hv'
  have R2 := R1.grown hown1 (by decide) hgrow
  have HO2 := hid (HO1.out.kept hgrow (own_type HO1.out hown1 (by decide)))
  have HM2 := hid (HM1.out.trans (Mut.append hown1 (by decide) hgrow (by simp; omega) (Nat.le_refl _)))
  have d1 := R2.cell (j := 1) (by simp)
  have f1 := R2.frozen 1
  simp only [List.getElem_cons_zero, List.getElem_cons_succ] at d1
  have R3 := R2.set (j := 1) (by simp) (.slice ao' (n + 1) cp')
  simp only [List.set_cons_zero, List.set_cons_succ] at R3
  have HD := hid (show DOwn (w2.setCell ⟨qd, 1, none⟩ (.slice ao' (n + 1) cp')) B qd fr (arcs ++ [⟨s1, s2, s3⟩]) from by
    have e : (arcs ++ [(⟨s1, s2, s3⟩ : ArcD)]).length = n + 1 := by rw [List.length_append, List.length_singleton, HN.out]
    refine ⟨ao', cp', af, cf, ?_, ?_, owns_setApart HO2.out R2 (by decide) _ _, hq⟩
    · rw [e]; exact R3
    · rw [e, List.flatMap_append]
      exact owns_setApart hown' R2 (by decide) _ _)
  have HM3 := hid (HM2.out.trans (Mut.set R2 (by decide) hq 1 (.slice ao' (n + 1) cp')))
  clear hown' hgrow hown1 hi hi0 hi1 hi2 R R1 O1 O2 c1 R3 R2
  go_wp2
  go_end0
  exact ⟨rfl, HD.out, HM3.out⟩
end Go.Proofs.Ytafhjfkdlmijdaa
