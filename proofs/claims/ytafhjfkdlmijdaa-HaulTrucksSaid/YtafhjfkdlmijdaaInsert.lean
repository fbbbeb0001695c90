/- Contract: slices.Insert of one int, in a row of one's own. -/
import Derived.Test.YtafhjfkdlmijdaaInsRow
namespace Go.Proofs
open Go.Shelf
def Try.insRen : Go.Shelf.Ren := ⟨fun | 21 => 28 | 27 => 63 | 28 => 64 | 35 => 96 | 39 => 114 | n => n, fun | 22 => 49 | 3 => 3 | 4 => 4 | 0 => 0 | n => n, fun | n => n⟩
theorem Try.insLays : Go.Proofs.Lays2.n21 Try.prog Try.insRen := {
  mixed := by kernel_rfl
  f21 := Try.func28.trans (congrArg some (by kernel_rfl))
  f27 := Try.func63.trans (congrArg some (by kernel_rfl))
  f28 := Try.func64.trans (congrArg some (by kernel_rfl))
  f35 := Try.func96.trans (congrArg some (by kernel_rfl))
  f39 := Try.func114.trans (congrArg some (by kernel_rfl))
  t0 := Try.underlying0
  a0 := Try.isAgg0
  z0 := Try.sizeOf0
  v0 := Try.zeroValue0
  t3 := Try.underlying3
  a3 := Try.isAgg3
  z3 := Try.sizeOf3
  v3 := Try.zeroValue3
  t4 := Try.underlying4
  a4 := Try.isAgg4
  z4 := Try.sizeOf4
  v4 := Try.zeroValue4
  t22 := Try.underlying49
  a22 := Try.isAgg49
  z22 := Try.sizeOf49
  v22 := Try.zeroValue49
  i3 := by kernel_rfl }
namespace Ytafhjfkdlmijdaa
open Go.RowKit

theorem insert_c {w : World} {B n i vb : Nat} {v : Value} {xs : List Value} {x : Value} (h : w.ownsRow B 3 1 v n xs) (hB : B ≤ w.heap.size) (hi : i ≤ n) (hn : n < 1000000) (h1 : ∀ u ∈ xs, u.oneCell' = true) (hx : x.oneCell' = true)
    (hv : w.heap[vb]? = some (.cells #[x] 3 (0, 0))) (hne : some vb ≠ v.ownBlock) :
    Calls Try.prog 28 #[v, .int .i64 i, .slice (some ⟨vb, 0, none⟩) 1 1] w fun e w' => ∃ u, e = .returned u ∧ w'.ownsRow B 3 1 u (n + 1) (xs.take i ++ x :: xs.drop i) ∧ w.grownBy w' v.ownBlock := by
  have hxl : xs.length = n := by rw [h.1, Nat.mul_one]
  have hvs : ∀ j u, [x][j]? = some u → w.cell? ⟨vb, 0 + j, none⟩ = some u := fun j u hj => by
    rw [cell_of hv, Nat.zero_add]
    simpa using hj
  have h1x : ∀ u ∈ [x], u.oneCell' = true := fun u hu => by simp at hu; rw [hu]; exact hx
  obtain ⟨-, h2⟩ := h
  rcases h2 with ⟨rfl, rfl⟩ | ⟨g, cap, cur, rfl, hg, hh, hnc, hcm, hcs, ht⟩
  · obtain rfl : i = 0 := by omega
    obtain rfl := List.eq_nil_of_length_eq_zero hxl
    refine (Any2.slices_Insert_int_end_grow Try.insLays none 0 0 vb 0 1 1 [] [x] w (by decide) (by decide) (by decide) (by decide) rfl rfl (fun _ => rfl) (fun a ha => by cases ha) hvs h1x).mono ?_
    rintro e w' ⟨rfl, rfl⟩
    have hge := grownCap_ge w (0 + 1) 0 (Try.insRen.t 3)
    have hle := grownCap_le_maxLen w (0 + 1) 0 (Try.insRen.t 3) (by decide)
    generalize grownCap w (0 + 1) 0 (Try.insRen.t 3) = G at *
    refine ⟨_, rfl, ?_, grown_step (grown_drew w _) (grown_alloc _ _ _)⟩
    refine owns_ins (n := 0) (i := 0) (xs := []) (x := x) (R := (Builtin.zeroCells (Value.int .i64 0).cells (G - (0 + 1))).toList) hB rfl (Nat.le_refl _) (by omega) hle (heap_alloc_new w.drew _) ?_ (by simp)
    simp [Builtin.zeroCells, Value.cells]; omega
  · rw [Nat.mul_one] at hcs ht
    have hsp : ∀ k, k < cap → (w.cell? ⟨g, 0 + k, none⟩).isSome = true := fun k hk => by
      rw [cell_of hh, Nat.zero_add, Array.getElem?_eq_getElem (by omega)]; rfl
    have hfz : ∀ k, w.frozen? ⟨g, 0 + k, none⟩ = false := fun k => frozen_of hh
    have hcl : ∀ j u, xs[j]? = some u → w.cell? ⟨g, 0 + j, none⟩ = some u := fun j u hj => by
      rw [cell_of hh, Nat.zero_add, ← Array.getElem?_toList]
      rw [← ht, List.getElem?_take] at hj
      split at hj
      · exact hj
      · cases hj
    have hvg : vb ≠ g := fun e => hne (by rw [e]; rfl)
    have hcur : cur.toList = xs ++ cur.toList.drop n := by rw [← ht, List.take_append_drop]
    have hrl : (cur.toList.drop n).length = cap - n := by rw [List.length_drop, Array.length_toList, hcs]
    generalize cur.toList.drop n = R at hcur hrl
    have hml : (9223372036854775807 : Nat) ≥ maxLen := by unfold maxLen; omega
    by_cases hroom : n + 1 ≤ cap
    · obtain ⟨r, R', rfl⟩ : ∃ r R', R = r :: R' := by
        cases R with
        | nil => simp at hrl; omega
        | cons r R' => exact ⟨r, R', rfl⟩
      by_cases hin : i < n
      · refine (Any2.slices_Insert_int_shift Try.insLays g 0 n cap i vb 0 1 1 xs [x] w hin (by decide) hroom (by omega) hvg hxl rfl hcl (fun j hj => hsp j (by omega)) (fun j _ => hfz j) hvs h1 h1x _ _ _ _ (shape_of hv) (shape_of hh) (by omega) (frozen_of hv) (frozen_of hv)).mono ?_
        rintro e w' ⟨rfl, rfl⟩
        obtain ⟨q, Q, hq⟩ : ∃ q Q, xs.drop i = q :: Q := by
          cases hd : xs.drop i with
          | nil => have := congrArg List.length hd; simp at this; omega
          | cons q Q => exact ⟨q, Q, rfl⟩
        have hxs : xs = xs.take i ++ (q :: Q) := by rw [← hq, List.take_append_drop]
        have htl : (xs.take i).length = i := by rw [List.length_take]; omega
        have hc0 : cur.toList = (xs.take i ++ [q]) ++ (Q ++ [r]) ++ R' := by
          rw [hcur]
          conv => lhs; rw [hxs]
          simp
        obtain ⟨c1, k1, k2⟩ := heap_setCells_in g 3 (0, 0) (xs.drop i) (Q ++ [r]) (xs.take i ++ [q]) R' (0 + (i + 1)) w.drew cur hh hc0 (by simp [htl]) (by rw [hq]; simp)
        obtain ⟨c2, m1, m2⟩ := heap_setCells_in g 3 (0, 0) [x] [q] (xs.take i) (xs.drop i ++ R') (0 + i) _ c1 k1 (by rw [k2]; simp) (by simp [htl]) rfl
        refine ⟨_, rfl, owns_ins (R := R') hg hxl hi hroom hcm m1 ?_ (by rw [m2]; simp), grown_step (grown_step (grown_drew w _) (grown_setCells g _ _ _)) (grown_setCells g _ _ _)⟩
        have := congrArg List.length m2
        have e2 := congrArg List.length hcur
        simp only [List.length_append, List.length_cons, List.length_nil, htl, List.length_drop, Array.length_toList] at this e2
        simp only [List.length_cons] at hrl
        omega
      · obtain rfl : i = n := by omega
        refine (Any2.slices_Insert_int_end_room Try.insLays g 0 i cap vb 0 1 1 [x] w (by decide) hroom (by omega) rfl (fun j hj => by have := hsp (i + j) (by omega); rwa [← Nat.add_assoc] at this) (fun j _ => by have := hfz (i + j); rwa [← Nat.add_assoc] at this) hvs h1x).mono ?_
        rintro e w' ⟨rfl, rfl⟩
        obtain ⟨c2, m1, m2⟩ := heap_setCells_in g 3 (0, 0) [x] [r] xs R' (0 + i) w cur hh (by rw [hcur]; simp) (by omega) rfl
        refine ⟨_, rfl, owns_ins (R := R') hg hxl hi hroom hcm m1 ?_ (by rw [m2, List.take_of_length_le (by omega), List.drop_eq_nil_of_le (by omega)]), grown_setCells g _ _ _⟩
        have := congrArg List.length m2
        have e2 := congrArg List.length hcur
        simp only [List.length_append, List.length_cons, List.length_nil, Array.length_toList] at this e2
        omega
    · by_cases hin : i < n
      · refine (Any2.slices_Insert_int_grow Try.insLays g 0 n cap i vb 0 1 1 xs [x] w hin (by decide) hnc (by omega) (by omega) hxl rfl hcl hvs h1 h1x).mono ?_
        rintro e w' ⟨rfl, rfl⟩
        have hge := grownCap_ge w (n + 1) cap (Try.insRen.t 3)
        have hle := grownCap_le_maxLen w (n + 1) cap (Try.insRen.t 3) (by unfold maxLen; omega)
        generalize grownCap w (n + 1) cap (Try.insRen.t 3) = G at *
        have htl : (xs.take i).length = i := by rw [List.length_take]; omega
        have hz : ∀ k, (Builtin.zeroCells (Value.int .i64 0).cells k).toList = List.replicate k (.int .i64 0) := fun k => by
          simp only [Builtin.zeroCells, Value.cells, List.size_toArray, List.length_cons, List.length_nil, Nat.zero_add, Nat.mul_one, Array.toList_map, Array.toList_range, Nat.mod_one]
          rw [List.eq_replicate_iff]
          refine ⟨by simp, fun b hb => ?_⟩
          obtain ⟨_, _, rfl⟩ := List.mem_map.1 hb
          rfl
        have hk1 : n + 1 - i = (n - i) + 1 := by omega
        obtain ⟨ROW, hROW⟩ : ∃ ROW : Array Value, ROW = (xs.take i).toArray ++ Builtin.zeroCells (Value.int .i64 0).cells (n + 1 - i) ++ Builtin.zeroCells (Value.int .i64 0).cells (G - (n + 1)) := ⟨_, rfl⟩
        have hRL : ROW.toList = xs.take i ++ ([Value.int .i64 0] ++ List.replicate (n - i) (.int .i64 0)) ++ List.replicate (G - (n + 1)) (.int .i64 0) := by
          rw [hROW, Array.toList_append, Array.toList_append, hz, hz, hk1, List.replicate_succ]; rfl
        rw [← hROW]
        have hnew := heap_alloc_new w (.cells ROW 3)
        obtain ⟨c1, k1, k2⟩ := heap_setCells_in w.heap.size 3 (0, 0) [x] [.int .i64 0] (xs.take i) (List.replicate (n - i) (.int .i64 0) ++ List.replicate (G - (n + 1)) (.int .i64 0)) i (w.alloc (.cells ROW 3)).drew ROW hnew (by rw [hRL]; simp) htl rfl
        obtain ⟨c2, m1, m2⟩ := heap_setCells_in w.heap.size 3 (0, 0) (xs.drop i) (List.replicate (n - i) (.int .i64 0)) (xs.take i ++ [x]) (List.replicate (G - (n + 1)) (.int .i64 0)) (i + 1) ((w.alloc (.cells ROW 3)).drew.setCells w.heap.size i [x]).drew c1 k1 (by rw [k2]; simp) (by simp [htl]) (by simp; omega)
        refine ⟨_, rfl, owns_ins (R := List.replicate (G - (n + 1)) (.int .i64 0)) hB hxl hi hge hle m1 ?_ (by rw [m2]; simp), ?_⟩
        · have := congrArg List.length m2
          simp only [List.length_append, List.length_cons, List.length_nil, htl, List.length_drop, Array.length_toList, List.length_replicate] at this
          omega
        · exact grown_new (grown_step (grown_alloc w _ (some w.heap.size)) (grown_step (grown_drew _ _) (grown_step (grown_setCells _ _ _ _) (grown_step (grown_drew _ _) (grown_setCells _ _ _ _))))) (Nat.le_refl _) _
      · obtain rfl : i = n := by omega
        refine (Any2.slices_Insert_int_end_grow Try.insLays (some ⟨g, 0, none⟩) i cap vb 0 1 1 xs [x] w (by decide) hnc (by omega) (by omega) hxl rfl (fun h => by cases h) (fun a ha j u hj => by cases ha; rw [Addr.add_lit]; exact hcl j u hj) hvs h1x).mono ?_
        rintro e w' ⟨rfl, rfl⟩
        have hge := grownCap_ge w (i + 1) cap (Try.insRen.t 3)
        have hle := grownCap_le_maxLen w (i + 1) cap (Try.insRen.t 3) (by unfold maxLen; omega)
        generalize grownCap w (i + 1) cap (Try.insRen.t 3) = G at *
        refine ⟨_, rfl, ?_, grown_step (grown_drew w _) (grown_alloc _ _ _)⟩
        refine owns_ins (R := (Builtin.zeroCells (Value.int .i64 0).cells (G - (i + 1))).toList) hB hxl hi hge hle (heap_alloc_new w.drew _) ?_ (by rw [List.take_of_length_le (by omega), List.drop_eq_nil_of_le (by omega)]; simp)
        simp [Builtin.zeroCells, Value.cells, hxl]; omega
end Ytafhjfkdlmijdaa
end Go.Proofs
