/- Texts of the proof, joined: RideD, Float, Real, Own, Facts, OrdCmp, SortD, Shelf, Square, Small, InstOwn, Stable, InstA, InstB, InstC, Region, InstD, Eq, Loads, Same, Drops, Set, Trucks, Bikes, Good, Check, Way, Nodes, Lit, Order, HeapD, NearD, Graph. -/
import Derived.Test.YtabadfkikdefeaaGreatProg
import Derived.Laws.BitsAllLaws
import Derived.Lib.BitFns
import Derived.Sort.Defs
import Derived.Shelf.Strings.Builder1
import Derived.Shelf.Small.Wraps
import Derived.Shelf.Strings.BuilderF
import Derived.Shelf.Slices.Reverse
import Derived.Shelf.Slices.Equal
import Derived.Ground.Names2Prog
import Derived.Shelf.Slices.Clone
import Derived.Shelf.Slices.SearchI
import Derived.Shelf.Slices.Delete
import Derived.Shelf.Slices.Cells
import Derived.Shelf.Slices.Empties
import Derived.Shelf.Slices.Empties2
import Derived.Ground.SlgnProg
import Derived.Shelf.SlicesG.Equal
import Derived.Shelf.SlicesG.Clone
import Derived.Shelf.SlicesG.SearchI
import Derived.Shelf.SlicesE.Reverse
import Derived.Shelf.SlicesE.Delete
import Derived.Shelf.SlicesE.Clone
import Derived.Ground.SlsfProg
import Derived.Shelf.SlSortCmp.Insertion
import Derived.Deep.LoopGhost
import Derived.Deep.DeepCutAuto
import Derived.Laws.StructEq
import Derived.Laws.ShiftsVar
import Derived.Deep.QuietTactic
import Derived.BigQuiet
import Derived.Laws.OwnMore
import Derived.BigRegion
import Derived.Test.YtabadfkikdefeaaGreatO1
set_option linter.all false
set_option maxRecDepth 100000
set_option maxHeartbeats 6400000
namespace Go.Proofs.YtabadfkikdefeaaGreat
open Go.RowKit
structure RideD where
 out : Int
 starts : List Int
 back : Int
 deriving DecidableEq
structure TimesD where
 trucks : List (List Int)
 bikes : List RideD
 deriving DecidableEq
end Go.Proofs.YtabadfkikdefeaaGreat


namespace Go.Proofs.YtabadfkikdefeaaGreat
open Go.RowKit
def Row (w : World) (g : Nat) (e : TypeId) (cs : List Value) : Prop :=
 ∃ (cur : Array Value) (rest : List Value), w.heap[g]? = some (.cells cur e (0, 0)) ∧ cur.toList = cs ++ rest
theorem Row.lt {w : World} {g : Nat} {e : TypeId} {cs : List Value} (h : Row w g e cs) : g < w.heap.size := by
 obtain ⟨cur, rest, h1, _⟩ := h
 exact (Array.getElem?_eq_some_iff.1 h1).1
theorem Row.keep {w w' : World} {g : Nat} {e : TypeId} {cs : List Value} (h : Row w g e cs) (hk : w'.heap[g]? = w.heap[g]?) : Row w' g e cs := by
 obtain ⟨cur, rest, h1, h2⟩ := h
 exact ⟨cur, rest, hk.trans h1, h2⟩
theorem Row.below {w w' : World} {g : Nat} {e : TypeId} {cs : List Value} (h : Row w g e cs) (hb : Below w.heap.size w w') : Row w' g e cs := h.keep (hb.block g h.lt)
theorem Row.belowB {B : Nat} {w w' : World} {g : Nat} {e : TypeId} {cs : List Value} (h : Row w g e cs) (hb : Below B w w') (hg : g < B) : Row w' g e cs := h.keep (hb.block g hg)
theorem Row.alloc {w : World} {g : Nat} {e : TypeId} {cs : List Value} (h : Row w g e cs) (o : Obj) : Row (w.alloc o) g e cs := h.keep (Below.heap_alloc _ _ _ h.lt)
theorem Row.setOther {w : World} {g : Nat} {e : TypeId} {cs : List Value} (h : Row w g e cs) {a : Addr} (ha : g ≠ a.block) (u : Value) : Row (w.setCell a u) g e cs := h.keep (Below.heap_setCell _ _ _ _ ha)
theorem Row.drew {w : World} {g : Nat} {e : TypeId} {cs : List Value} (h : Row w g e cs) : Row w.drew g e cs := h
theorem Row.drewN {w : World} {g : Nat} {e : TypeId} {cs : List Value} (h : Row w g e cs) (n : Nat) : Row (w.drewN n) g e cs := h.keep rfl
theorem Row.ne {w : World} {g g' : Nat} {e e' : TypeId} {cs cs' : List Value} (h : Row w g e cs) (h' : Row w g' e' cs') (he : e ≠ e') : g ≠ g' := by
 rintro rfl
 obtain ⟨_, _, h1, _⟩ := h
 obtain ⟨_, _, h2, _⟩ := h'
 rw [h1] at h2
 simp only [Option.some.injEq, Obj.cells.injEq] at h2
 exact he h2.2.1
theorem Row.cell {w : World} {g : Nat} {e : TypeId} {cs : List Value} (h : Row w g e cs) {j : Nat} (hj : j < cs.length) : w.cell? ⟨g, j, none⟩ = some cs[j] := by
 obtain ⟨cur, rest, h1, h2⟩ := h
 have : cur[j]? = some cs[j] := by
  rw [← Array.getElem?_toList, h2, List.getElem?_append_left hj, List.getElem?_eq_getElem hj]
 simp [World.cell?, h1, this]
theorem Row.frozen {w : World} {g : Nat} {e : TypeId} {cs : List Value} (h : Row w g e cs) (j : Nat) : w.frozen? ⟨g, j, none⟩ = false := by
 obtain ⟨cur, rest, h1, h2⟩ := h
 simp [World.frozen?, h1]
theorem Row.set {w : World} {g : Nat} {e : TypeId} {cs : List Value} (h : Row w g e cs) {j : Nat} (hj : j < cs.length) (u : Value) : Row (w.setCell ⟨g, j, none⟩ u) g e (cs.set j u) := by
 obtain ⟨cur, rest, h1, h2⟩ := h
 have hg : g < w.heap.size := (Array.getElem?_eq_some_iff.1 h1).1
 refine ⟨cur.setIfInBounds j u, rest, ?_, ?_⟩
 ·simp [World.setCell, Array.getElem?_modify, h1]
 ·rw [Array.toList_setIfInBounds, h2, List.set_append_left _ _ hj]
theorem Row.new {w : World} {g : Nat} {e : TypeId} {cs : List Value} (hg : g = w.heap.size) : Row (w.alloc (.cells cs.toArray e)) g e cs := by
 subst hg
 refine ⟨cs.toArray, [], ?_, by simp⟩
 show (w.heap.push _)[w.heap.size]? = _
 simp
theorem Row.of_owns {w : World} {base : Nat} {e : TypeId} {size : Nat} {v : Value} {n : Nat} {xs : List Value} (h : w.ownsRow base e size v n xs) (hn : 0 < n) :
  ∃ g c, v = .slice (some ⟨g, 0, none⟩) n c ∧ n ≤ c ∧ c ≤ maxLen ∧ base ≤ g ∧ Row w g e xs := by
 obtain ⟨h1, h2⟩ := h
 rcases h2 with ⟨_, h2⟩ | h2
 ·omega
 ·obtain ⟨g, cap, cur, rfl, hg, hh, hn1, hc, hs, ht⟩ := h2
  exact ⟨g, cap, rfl, hn1, hc, hg, cur, cur.toList.drop (n * size), hh, by rw [← ht, List.take_append_drop]⟩
theorem cells_new {w : World} {g : Nat} (hg : g = w.heap.size) (cs : List Value) (e : TypeId) : ∀ j u, cs[j]? = some u → (w.alloc (.cells cs.toArray e)).cell? ((⟨g, 0, none⟩ : Addr).add j) = some u := by
 subst hg
 intro j u hj
 have : (⟨w.heap.size, 0, none⟩ : Addr).add j = ⟨w.heap.size, j, none⟩ := by
  unfold Addr.add; split
  ·rename_i h; rw [h]
  ·simp
 rw [this]
 simpa using hj
theorem owns_slice {w : World} {base : Nat} {e : TypeId} {size : Nat} {v : Value} {n : Nat} {xs : List Value} (h : w.ownsRow base e size v n xs) : ∃ ao cap, v = .slice ao n cap ∧ n ≤ cap ∧ cap ≤ maxLen := by
 obtain ⟨h1, h2⟩ := h
 rcases h2 with ⟨rfl, rfl⟩ | ⟨g, cap, cur, rfl, hg, hh, h3, h4, _⟩
 ·exact ⟨none, 0, rfl, Nat.le_refl _, Nat.zero_le _⟩
 ·exact ⟨_, cap, rfl, h3, h4⟩
theorem owns_below {w w' : World} {base : Nat} {e : TypeId} {size : Nat} {v : Value} {n : Nat} {xs : List Value} (h : w.ownsRow base e size v n xs) (hb : Below w.heap.size w w') : w'.ownsRow base e size v n xs := by
 obtain ⟨h1, h2⟩ := h
 refine ⟨h1, ?_⟩
 rcases h2 with h2 | ⟨g, cap, cur, hv, hg, hh, r⟩
 ·exact .inl h2
 ·exact .inr ⟨g, cap, cur, hv, hg, by rw [hb.block g (Array.getElem?_eq_some_iff.1 hh).1]; exact hh, r⟩
theorem row9 {w : World} {g : Nat} {e : TypeId} {v0 v1 v2 v3 v4 v5 v6 v7 v8 : Value} (h : Row w g e [v0, v1, v2, v3, v4, v5, v6, v7, v8]) :
  w.cell? ⟨g, 0, none⟩ = some v0 ∧ w.cell? ⟨g, 1, none⟩ = some v1 ∧ w.cell? ⟨g, 2, none⟩ = some v2 ∧ w.cell? ⟨g, 3, none⟩ = some v3 ∧ w.cell? ⟨g, 4, none⟩ = some v4 ∧ w.cell? ⟨g, 5, none⟩ = some v5 ∧
   w.cell? ⟨g, 6, none⟩ = some v6 ∧ w.cell? ⟨g, 7, none⟩ = some v7 ∧ w.cell? ⟨g, 8, none⟩ = some v8 :=
 ⟨h.cell (j := 0) (by simp), h.cell (j := 1) (by simp), h.cell (j := 2) (by simp), h.cell (j := 3) (by simp), h.cell (j := 4) (by simp), h.cell (j := 5) (by simp), h.cell (j := 6) (by simp), h.cell (j := 7) (by simp), h.cell (j := 8) (by simp)⟩
theorem row2 {w : World} {g : Nat} {e : TypeId} {v0 v1 : Value} (h : Row w g e [v0, v1]) : w.cell? ⟨g, 0, none⟩ = some v0 ∧ w.cell? ⟨g, 1, none⟩ = some v1 :=
 ⟨h.cell (j := 0) (by simp), h.cell (j := 1) (by simp)⟩
def intV (x : Int) : Value := .int .i64 x
theorem Row.make {w : World} {n : Nat} {e : TypeId} : Row (w.alloc (.cells (Array.replicate n (intV 0)) e)) w.heap.size e ((List.replicate n 0).map intV) := by
 have := Row.new (w := w) (e := e) (cs := (List.replicate n 0).map intV) rfl
 simpa using this
def rowV (r : Nat) (row : List Int) : Value := .slice (some ⟨r, 0, none⟩) row.length row.length
def RowsInv (w : World) (B TR TI : Nat) (out : Value) (rows : List (List Int)) (rs : List Nat) : Prop :=
 w.ownsRow B TR 1 out rows.length (List.zipWith rowV rs rows) ∧ rs.length = rows.length ∧ (∀ i (h : i < rs.length) (h' : i < rows.length), Row w rs[i] TI (rows[i].map intV)) ∧ rs.Nodup ∧ ∀ b ∈ rs, B ≤ b ∧ b < w.heap.size
theorem RowsInv.nil (w : World) (B TR TI : Nat) : RowsInv w B TR TI (.slice none 0 0) [] [] :=
 ⟨World.ownsRow_nil _ _ _ _, rfl, fun _ h => absurd h (Nat.not_lt_zero _), List.nodup_nil, fun _ h => by cases h⟩
theorem ownBlock_row {w : World} {B T n k : Nat} {v : Value} {xs : List Value} (h : w.ownsRow B T k v n xs) {g : Nat} (hg : v.ownBlock = some g) : ∃ cs, Row w g T cs := by
 obtain ⟨h1, h2⟩ := h
 rcases h2 with ⟨rfl, _⟩ | ⟨g', cap, cur, rfl, hg', hh, _⟩
 ·cases hg
 ·simp only [Value.ownBlock, Option.some.injEq] at hg
  subst hg
  exact ⟨cur.toList, cur, [], hh, by simp⟩
theorem RowsInv.push {w w1 w2 : World} {B TR TI r : Nat} {out v' : Value} {rows : List (List Int)} {rs : List Nat} {row : List Int} {o : Obj} (h : RowsInv w B TR TI out rows rs) (hne : TR ≠ TI)
  (hb : Below w.heap.size w w1) (hr : Row w1 r TI (row.map intV)) (hrw : w.heap.size ≤ r) (hB : B ≤ w.heap.size)
  (hown : w2.ownsRow B TR 1 v' (rows.length + 1) (List.zipWith rowV rs rows ++ [rowV r row])) (hg : (w1.alloc o).grownBy w2 out.ownBlock) : RowsInv w2 B TR TI v' (rows ++ [row]) (rs ++ [r]) := by
 obtain ⟨h1, h2, h3, h4, h5⟩ := h
 have hob : ∀ {b : Nat} {cs : List Value}, Row w1 b TI cs → Row w2 b TI cs := fun {b cs} hR => by
  refine (hR.alloc o).keep (hg.block b (hR.alloc o).lt ?_)
  intro e
  obtain ⟨cs', hc'⟩ := ownBlock_row h1 e.symm
  exact (hc'.below hb).ne hR hne rfl
 refine ⟨?_, by simp [h2], ?_, ?_, ?_⟩
 ·rw [List.length_append, List.length_singleton, List.zipWith_append h2]
  exact hown
 ·intro i hi hi'
  by_cases hl : i < rows.length
  ·rw [List.getElem_append_left (by omega), List.getElem_append_left hl]
   exact hob ((h3 i (by omega) hl).below hb)
  ·have : i = rows.length := by simp at hi'; omega
   subst this
   rw [List.getElem_append_right (by omega), List.getElem_append_right (Nat.le_refl _)]
   simp only [h2, Nat.sub_self, List.getElem_cons_zero]
   exact hob hr
 ·rw [List.nodup_append]
  refine ⟨h4, by simp, fun a ha b hb' => ?_⟩
  simp only [List.mem_singleton] at hb'
  have := (h5 a ha).2
  omega
 ·intro b hb'
  have hs : w.heap.size ≤ w2.heap.size := Nat.le_trans hb.size (Nat.le_trans (by simp) hg.size)
  have hr2 : r < w2.heap.size := Nat.lt_of_lt_of_le hr.lt (Nat.le_trans (by simp) hg.size)
  rcases List.mem_append.1 hb' with hb' | hb'
  ·have := h5 b hb'; omega
  ·simp only [List.mem_singleton] at hb'; omega
def RowsOwn (w : World) (B TR TI : Nat) (v : Value) (rows : List (List Int)) (g : Nat) (rs : List Nat) : Prop :=
 ∃ c, v = .slice (some ⟨g, 0, none⟩) rows.length c ∧ rows.length ≤ c ∧ c ≤ maxLen ∧ B ≤ g ∧ Row w g TR (List.zipWith rowV rs rows) ∧ rs.length = rows.length ∧
  (∀ i (h : i < rs.length) (h' : i < rows.length), Row w rs[i] TI (rows[i].map intV)) ∧ rs.Nodup ∧ ∀ b ∈ rs, B ≤ b
theorem RowsInv.own {w : World} {B TR TI : Nat} {out : Value} {rows : List (List Int)} {rs : List Nat} (h : RowsInv w B TR TI out rows rs) (hn : 0 < rows.length) : ∃ g, RowsOwn w B TR TI out rows g rs := by
 obtain ⟨h1, h2, h3, h4, h5⟩ := h
 obtain ⟨g, c, hv, hc, hm, hg, hr⟩ := Row.of_owns h1 hn
 exact ⟨g, c, hv, hc, hm, hg, hr, h2, h3, h4, fun b hb => (h5 b hb).1⟩
theorem RowsOwn.below {w w' : World} {B TR TI : Nat} {v : Value} {rows : List (List Int)} {g : Nat} {rs : List Nat} (h : RowsOwn w B TR TI v rows g rs) (hb : Below w.heap.size w w') : RowsOwn w' B TR TI v rows g rs := by
 obtain ⟨c, h0, h1, h2, h3, h4, h5, h6, h7, h8⟩ := h
 exact ⟨c, h0, h1, h2, h3, h4.below hb, h5, fun i h h' => (h6 i h h').below hb, h7, h8⟩
theorem sz_int : ∀ w, (sizeOf 3).run Tryz.prog w = .ok 1 w := fun w => by kernel_rfl
theorem sz_i64 : ∀ w, (sizeOf 2).run Tryz.prog w = .ok 1 w := fun w => by kernel_rfl
theorem sz_u8 : ∀ w, (sizeOf 5).run Tryz.prog w = .ok 1 w := fun w => by kernel_rfl
theorem sz_row : ∀ w, (sizeOf 78).run Tryz.prog w = .ok 1 w := fun w => by kernel_rfl
theorem sz_sat : ∀ w, (sizeOf 87).run Tryz.prog w = .ok 2 w := fun w => by kernel_rfl
theorem sz_cust : ∀ w, (sizeOf 167).run Tryz.prog w = .ok 4 w := fun w => by kernel_rfl
theorem sz_stop : ∀ w, (sizeOf 121).run Tryz.prog w = .ok 2 w := fun w => by kernel_rfl
theorem sz_truck : ∀ w, (sizeOf 124).run Tryz.prog w = .ok 1 w := fun w => by kernel_rfl
theorem sz_bike : ∀ w, (sizeOf 70).run Tryz.prog w = .ok 2 w := fun w => by kernel_rfl
theorem sz_lsat : ∀ w, (sizeOf 163).run Tryz.prog w = .ok 2 w := fun w => by kernel_rfl
theorem sz_lwho : ∀ w, (sizeOf 165).run Tryz.prog w = .ok 4 w := fun w => by kernel_rfl
end Go.Proofs.YtabadfkikdefeaaGreat


namespace Go.Proofs
open Go.Shelf
def Tryz.laysNm223_ren : Go.Shelf.Ren := ⟨fun | 23 => 80 | n => n, fun | 22 => 68 | 3 => 3 | 4 => 4 | 0 => 0 | n => n, fun | n => n⟩
theorem Tryz.laysNm223 : Go.Proofs.Lays2.n23 Tryz.prog Tryz.laysNm223_ren := {
 mixed := by kernel_rfl
 f23 := Tryz.func80.trans (congrArg some (by kernel_rfl))
 t0 := Tryz.underlying0
 a0 := Tryz.isAgg0
 z0 := Tryz.sizeOf0
 v0 := Tryz.zeroValue0
 t3 := Tryz.underlying3
 a3 := Tryz.isAgg3
 z3 := Tryz.sizeOf3
 v3 := Tryz.zeroValue3
 t4 := Tryz.underlying4
 a4 := Tryz.isAgg4
 z4 := Tryz.sizeOf4
 v4 := Tryz.zeroValue4
 t22 := Tryz.underlying68
 a22 := Tryz.isAgg68
 z22 := Tryz.sizeOf68
 v22 := Tryz.zeroValue68
 i3 := by kernel_rfl }
open Go.RowKit Go.Lib Go.Sort in
theorem Tryz.slices_Delete_int_cells (b off n c i j : Nat) (zs : List Int) (w : World) (hz : n ≤ zs.length) (hcap : n ≤ c) (hm : c ≤ 9223372036854775807) (hij : i ≤ j) (hj : j ≤ n) (hc : ∀ j, j < zs.length → w.cell? ⟨b, off + j, none⟩ = some (.int .i64 (zs.getD j 0))) (hf : ∀ j, j < n → w.frozen? ⟨b, off + j, none⟩ = false) :
  Calls Tryz.prog 80 #[.slice (some ⟨b, off, none⟩) n c, .int .i64 i, .int .i64 j] w fun e w' => e = .returned (.slice (some ⟨b, off, none⟩) (n - (j - i)) c) ∧ ∃ q, w' = (w.drewN q).setCells b off (((zs.take n).take i ++ (zs.take n).drop j ++ List.replicate (j - i) 0).map (Value.int .i64)) := Any.slices_Delete_int_cells Tryz.laysNm223 b off n c i j zs w hz hcap hm hij hj hc hf
end Go.Proofs
namespace Go.Proofs.YtabadfkikdefeaaGreat
open Go.RowKit
def rowSt (l : List Int) (n i : Nat) (k0 : Nat) : Nat → List Int × Nat
 | 0 => (List.replicate n 0, k0)
 | m + 1 => let s := rowSt l n i k0 m; if i ≠ m ∧ l ≠ [] then (s.1.set m (l.getD (s.2 % l.length) 0 % 30), s.2 + 1) else s
def sqSt (l : List Int) (n : Nat) : Nat → List (List Int) × Nat
 | 0 => ([], 0)
 | i + 1 => let s := sqSt l n i; let r := rowSt l n i s.2 n; (s.1 ++ [r.1], r.2)
def square11 (l : List Int) (n : Nat) : List (List Int) := (sqSt l n n).1
theorem rowSt_len (l : List Int) (n i k0 m : Nat) : (rowSt l n i k0 m).1.length = n := by
 induction m with
 | zero => simp [rowSt]
 | succ m ih => simp only [rowSt]; split <;> simp [ih]
theorem rowSt_k (l : List Int) (n i k0 m : Nat) : (rowSt l n i k0 m).2 ≤ k0 + m := by
 induction m with
 | zero => simp [rowSt]
 | succ m ih =>
  simp only [rowSt]
  split
  ·show (rowSt l n i k0 m).2 + 1 ≤ _; omega
  ·omega
theorem sqSt_len (l : List Int) (n i : Nat) : (sqSt l n i).1.length = i := by
 induction i with
 | zero => simp [sqSt]
 | succ i ih => simp [sqSt, ih]
theorem sqSt_k (l : List Int) (n i : Nat) : (sqSt l n i).2 ≤ i * n := by
 induction i with
 | zero => simp [sqSt]
 | succ i ih =>
  simp only [sqSt]
  have := rowSt_k l n i (sqSt l n i).2 n
  rw [Nat.succ_mul]; omega
theorem rowSt_hit {l : List Int} {n i k0 m : Nat} (h : i ≠ m) (hl : l ≠ []) : rowSt l n i k0 (m + 1) = ((rowSt l n i k0 m).1.set m (l.getD ((rowSt l n i k0 m).2 % l.length) 0 % 30), (rowSt l n i k0 m).2 + 1) := by
 simp only [rowSt]; rw [if_pos ⟨h, hl⟩]
theorem rowSt_miss {l : List Int} {n i k0 m : Nat} (h : ¬ (i ≠ m ∧ l ≠ [])) : rowSt l n i k0 (m + 1) = rowSt l n i k0 m := by
 simp only [rowSt]; rw [if_neg h]
theorem make_ints {P : Program} {t e : TypeId} {i : TypeInfo} (ht : P.underlying t = some (.slice e)) (hi : P.info? e = some i) (hz : i.zero = some (.int .i64 0)) (hs : i.size = 1) (hb : i.bytes = 8) {n : Nat} (hn : n ≤ 1000000) :
  ∀ w, (Instr.makeSlice t (.int .i64 (n : Int)) (.int .i64 (n : Int))).run P w = .ok (.slice (some ⟨w.heap.size, 0, none⟩) n n) (w.alloc (.cells (Array.replicate n (intV 0)) e)) := by
 intro w
 have h := run_make (P := P) w t e i (.int .i64 0) ht hi hz .i64 .i64 n n (by omega) (by omega) (by rw [hb]; omega) (by omega)
 rw [h, hs]
 have hm : (madeCells (Value.int .i64 0).cells ((n : Int).toNat * 1)) = Array.replicate n (intV 0) := by
  apply Array.ext'
  rw [Nat.mul_one, Int.toNat_natCast, show (Value.int .i64 0).cells = #[.int .i64 0] from rfl, toList_madeCells_one]
  simp [intV]
 rw [hm, Int.toNat_natCast]
theorem info_i64 : (Tryz.prog.info? 2).map (fun i => (i.zero, i.size, i.bytes)) = some (some (.int .i64 0), 1, 8) := by kernel_rfl
theorem info_row : (Tryz.prog.info? 78).map (fun i => (i.zero, i.size, i.bytes)) = some (some (.slice none 0 0), 1, 24) := by kernel_rfl
theorem idx_mod {P : Program} {t e : TypeId} (ht : P.underlying t = some (.slice e)) (hsz : ∀ w, (sizeOf e).run P w = .ok 1 w) {a : Option Addr} {b off n c k : Nat} (ha : a = some ⟨b, off, none⟩) (hn : 0 < n) :
  ∀ w, (Instr.indexAt t (.slice a n c) (.int .i64 ((k : Int) % (n : Int)))).run P w = .ok (.pointer (some ⟨b, off + k % n, none⟩)) w := by
 intro w
 have := idx_at1 ht hsz (c := c) ha (Nat.mod_lt k hn) w
 rwa [Int.natCast_emod] at this
theorem square11_c {w : World} {F : Nat → Prop} {l : List Int} {v : Value} (h : (sliceS u8S).rep w F l [v]) {n : Nat} (hn : n ≤ 100) :
  Calls Tryz.prog 72 #[v, .int .i64 (n : Int)] w fun e w' => ∃ ao cp rs, e = .returned (.slice ao n cp) ∧ RowsInv w' w.heap.size 78 2 (.slice ao n cp) (square11 l n) rs ∧ Below w.heap.size w w' := by
 obtain ⟨a, b, off, c, hs, hlc, hc, ha, -, hcell, hwf⟩ := bytes_open h
 obtain rfl := List.cons.inj hs |>.1
 clear hs h
 obtain ⟨i0, hi, hz0, hz1, hz2⟩ := info_parts info_i64
 have hmk := make_ints Tryz.underlying78 hi hz0 hz1 hz2 (n := n) (by omega)
 clear hi hz0 hz1 hz2 i0
 go_enter Tryz.func72, Tryz.ntmps72
 go_wp2
 go_loopw [5, 6, 11] (fun out kk ii wr => ∃ (i : Nat) (rows : List (List Int)) (K : Nat) (rs : List Nat), i ≤ n ∧ sqSt l n i = (rows, K) ∧ ii = .int .i64 i ∧ kk = .int .i64 K ∧ RowsInv wr w.heap.size 78 2 out rows rs ∧ Below w.heap.size w wr)
  (fun _ _ ii _ => n - (intOf ii).toNat)
 case atStart => exact ⟨0, [], 0, [], Nat.zero_le _, rfl, rfl, rfl, RowsInv.nil _ _ _ _, Below.refl _ _⟩
 case round =>
  obtain ⟨i, rows, K, rs, hin, hst, rfl, rfl, hinv, hb⟩ := hrel
  have hK : K ≤ 10000 := by
   have := sqSt_k l n i
   rw [hst] at this
   exact Nat.le_trans this (Nat.le_trans (Nat.mul_le_mul hin hn) (by omega))
  have HST := hid hst
  have HINV := hid hinv
  clear hst hinv
  obtain ⟨wo, rfl⟩ : ∃ wo : World, wo = wr := ⟨_, rfl⟩
  by_cases hlt : i < n
  ·go_wp2
   go_outline
   go_loopw [6, 18] (fun kk jj wx => ∃ (j : Nat) (r : List Int) (k : Nat), j ≤ n ∧ rowSt l n i K j = (r, k) ∧ jj = .int .i64 j ∧ kk = .int .i64 k ∧ Row wx wo.heap.size 2 (r.map intV) ∧ Below wo.heap.size wo wx)
    (fun _ jj _ => n - (intOf jj).toNat)
   case atStart => exact ⟨0, _, _, Nat.zero_le _, rfl, rfl, rfl, Row.make, (Below.refl _ _).alloc (Nat.le_refl _) _⟩
   case round =>
    obtain ⟨j, r, k, hj, hst, rfl, rfl, hrow, hbx⟩ := hrel
    have hk : k ≤ 20000 := by
     have := rowSt_k l n i K j
     rw [hst] at this
     show k ≤ 20000
     have h2 : k ≤ K + j := this
     omega
    have hrl : r.length = n := by have := rowSt_len l n i K j; rw [hst] at this; exact this
    have HST2 := hid hst
    have HROW := hid hrow
    have HRL := hid hrl
    clear hst hrow hrl
    by_cases hlt2 : j < n
    ·by_cases hij : i = j
     ·have hd : ((i : Int) != (j : Int)) = false := by simp [hij]
      have HN := hid (show rowSt l n i K (j + 1) = (r, k) from by rw [rowSt_miss (by simp [hij])]; exact HST2.out)
      clear hij
      go_wp2
      go_roundw
      case rel => exact ⟨j + 1, r, k, by omega, HN.out, by go_num, rfl, HROW.out, hbx⟩
      case measure => simp [intOf]; omega
     ·have hd : ((i : Int) != (j : Int)) = true := by simp; omega
      by_cases hl0 : 0 < l.length
      ·have hl0' : (0 : Int) < (l.length : Int) := by omega
       have HN := hid (show rowSt l n i K (j + 1) = (r.set j (l.getD (k % l.length) 0 % 30), k + 1) from by
        rw [rowSt_hit hij (by intro e; simp [e] at hl0)]
        rw [HST2.out])
       clear hij
       have hkl : k % l.length < l.length := Nat.mod_lt _ hl0
       have hx := idx_mod (k := k) (c := c) Tryz.underlying24 sz_u8 (ha hl0) hl0
       have hx2 := idx_at1 (c := n) (a := some ⟨wo.heap.size, 0, none⟩) (off := 0) Tryz.underlying78 sz_i64 rfl hlt2
       have hval : l[k % l.length] = l.getD (k % l.length) 0 := by simp [List.getD, List.getElem?_eq_getElem hkl]
       have hr := hwf _ (List.getElem_mem hkl)
       have g0 := hcell (k % l.length) hkl
       rw [hval] at g0 hr
       have g1 := below_cell (hb.trans (hbx.mono hb.size)) g0
       obtain ⟨y, hy⟩ : ∃ y, y = l.getD (k % l.length) 0 := ⟨_, rfl⟩
       rw [← hy] at g1 hr HN
       have hw0 := HROW.out.cell (j := j) (by simp; have := HRL.out; omega)
       have hf0 := HROW.out.frozen j
       obtain ⟨y0, hy0⟩ : ∃ y0, y0 = (r.map intV)[j]'(by simp; have := HRL.out; omega) := ⟨_, rfl⟩
       rw [← hy0] at hw0
       clear hcell hwf ha hval g0 hy hy0
       go_wp2
       go_roundw
       case rel => exact ⟨j + 1, _, k + 1, by omega, HN.out, by go_num, by go_num, by
        rw [List.map_set]
        exact HROW.out.set (by simp; have := HRL.out; omega) _, hbx.setCell (Nat.le_refl _) _⟩
       case measure => simp [intOf]; omega
      ·have hl0' : ¬ (0 : Int) < (l.length : Int) := by omega
       have HN := hid (show rowSt l n i K (j + 1) = (r, k) from by
        rw [rowSt_miss (by rintro ⟨_, h2⟩; exact h2 (List.eq_nil_of_length_eq_zero (by omega)))]; exact HST2.out)
       clear hij
       go_wp2
       go_roundw
       case rel => exact ⟨j + 1, r, k, by omega, HN.out, by go_num, rfl, HROW.out, hbx⟩
       case measure => simp [intOf]; omega
    ·have hjn : j = n := by omega
     subst hjn
     have hown := owns_below HINV.out.1 hbx
     have hz := hbx.size
     have hin2 : rows.length = i := by have := sqSt_len l j i; rw [HST.out] at this; exact this
     have HIN := hid hin2
     rw [hin2] at hown
     obtain ⟨i1, hi, hz0, hz1, hz2⟩ := info_parts info_row
     clear hin2
     go_wp2_with (at_builtin; refine wpList_append_own _ rfl _ _ 38 rfl w.heap.size 78 i1 (.slice none 0 0) 1 24 Tryz.underlying38 hi hz0 hz1 hz2 rfl (by decide) _ _ _ rfl (hown.alloc _) ⟨wr.heap.size, 0, none⟩ 1 1 [.slice (some ⟨wo.heap.size, 0, none⟩) j j] rfl rfl ?c1 ?c2 ?c3 ?c4 ?c5 ?_)
     case c1 => exact cell_one_new _ _ _
     case c2 => intro u hu; simp at hu; subst hu; rfl
     case c3 => unfold maxLen; omega
     case c4 => omega
     case c5 => have h1 := hb.size; have h2 := hbx.size; simp; omega
     intro v' w1 hown' hgrow _
     have hR : rowV wo.heap.size r = .slice (some ⟨wo.heap.size, 0, none⟩) j j := by unfold rowV; rw [HRL.out]
     rw [← hR] at hown'
     have HI := hid (HINV.out.push (by decide) hbx HROW.out (Nat.le_refl _) hb.size (by rw [HIN.out]; exact hown') hgrow)
     have HS := hid (show sqSt l j (i + 1) = (rows ++ [r], k) from by
      show ((sqSt l j i).1 ++ [(rowSt l j i (sqSt l j i).2 j).1], (rowSt l j i (sqSt l j i).2 j).2) = _
      rw [HST.out]
      show (rows ++ [(rowSt l j i K j).1], (rowSt l j i K j).2) = _
      rw [HST2.out])
     have hb1 : Below w.heap.size w w1 := ((hb.trans (hbx.mono hb.size)).alloc (Nat.le_trans hb.size hbx.size) _).grown hgrow (Nat.le_trans hb.size (Nat.le_trans hbx.size (by simp))) (fun b hbk => (HINV.out.1.lt b hbk).1)
     clear hown' hgrow hown hR hz hi hz0 hz1 hz2
     go_wp2
     go_roundw
     case rel => exact ⟨i + 1, _, _, _, by omega, HS.out, by go_num, rfl, HI.out, hb1⟩
     case measure => simp [intOf]; omega
  ·have hin2 : i = n := by omega
   subst hin2
   have HF := hid (show square11 l i = rows from by unfold square11; rw [HST.out])
   go_wp2
   go_ret
   have hl := sqSt_len l i i
   rw [HST.out] at hl
   have hl : rows.length = i := hl
   obtain ⟨ao, cp, hv, -, -⟩ := owns_slice HINV.out.1
   rw [hl] at hv
   subst hv
   exact ⟨ao, cp, rs, rfl, by rw [HF.out]; exact HINV.out, hb⟩
structure LSat where
 room : Int
 hold : Int
structure LWho where
 load : Int
 opn : Int
 wide : Int
 stay : Int
structure SmallD where
 fin : Int
 trucks : Int
 troom : Int
 bikes : Int
 broom : Int
 sats : List LSat
 custs : List LWho
 cost : List Int
 time : List Int
 tight : Bool
 loose : Bool
def wf8 (x : Int) : Prop := 0 ≤ x ∧ x ≤ 255
def lsatS : Shape LSat := plainS 2 (fun x cs => cs = [.int .u8 x.room, .int .u8 x.hold] ∧ wf8 x.room ∧ wf8 x.hold) (by rintro x cs ⟨rfl, _⟩; rfl)
def lwhoS : Shape LWho := plainS 4 (fun x cs => cs = [.int .u8 x.load, .int .u8 x.opn, .int .u8 x.wide, .int .u8 x.stay] ∧ wf8 x.load ∧ wf8 x.opn ∧ wf8 x.wide ∧ wf8 x.stay) (by rintro x cs ⟨rfl, _⟩; rfl)
def bytesS : Shape (List Int) := sliceS u8S
def lsatsS : Shape (List LSat) := sliceS lsatS
def lwhosS : Shape (List LWho) := sliceS lwhoS
def smallS : Shape SmallD where
 sz := 11
 rep := fun w F x cs => ∃ s c co ti, cs = [.int .u8 x.fin, .int .u8 x.trucks, .int .u8 x.troom, .int .u8 x.bikes, .int .u8 x.broom, s, c, co, ti, .bool x.tight, .bool x.loose] ∧
  (wf8 x.fin ∧ wf8 x.trucks ∧ wf8 x.troom ∧ wf8 x.bikes ∧ wf8 x.broom) ∧ lsatsS.rep w F x.sats [s] ∧ lwhosS.rep w F x.custs [c] ∧ bytesS.rep w F x.cost [co] ∧ bytesS.rep w F x.time [ti]
 len := by rintro w F x cs ⟨_, _, _, _, rfl, _⟩; rfl
 keep := by rintro w w' F x cs ⟨_, _, _, _, rfl, h0, h1, h2, h3, h4⟩ ha; exact ⟨_, _, _, _, rfl, h0, lsatsS.keep h1 ha, lwhosS.keep h2 ha, bytesS.keep h3 ha, bytesS.keep h4 ha⟩
 weak := by rintro w F G x cs ⟨_, _, _, _, rfl, h0, h1, h2, h3, h4⟩ ha; exact ⟨_, _, _, _, rfl, h0, lsatsS.weak h1 ha, lwhosS.weak h2 ha, bytesS.weak h3 ha, bytesS.weak h4 ha⟩
 lt := by rintro w F x cs ⟨_, _, _, _, rfl, h0, h1, h2, h3, h4⟩; exact ⟨_, _, _, _, rfl, h0, lsatsS.lt h1, lwhosS.lt h2, bytesS.lt h3, bytesS.lt h4⟩
theorem lsats_open {w : World} {F : Nat → Prop} {xs : List LSat} {cs : List Value} (h : lsatsS.rep w F xs cs) :
  ∃ (a : Option Addr) (b off c : Nat), cs = [.slice a xs.length c] ∧ xs.length ≤ c ∧ c ≤ 9223372036854775807 ∧ (0 < xs.length → a = some ⟨b, off, none⟩) ∧ (0 < xs.length → F b) ∧
   (∀ k (h : k < xs.length), w.cell? ⟨b, off + k * 2, none⟩ = some (.int .u8 xs[k].room) ∧ w.cell? ⟨b, off + k * 2 + 1, none⟩ = some (.int .u8 xs[k].hold)) ∧ ∀ x ∈ xs, wf8 x.room ∧ wf8 x.hold := by
 obtain ⟨a, b, off, c, rfl, h1, h2, h3, h4⟩ := h
 refine ⟨a, b, off, c, rfl, h1, h2, fun h => (h3 h).1, fun h => (h3 h).2, fun k hk => ?_, fun x hx => ?_⟩
 ·obtain ⟨es, ⟨rfl, _⟩, hc⟩ := h4 k hk
  have e0 := hc 0 (by decide)
  have e1 := hc 1 (by decide)
  exact ⟨by simpa [lsatS, plainS] using e0, by simpa [lsatS, plainS] using e1⟩
 ·obtain ⟨k, hk, rfl⟩ := List.getElem_of_mem hx
  obtain ⟨es, he, _⟩ := h4 k hk
  exact he.2
theorem lwhos_open {w : World} {F : Nat → Prop} {xs : List LWho} {cs : List Value} (h : lwhosS.rep w F xs cs) :
  ∃ (a : Option Addr) (b off c : Nat), cs = [.slice a xs.length c] ∧ xs.length ≤ c ∧ c ≤ 9223372036854775807 ∧ (0 < xs.length → a = some ⟨b, off, none⟩) ∧ (0 < xs.length → F b) ∧
   (∀ k (h : k < xs.length), w.cell? ⟨b, off + k * 4, none⟩ = some (.int .u8 xs[k].load) ∧ w.cell? ⟨b, off + k * 4 + 1, none⟩ = some (.int .u8 xs[k].opn) ∧
    w.cell? ⟨b, off + k * 4 + 2, none⟩ = some (.int .u8 xs[k].wide) ∧ w.cell? ⟨b, off + k * 4 + 3, none⟩ = some (.int .u8 xs[k].stay)) ∧
   ∀ x ∈ xs, wf8 x.load ∧ wf8 x.opn ∧ wf8 x.wide ∧ wf8 x.stay := by
 obtain ⟨a, b, off, c, rfl, h1, h2, h3, h4⟩ := h
 refine ⟨a, b, off, c, rfl, h1, h2, fun h => (h3 h).1, fun h => (h3 h).2, fun k hk => ?_, fun x hx => ?_⟩
 ·obtain ⟨es, ⟨rfl, _⟩, hc⟩ := h4 k hk
  have e0 := hc 0 (by decide)
  have e1 := hc 1 (by decide)
  have e2 := hc 2 (by decide)
  have e3 := hc 3 (by decide)
  exact ⟨by simpa [lwhoS, plainS] using e0, by simpa [lwhoS, plainS] using e1, by simpa [lwhoS, plainS] using e2, by simpa [lwhoS, plainS] using e3⟩
 ·obtain ⟨k, hk, rfl⟩ := List.getElem_of_mem hx
  obtain ⟨es, he, _⟩ := h4 k hk
  exact he.2
def wideOf (x : SmallD) : Int := if x.loose then 9 else 1
def satOf (x : SmallD) (s : LSat) : SatD := ⟨4 + wideOf x * (s.room % 40), s.hold % 12⟩
def loadOf (x : SmallD) (c : LWho) : Int := if x.tight then 1 + c.load % 6 + c.load / 32 else 1 + c.load % 6
def custOf (x : SmallD) (c : LWho) : CustD := ⟨loadOf x c, c.opn % 50, c.opn % 50 + wideOf x * c.wide, c.stay % 8⟩
def satsUp (x : SmallD) (k : Nat) : List SatD := ((x.sats.take k).take 3).map (satOf x)
def custsUp (x : SmallD) (k : Nat) : List CustD := ((x.custs.take k).take 6).map (custOf x)
def satsOf (x : SmallD) : List SatD := if x.sats = [] then [⟨60, 2⟩] else satsUp x x.sats.length
def custsOf (x : SmallD) : List CustD := if x.custs = [] then [⟨2, 5, 90, 1⟩] else custsUp x x.custs.length
def nodesOf (x : SmallD) : Nat := 1 + (satsOf x).length + (custsOf x).length
def makeD (x : SmallD) : InstD where
 fin := 40 + x.fin * wideOf x
 tmany := 1 + x.trucks % 4
 troom := 5 + wideOf x * (x.troom % 40)
 bmany := 1 + x.bikes % 6
 broom := 3 + wideOf x * (x.broom % 20)
 sats := satsOf x
 custs := custsOf x
 cost := square11 x.cost (nodesOf x)
 time := square11 x.time (nodesOf x)
def satV (s : SatD) : List Value := [intV s.room, intV s.hold]
def custV (c : CustD) : List Value := [intV c.load, intV c.opn, intV c.cls, intV c.stay]
theorem satsUp_lt {x : SmallD} {k : Nat} (h : k < x.sats.length) (h3 : k < 3) : satsUp x (k + 1) = satsUp x k ++ [satOf x x.sats[k]] := by
 unfold satsUp
 rw [List.take_take, List.take_take, show min 3 (k + 1) = k + 1 by omega, show min 3 k = k by omega, List.take_succ_eq_append_getElem h, List.map_append]
 rfl
theorem satsUp_ge {x : SmallD} {k : Nat} (h3 : 3 ≤ k) : satsUp x (k + 1) = satsUp x k := by
 unfold satsUp
 rw [List.take_take, List.take_take, show min 3 (k + 1) = 3 by omega, show min 3 k = 3 by omega]
theorem custsUp_lt {x : SmallD} {k : Nat} (h : k < x.custs.length) (h3 : k < 6) : custsUp x (k + 1) = custsUp x k ++ [custOf x x.custs[k]] := by
 unfold custsUp
 rw [List.take_take, List.take_take, show min 6 (k + 1) = k + 1 by omega, show min 6 k = k by omega, List.take_succ_eq_append_getElem h, List.map_append]
 rfl
theorem custsUp_ge {x : SmallD} {k : Nat} (h3 : 6 ≤ k) : custsUp x (k + 1) = custsUp x k := by
 unfold custsUp
 rw [List.take_take, List.take_take, show min 6 (k + 1) = 6 by omega, show min 6 k = 6 by omega]
theorem satsUp_len {x : SmallD} {k : Nat} (h : k ≤ x.sats.length) : (satsUp x k).length = min k 3 := by unfold satsUp; simp; omega
theorem custsUp_len {x : SmallD} {k : Nat} (h : k ≤ x.custs.length) : (custsUp x k).length = min k 6 := by unfold custsUp; simp; omega
theorem satsOf_len (x : SmallD) : 1 ≤ (satsOf x).length ∧ (satsOf x).length ≤ 3 := by
 unfold satsOf; split
 ·simp
 ·rename_i h
  have : 0 < x.sats.length := List.length_pos_iff.2 h
  rw [satsUp_len (Nat.le_refl _)]; omega
theorem custsOf_len (x : SmallD) : 1 ≤ (custsOf x).length ∧ (custsOf x).length ≤ 6 := by
 unfold custsOf; split
 ·simp
 ·rename_i h
  have : 0 < x.custs.length := List.length_pos_iff.2 h
  rw [custsUp_len (Nat.le_refl _)]; omega
theorem nodesOf_le (x : SmallD) : 3 ≤ nodesOf x ∧ nodesOf x ≤ 10 := by
 have := satsOf_len x; have := custsOf_len x; unfold nodesOf; omega
def InstOwn (TS TC TR TI : Nat) (w : World) (B : Nat) (x : InstD) (cs : List Value) : Prop :=
 ∃ gs cs1 gc cc1 vco vti gco rco gti rti, cs = [intV x.fin, intV x.tmany, intV x.troom, intV x.bmany, intV x.broom, .slice (some ⟨gs, 0, none⟩) x.sats.length cs1, .slice (some ⟨gc, 0, none⟩) x.custs.length cc1, vco, vti] ∧
  (x.sats.length ≤ cs1 ∧ cs1 ≤ maxLen ∧ x.custs.length ≤ cc1 ∧ cc1 ≤ maxLen) ∧ B ≤ gs ∧ B ≤ gc ∧ Row w gs TS (x.sats.flatMap satV) ∧ Row w gc TC (x.custs.flatMap custV) ∧
  RowsOwn w B TR TI vco x.cost gco rco ∧ RowsOwn w B TR TI vti x.time gti rti ∧ gco ≠ gti ∧ (∀ a ∈ rco, ∀ b ∈ rti, a ≠ b)
theorem RowsOwn.keepOn {w w' : World} {B TR TI TX : Nat} {v : Value} {rows : List (List Int)} {g : Nat} {rs : List Nat} (h : RowsOwn w B TR TI v rows g rs) (hk : ∀ b e cs, Row w b e cs → e ≠ TX → w'.heap[b]? = w.heap[b]?) (h1 : TR ≠ TX) (h2 : TI ≠ TX) :
  RowsOwn w' B TR TI v rows g rs := by
 obtain ⟨c, k0, k1, k2, k3, k4, k5, k6, k7, k8⟩ := h
 exact ⟨c, k0, k1, k2, k3, k4.keep (hk _ _ _ k4 h1), k5, fun i h h' => (k6 i h h').keep (hk _ _ _ (k6 i h h') h2), k7, k8⟩
theorem RowsOwn.mono {w : World} {B B' TR TI : Nat} {v : Value} {rows : List (List Int)} {g : Nat} {rs : List Nat} (h : RowsOwn w B TR TI v rows g rs) (hB : B' ≤ B) : RowsOwn w B' TR TI v rows g rs := by
 obtain ⟨c, k0, k1, k2, k3, k4, k5, k6, k7, k8⟩ := h
 exact ⟨c, k0, k1, k2, Nat.le_trans hB k3, k4, k5, k6, k7, fun b hb => Nat.le_trans hB (k8 b hb)⟩
theorem InstOwn.keepOn {TS TC TR TI TX B : Nat} {w w' : World} {x : InstD} {cs : List Value} (h : InstOwn TS TC TR TI w B x cs) (hk : ∀ b e cs, Row w b e cs → e ≠ TX → w'.heap[b]? = w.heap[b]?)
  (h1 : TS ≠ TX) (h2 : TC ≠ TX) (h3 : TR ≠ TX) (h4 : TI ≠ TX) : InstOwn TS TC TR TI w' B x cs := by
 obtain ⟨gs, cs1, gc, cc1, vco, vti, gco, rco, gti, rti, k0, k1, k2, k3, k4, k5, k6, k7, k8, k9⟩ := h
 exact ⟨gs, cs1, gc, cc1, vco, vti, gco, rco, gti, rti, k0, k1, k2, k3, k4.keep (hk _ _ _ k4 h1), k5.keep (hk _ _ _ k5 h2), k6.keepOn hk h3 h4, k7.keepOn hk h3 h4, k8, k9⟩
theorem InstOwn.mono {TS TC TR TI B B' : Nat} {w : World} {x : InstD} {cs : List Value} (h : InstOwn TS TC TR TI w B x cs) (hB : B' ≤ B) : InstOwn TS TC TR TI w B' x cs := by
 obtain ⟨gs, cs1, gc, cc1, vco, vti, gco, rco, gti, rti, k0, k1, k2, k3, k4, k5, k6, k7, k8, k9⟩ := h
 exact ⟨gs, cs1, gc, cc1, vco, vti, gco, rco, gti, rti, k0, k1, Nat.le_trans hB k2, Nat.le_trans hB k3, k4, k5, k6.mono hB, k7.mono hB, k8, k9⟩
theorem InstOwn.below {TS TC TR TI B : Nat} {w w' : World} {x : InstD} {cs : List Value} (h : InstOwn TS TC TR TI w B x cs) (hb : Below w.heap.size w w') : InstOwn TS TC TR TI w' B x cs := by
 obtain ⟨gs, cs1, gc, cc1, vco, vti, gco, rco, gti, rti, h0, h1, h2, h3, h4, h5, h6, h7, h8, h9⟩ := h
 exact ⟨gs, cs1, gc, cc1, vco, vti, gco, rco, gti, rti, h0, h1, h2, h3, h4.below hb, h5.below hb, h6.below hb, h7.below hb, h8, h9⟩
def InstWf (x : InstD) : Prop :=
 (wf64 x.fin ∧ wf64 x.tmany ∧ wf64 x.troom ∧ wf64 x.bmany ∧ wf64 x.broom) ∧ (∀ s ∈ x.sats, wf64 s.room ∧ wf64 s.hold) ∧ (∀ c ∈ x.custs, wf64 c.load ∧ wf64 c.opn ∧ wf64 c.cls ∧ wf64 c.stay) ∧
  (∀ r ∈ x.cost, r.length ≤ maxLen ∧ ∀ v ∈ r, wf64 v) ∧ ∀ r ∈ x.time, r.length ≤ maxLen ∧ ∀ v ∈ r, wf64 v
theorem flatMap_get {α β : Type} (f : α → List β) (k : Nat) (hf : ∀ x, (f x).length = k) : ∀ (xs : List α) (i j : Nat) (hi : i < xs.length), j < k → (xs.flatMap f)[i * k + j]? = (f xs[i])[j]?
 | x :: xs, 0, j, _, hj => by
  rw [List.flatMap_cons, Nat.zero_mul, Nat.zero_add, List.getElem?_append_left (by rw [hf]; exact hj)]; rfl
 | x :: xs, i + 1, j, hi, hj => by
  rw [List.flatMap_cons, List.getElem?_append_right (by rw [hf, Nat.succ_mul]; omega), hf, show (i + 1) * k + j - k = i * k + j by rw [Nat.succ_mul]; omega]
  exact flatMap_get f k hf xs i j (by simpa using hi) hj
theorem Row.get {w : World} {g : Nat} {e : TypeId} {cs : List Value} (h : Row w g e cs) {j : Nat} {v : Value} (hv : cs[j]? = some v) : w.cell? ⟨g, j, none⟩ = some v := by
 obtain ⟨hj, rfl⟩ := List.getElem?_eq_some_iff.1 hv
 exact h.cell hj
theorem sats_rep {TS : Nat} {w : World} {F : Nat → Prop} {xs : List SatD} {g c : Nat} (h : Row w g TS (xs.flatMap satV)) (h1 : xs.length ≤ c) (h2 : c ≤ maxLen) (hF : F g) (hw : ∀ s ∈ xs, wf64 s.room ∧ wf64 s.hold) :
  satsS.rep w F xs [.slice (some ⟨g, 0, none⟩) xs.length c] := by
 refine ⟨some ⟨g, 0, none⟩, g, 0, c, rfl, h1, h2, fun _ => ⟨rfl, hF⟩, fun i hi => ⟨satV xs[i], ⟨rfl, hw _ (List.getElem_mem hi)⟩, fun j hj => ?_⟩⟩
 have hj2 : j < 2 := hj
 have e := flatMap_get satV 2 (fun _ => rfl) xs i j hi hj2
 have e2 : (satV xs[i])[j]? = some ((satV xs[i])[j]'hj2) := List.getElem?_eq_getElem hj2
 rw [e2] at e ⊢
 rw [Nat.zero_add]
 exact h.get e
theorem custs_rep {TS : Nat} {w : World} {F : Nat → Prop} {xs : List CustD} {g c : Nat} (h : Row w g TS (xs.flatMap custV)) (h1 : xs.length ≤ c) (h2 : c ≤ maxLen) (hF : F g) (hw : ∀ c ∈ xs, wf64 c.load ∧ wf64 c.opn ∧ wf64 c.cls ∧ wf64 c.stay) :
  custsS.rep w F xs [.slice (some ⟨g, 0, none⟩) xs.length c] := by
 refine ⟨some ⟨g, 0, none⟩, g, 0, c, rfl, h1, h2, fun _ => ⟨rfl, hF⟩, fun i hi => ⟨custV xs[i], ⟨rfl, hw _ (List.getElem_mem hi)⟩, fun j hj => ?_⟩⟩
 have hj2 : j < 4 := hj
 have e := flatMap_get custV 4 (fun _ => rfl) xs i j hi hj2
 have e2 : (custV xs[i])[j]? = some ((custV xs[i])[j]'hj2) := List.getElem?_eq_getElem hj2
 rw [e2] at e ⊢
 rw [Nat.zero_add]
 exact h.get e
theorem ints_rep {TI : Nat} {w : World} {F : Nat → Prop} {xs : List Int} {g c : Nat} (h : Row w g TI (xs.map intV)) (h1 : xs.length ≤ c) (h2 : c ≤ maxLen) (hF : F g) (hw : ∀ v ∈ xs, wf64 v) :
  (sliceS intS).rep w F xs [.slice (some ⟨g, 0, none⟩) xs.length c] := by
 refine ⟨some ⟨g, 0, none⟩, g, 0, c, rfl, h1, h2, fun _ => ⟨rfl, hF⟩, fun i hi => ⟨[intV xs[i]], ⟨rfl, hw _ (List.getElem_mem hi)⟩, fun j hj => ?_⟩⟩
 have hj1 : j < 1 := hj
 have hj0 : j = 0 := by omega
 subst hj0
 show w.cell? ⟨g, 0 + i * 1 + 0, none⟩ = some (intV xs[i])
 rw [show 0 + i * 1 + 0 = i by omega]
 exact h.get (by simp [List.getElem?_eq_getElem hi])
theorem RowsOwn.rep {TR TI B : Nat} {w : World} {v : Value} {rows : List (List Int)} {g : Nat} {rs : List Nat} (h : RowsOwn w B TR TI v rows g rs) (hw : ∀ r ∈ rows, r.length ≤ maxLen ∧ ∀ v ∈ r, wf64 v) :
  rowsS.rep w (fun b => B ≤ b) rows [v] := by
 obtain ⟨c, rfl, h1, h2, h3, h4, h5, h6, h7, h8⟩ := h
 refine ⟨some ⟨g, 0, none⟩, g, 0, c, rfl, h1, h2, fun _ => ⟨rfl, h3⟩, fun i hi => ⟨[rowV (rs[i]'(by omega)) rows[i]], ?_, fun j hj => ?_⟩⟩
 ·have hb := h8 _ (List.getElem_mem (l := rs) (n := i) (by omega))
  exact ints_rep (h6 i (by omega) hi) (Nat.le_refl _) (hw _ (List.getElem_mem hi)).1 hb (hw _ (List.getElem_mem hi)).2
 ·have hj1 : j < 1 := hj
  have hj0 : j = 0 := by omega
  subst hj0
  show w.cell? ⟨g, 0 + i * 1 + 0, none⟩ = some (rowV (rs[i]'(by omega)) rows[i])
  rw [show 0 + i * 1 + 0 = i by omega]
  exact h4.get (by rw [List.getElem?_zipWith, List.getElem?_eq_getElem (by omega : i < rs.length), List.getElem?_eq_getElem hi])
theorem InstOwn.rep {TS TC TR TI B : Nat} {w : World} {x : InstD} {cs : List Value} (h : InstOwn TS TC TR TI w B x cs) (hw : InstWf x) : instS.rep w (fun b => B ≤ b) x cs := by
 obtain ⟨gs, cs1, gc, cc1, vco, vti, gco, rco, gti, rti, rfl, ⟨k1, k2, k3, k4⟩, h2, h3, h4, h5, h6, h7, -, -⟩ := h
 exact ⟨_, _, _, _, rfl, hw.1, sats_rep h4 k1 k2 h2 hw.2.1, custs_rep h5 k3 k4 h3 hw.2.2.1, h6.rep hw.2.2.2.1, h7.rep hw.2.2.2.2⟩
theorem InstOwn.lit {TS TC TR TI B : Nat} {w : World} {x : InstD} {cs : List Value} (h : InstOwn TS TC TR TI w B x cs) : ∃ gs cs1 gc cc1 gco cco gti cti,
  cs = [.int .i64 x.fin, .int .i64 x.tmany, .int .i64 x.troom, .int .i64 x.bmany, .int .i64 x.broom, .slice (some ⟨gs, 0, none⟩) x.sats.length cs1, .slice (some ⟨gc, 0, none⟩) x.custs.length cc1, .slice (some ⟨gco, 0, none⟩) x.cost.length cco, .slice (some ⟨gti, 0, none⟩) x.time.length cti] := by
 obtain ⟨gs, cs1, gc, cc1, vco, vti, gco, rco, gti, rti, rfl, -, -, -, -, -, ⟨c, rfl, _⟩, ⟨c', rfl, _⟩, -, -⟩ := h
 exact ⟨_, _, _, _, _, _, _, _, rfl⟩
open Go.RowKit Go.Sort
def idxV (i : Nat) : Value := .int .i64 (i : Int)
end Go.Proofs.YtabadfkikdefeaaGreat
namespace Go.Proofs.YtabadfkikdefeaaGreat
open Go.RowKit
def mayB (n l : Int) : Bool := decide (l ≤ n) && decide (n ≤ 1000000000)
theorem may_c (n l : Int) (w : World) :
  Calls Tryz.prog 171 #[.int .i64 n, .int .i64 l] w fun e w' => e = .returned (.bool (mayB n l)) ∧ w' = w := by
 by_cases h1 : l ≤ n <;> by_cases h2 : n ≤ 1000000000
 all_goals
  go_enter Tryz.func171, Tryz.ntmps171
  go_wp2
  go_ret
  exact ⟨ret_bool (by simp [mayB]; omega), rfl⟩
def manyB (n m : Int) : Bool := decide (1 ≤ n) && decide (n ≤ m)
theorem many_c (n m : Int) (w : World) :
  Calls Tryz.prog 112 #[.int .i64 n, .int .i64 m] w fun e w' => e = .returned (.bool (manyB n m)) ∧ w' = w := by
 by_cases h1 : 1 ≤ n <;> by_cases h2 : n ≤ m
 all_goals
  go_enter Tryz.func112, Tryz.ntmps112
  go_wp2
  go_ret
  exact ⟨ret_bool (by simp [manyB]; omega), rfl⟩
def nodes (x : InstD) : Nat := 1 + x.sats.length + x.custs.length
theorem nodes_c {w : World} {F : Nat → Prop} {x : InstD} {cs : List Value} (h : instS.rep w F x cs) (hl : x.sats.length ≤ 1000000) (hl' : x.custs.length ≤ 1000000) :
  Calls Tryz.prog 114 #[.agg cs.toArray] w fun e w' => e = .returned (.int .i64 (nodes x : Nat)) ∧ Below w.heap.size w w' := by
 obtain ⟨s, c, co, ti, rfl, -, h1, h2, -, -⟩ := h
 obtain ⟨a, b, off, c1, hs, -, -, -, -, -, -⟩ := sats_open h1
 obtain ⟨a', b', off', c1', hs', -, -, -, -, -, -⟩ := custs_open h2
 obtain rfl := List.cons.inj hs |>.1
 obtain rfl := List.cons.inj hs' |>.1
 clear hs hs' h1 h2
 go_enter Tryz.func114, Tryz.ntmps114
 go_wp2
 go_ret
 exact ⟨ret_int (by simp [nodes]), (Below.refl _ _).alloc (Nat.le_refl _) _⟩
theorem square1_c {w : World} {F : Nat → Prop} {r : List Int} {v : Value} (h : (sliceS intS).rep w F r [v]) (q : Nat) (n : Int) (hq : w.cell? ⟨q, 0, none⟩ = some (.int .i64 n)) :
  Calls Tryz.prog 170 #[v, .pointer (some ⟨q, 0, none⟩)] w fun e w' => e = .returned (.bool ((r.length : Int) != n)) ∧ w' = w := by
 obtain ⟨a, b, off, c1, hs, -, -, -, -, -, -⟩ := ints_open h
 obtain rfl := List.cons.inj hs |>.1
 clear hs h
 go_enter Tryz.func170, Tryz.ntmps170
 go_wp2
 go_ret
 exact ⟨rfl, rfl⟩
def idxOf {α : Type} (p : α → Bool) (l : List α) : Int := match l.findIdx? p with | some i => (i : Int) | none => -1
theorem idx_hit {α : Type} {p : α → Bool} {l : List α} {k : Nat} (hk : k < l.length) (h0 : ∀ j (h : j < k), p (l[j]'(Nat.lt_trans h hk)) = false) (h : p l[k] = true) : idxOf p l = k := by
 unfold idxOf
 have : l.findIdx? p = some k := List.findIdx?_eq_some_iff_getElem.2 ⟨hk, h, fun j hj => by simpa using h0 j hj⟩
 rw [this]
theorem idx_none {α : Type} {p : α → Bool} {l : List α} (h0 : ∀ j (h : j < l.length), p l[j] = false) : idxOf p l = -1 := by
 unfold idxOf
 have : l.findIdx? p = none := List.findIdx?_eq_none_iff.2 fun x hx => by
  obtain ⟨j, hj, rfl⟩ := List.getElem_of_mem hx
  exact h0 j hj
 rw [this]
theorem idx_ge {α : Type} (p : α → Bool) (l : List α) : decide (0 ≤ idxOf p l) = l.any p := by
 unfold idxOf
 cases h : l.findIdx? p with
 | none =>
  rw [List.findIdx?_eq_none_iff] at h
  have : l.any p = false := by
   rw [List.any_eq_false]; intro x hx; simp [h x hx]
  rw [this]; rfl
 | some i =>
  obtain ⟨hi, hp, _⟩ := List.findIdx?_eq_some_iff_getElem.1 h
  have : l.any p = true := List.any_eq_true.2 ⟨l[i], List.getElem_mem hi, hp⟩
  rw [this]; simp
theorem indexRows_c {w : World} {F : Nat → Prop} {l : List (List Int)} {v : Value} (h : rowsS.rep w F l [v]) (q : Nat) (n : Int) (hq : w.cell? ⟨q, 0, none⟩ = some (.int .i64 n)) :
  Calls Tryz.prog 205 #[v, .func (.func 170) #[] #[.pointer (some ⟨q, 0, none⟩)]] w fun e w' => e = .returned (.int .i64 (idxOf (fun r : List Int => (r.length : Int) != n) l)) ∧ w' = w := by
 obtain ⟨a, b, off, c1, hs, hlc, hc, ha, hF, hcell⟩ := rows_open h
 obtain rfl := List.cons.inj hs |>.1
 clear hs h
 go_enter Tryz.func205, Tryz.ntmps205
 go_wp2
 go_loop [5, 8] (fun _ i => ∃ k : Nat, k ≤ l.length ∧ i = .int .i64 k ∧ ∀ j (h : j < l.length), j < k → ((l[j].length : Int) != n) = false) (fun _ i => l.length - (intOf i).toNat)
 case atStart => exact ⟨0, Nat.zero_le _, rfl, fun _ _ h => absurd h (Nat.not_lt_zero _)⟩
 case round =>
  obtain ⟨k, hk, rfl, hp⟩ := hrel
  by_cases hlt : k < l.length
  ·have hx := idx_at1 (c := c1) Tryz.underlying38 sz_row (ha (by omega)) hlt
   obtain ⟨v, hv, hr⟩ := hcell k hlt
   have HP := hid hp
   clear hp hcell ha
   cases hpk : ((l[k].length : Int) != n)
   ·go_wp2_with ((with_reducible refine (square1_c hr q n hq).mono ?_); rintro e w' ⟨rfl, rfl⟩)
    go_round
    case rel => exact ⟨k + 1, by omega, by go_num, fun j hj hjk => by
     by_cases hjk' : j = k
     ·subst hjk'; exact hpk
     ·exact HP.out j hj (by omega)⟩
    case measure => simp [intOf]; omega
   ·go_wp2_with ((with_reducible refine (square1_c hr q n hq).mono ?_); rintro e w' ⟨rfl, rfl⟩)
    go_ret
    exact ⟨ret_int (idx_hit (p := fun r : List Int => (r.length : Int) != n) hlt (fun j hj => HP.out j (by omega) hj) hpk).symm, rfl⟩
  ·have HP := hid hp
   clear hp hcell ha
   go_wp2
   go_ret
   exact ⟨ret_int (idx_none (p := fun r : List Int => (r.length : Int) != n) (fun j hj => HP.out j hj (by omega))).symm, rfl⟩
theorem containsRows_c {w : World} {F : Nat → Prop} {l : List (List Int)} {v : Value} (h : rowsS.rep w F l [v]) (q : Nat) (n : Int) (hq : w.cell? ⟨q, 0, none⟩ = some (.int .i64 n)) :
  Calls Tryz.prog 169 #[v, .func (.func 170) #[] #[.pointer (some ⟨q, 0, none⟩)]] w fun e w' => e = .returned (.bool (l.any (fun r : List Int => (r.length : Int) != n))) ∧ w' = w := by
 go_enter Tryz.func169, Tryz.ntmps169
 go_wp2_with ((with_reducible refine (indexRows_c h q n hq).mono ?_); rintro e w' ⟨rfl, rfl⟩)
 go_ret
 exact ⟨ret_bool (idx_ge _ _), rfl⟩
def squareB (l : List (List Int)) (n : Int) : Bool := ((l.length : Int) == n) && !(l.any (fun r : List Int => (r.length : Int) != n))
theorem square_c {w : World} {F : Nat → Prop} {l : List (List Int)} {v : Value} (h : rowsS.rep w F l [v]) (n : Int) :
  Calls Tryz.prog 113 #[v, .int .i64 n] w fun e w' => e = .returned (.bool (squareB l n)) ∧ Below w.heap.size w w' := by
 obtain ⟨a, b, off, c1, hs, -, -, -, -, -⟩ := rows_open h
 obtain rfl := List.cons.inj hs |>.1
 clear hs
 have hb : Below w.heap.size w (w.alloc (.cells #[.int .i64 n] 3)) := (Below.refl _ _).alloc (Nat.le_refl _) _
 have h' := rowsS.below h hb
 have hq : (w.alloc (.cells #[.int .i64 n] 3)).cell? ⟨w.heap.size, 0, none⟩ = some (.int .i64 n) := by simp
 cases hn : ((l.length : Int) == n)
 ·go_enter Tryz.func113, Tryz.ntmps113
  go_wp2
  go_ret
  exact ⟨ret_bool (by simp [squareB, hn]), hb⟩
 ·go_enter Tryz.func113, Tryz.ntmps113
  go_wp2_with ((with_reducible refine (containsRows_c h' w.heap.size n hq).mono ?_); rintro e w' ⟨rfl, rfl⟩)
  go_ret
  exact ⟨ret_bool (by simp [squareB, hn]), hb⟩
theorem square_b {w : World} {F : Nat → Prop} {l : List (List Int)} {v : Value} (h : rowsS.rep w F l [v]) {n : Int} {b : Bool} (hb : squareB l n = b) :
  Calls Tryz.prog 113 #[v, .int .i64 n] w fun e w' => e = .returned (.bool b) ∧ Below w.heap.size w w' := by
 subst hb; exact square_c h n
def satB (s : SatD) : Bool := mayB s.room 0 && mayB s.hold 0
def custB (c : CustD) : Bool := mayB c.load 1 && mayB c.opn 0 && mayB c.cls c.opn && mayB c.stay 0
def cellB (i k : Nat) (n : Int) : Bool := mayB n 0 && (((i : Int) != (k : Int)) || n == 0)
def rowB (i : Nat) (r : List Int) (m : Nat) : Bool := (List.range m).all fun k => cellB i k (r.getD k 0)
def matB (l : List (List Int)) (m : Nat) : Bool := (List.range m).all fun i => rowB i (l.getD i []) (l.getD i []).length
def headB (x : InstD) : Bool := mayB x.fin 0 && mayB x.troom 0 && mayB x.broom 0
def numbersB (x : InstD) : Bool := headB x && x.sats.all satB && x.custs.all custB && matB x.cost x.cost.length && matB x.time x.time.length
theorem rowB_succ (i : Nat) (r : List Int) (k : Nat) (h : k < r.length) : rowB i r (k + 1) = (rowB i r k && cellB i k r[k]) := by
 unfold rowB; rw [List.range_succ, List.all_append]; simp [List.getD, List.getElem?_eq_getElem h]
theorem matB_succ (l : List (List Int)) (k : Nat) (h : k < l.length) : matB l (k + 1) = (matB l k && rowB k l[k] l[k].length) := by
 unfold matB; rw [List.range_succ, List.all_append]; simp [List.getD, List.getElem?_eq_getElem h]
def okSats (x : InstD) (k : Nat) : Bool := headB x && (x.sats.take k).all satB
def okCusts (x : InstD) (k : Nat) : Bool := okSats x x.sats.length && (x.custs.take k).all custB
theorem okSats_succ (x : InstD) (k : Nat) (h : k < x.sats.length) : okSats x (k + 1) = (okSats x k && satB x.sats[k]) := by
 unfold okSats; rw [all_take_succ _ _ _ h, Bool.and_assoc]
theorem okCusts_succ (x : InstD) (k : Nat) (h : k < x.custs.length) : okCusts x (k + 1) = (okCusts x k && custB x.custs[k]) := by
 unfold okCusts; rw [all_take_succ _ _ _ h, Bool.and_assoc]
def matOf (x : InstD) (k : Nat) : List (List Int) := if k = 0 then x.cost else x.time
def okMats (x : InstD) (k : Nat) : Bool := okCusts x x.custs.length && (List.range k).all fun j => matB (matOf x j) (matOf x j).length
theorem okMats_succ (x : InstD) (k : Nat) : okMats x (k + 1) = (okMats x k && matB (matOf x k) (matOf x k).length) := by
 unfold okMats; rw [List.range_succ, List.all_append, ← Bool.and_assoc]; simp
theorem okMats_two (x : InstD) : okMats x 2 = numbersB x := by
 simp [okMats, okCusts, okSats, numbersB, matOf, List.range_succ, Bool.and_assoc]
theorem chainCell (p q r s : Bool) : p = false ∨ (p = true ∧ q = false) ∨ (p = true ∧ q = true ∧ r = true) ∨ (p = true ∧ q = true ∧ r = false ∧ s = false) ∨ (p = true ∧ q = true ∧ r = false ∧ s = true) := by
 cases p <;> cases q <;> cases r <;> cases s <;> simp
def okRow (x : InstD) (j i : Nat) (l : List (List Int)) : Bool := okMats x j && matB l i
def okCell (x : InstD) (j i k : Nat) (l : List (List Int)) (r : List Int) : Bool := okRow x j i l && rowB i r k
theorem okRow_succ (x : InstD) (j i : Nat) (l : List (List Int)) (h : i < l.length) : okRow x j (i + 1) l = okCell x j i l[i].length l l[i] := by
 unfold okCell okRow; rw [matB_succ _ _ h, Bool.and_assoc]
theorem okCell_succ (x : InstD) (j i k : Nat) (l : List (List Int)) (r : List Int) (h : k < r.length) : okCell x j i (k + 1) l r = (okCell x j i k l r && cellB i k r[k]) := by
 unfold okCell; rw [rowB_succ _ _ _ h, Bool.and_assoc]
theorem numbers_c {w : World} {F : Nat → Prop} {x : InstD} {cs : List Value} (h : instS.rep w F x cs) :
  Calls Tryz.prog 115 #[.agg cs.toArray] w fun e w' => e = .returned (.bool (numbersB x)) ∧ Below w.heap.size w w' := by
 obtain ⟨s, c, co, ti, rfl, -, h1, h2, h3, h4⟩ := h
 obtain ⟨a, b, off, c1, hs, hlc, hc, ha, -, hcell, -⟩ := sats_open h1
 obtain ⟨a', b', off', c1', hs', hlc', hc', ha', -, hcell', -⟩ := custs_open h2
 obtain rfl := List.cons.inj hs |>.1
 obtain rfl := List.cons.inj hs' |>.1
 obtain ⟨a3, b3, off3, c3, hs3, hlc3, hc3, ha3, -, hcell3⟩ := rows_open h3
 obtain ⟨a4, b4, off4, c4, hs4, hlc4, hc4, ha4, -, hcell4⟩ := rows_open h4
 obtain rfl := List.cons.inj hs3 |>.1
 obtain rfl := List.cons.inj hs4 |>.1
 clear hs hs' h1 h2 hs3 hs4 h3 h4
 have hst : okSats x 0 = headB x := by simp [okSats]
 have HST := hid hst
 clear hst
 go_enter Tryz.func115, Tryz.ntmps115
 go_upto_region 1 with fail
 go_cut [3] (fun s3 wx => s3 = .bool (okSats x 0) ∧ Below w.heap.size w wx ∧ w.heap.size < wx.heap.size ∧ wx.cell? ⟨w.heap.size, 5, none⟩ = some (.slice a x.sats.length c1) ∧
  wx.cell? ⟨w.heap.size, 6, none⟩ = some (.slice a' x.custs.length c1') ∧ wx.cell? ⟨w.heap.size, 7, none⟩ = some (.slice a3 x.cost.length c3) ∧ wx.cell? ⟨w.heap.size, 8, none⟩ = some (.slice a4 x.time.length c4))
 case first =>
  cases e1 : mayB x.fin 0 <;> cases e2 : mayB x.troom 0 <;> cases e3 : mayB x.broom 0
  all_goals
   have HH : Hid (headB x = (mayB x.fin 0 && mayB x.troom 0 && mayB x.broom 0)) := rfl
   go_wp2_with ((with_reducible refine (may_c _ _ _).mono ?_); rintro e w' ⟨rfl, rfl⟩)
   go_meet
   exact ⟨by rw [HST.out, HH.out, e1, e2, e3]; rfl, (Below.refl _ _).alloc (Nat.le_refl _) _, by simp, by simp, by simp, by simp, by simp⟩
 case rest =>
  obtain ⟨rfl, hb0, hz, q3, q4, q5, q6⟩ := hcut
  clear HST
  obtain ⟨w0, rfl⟩ : ∃ w0 : World, w0 = wc := ⟨_, rfl⟩
  go_wp2
  go_loopw [3, 32] (fun ok i wr => ∃ k : Nat, k ≤ x.sats.length ∧ i = .int .i64 k ∧ ok = .bool (okSats x k) ∧ Below w0.heap.size w0 wr) (fun _ i _ => x.sats.length - (intOf i).toNat)
  case atStart => exact ⟨0, Nat.zero_le _, rfl, rfl, Below.refl _ _⟩
  case round =>
   obtain ⟨k, hk, rfl, rfl, hb⟩ := hrel
   by_cases hlt : k < x.sats.length
   ·have hx := idx_at (c := c1) Tryz.underlying54 sz_sat (ha (by omega)) hlt
    have g0 := below_cell (hb0.trans (hb.mono (by omega))) (hcell k hlt).1
    have g1 := below_cell (hb0.trans (hb.mono (by omega))) (hcell k hlt).2
    have HS := hid (okSats_succ x k hlt)
    have HB : Hid (satB x.sats[k] = (mayB x.sats[k].room 0 && mayB x.sats[k].hold 0)) := rfl
    clear hcell hcell' ha ha'
    cases e0 : okSats x k <;> cases e1 : mayB x.sats[k].room 0 <;> cases e2 : mayB x.sats[k].hold 0
    all_goals
     go_wp2_with ((with_reducible refine (may_c _ _ _).mono ?_); rintro e w' ⟨rfl, rfl⟩)
     go_roundw
     case rel => exact ⟨k + 1, by omega, by go_num, by rw [HS.out, HB.out, e0, e1, e2]; rfl, (hb.alloc hb.size _)⟩
     case measure => simp [intOf]; omega
   ·have hks : k = x.sats.length := by omega
    subst hks
    clear hcell ha
    have hb1 := hb0.trans (hb.mono (by omega))
    have r4 := below_cell hb q4
    have r5 := below_cell hb q5
    have r6 := below_cell hb q6
    have hz1 : w.heap.size < wr.heap.size := Nat.lt_of_lt_of_le hz hb.size
    clear q3 q4 q5 q6 hz hb0 hb
    go_wp2
    obtain ⟨w1, rfl⟩ : ∃ w1 : World, w1 = wr := ⟨_, rfl⟩
    have HC0 : okSats x x.sats.length = okCusts x 0 := by simp [okCusts]
    rw [HC0]
    clear HC0
    go_loopw [3, 51] (fun ok i wr => ∃ k : Nat, k ≤ x.custs.length ∧ i = .int .i64 k ∧ ok = .bool (okCusts x k) ∧ Below w1.heap.size w1 wr) (fun _ i _ => x.custs.length - (intOf i).toNat)
    case atStart => exact ⟨0, Nat.zero_le _, rfl, rfl, Below.refl _ _⟩
    case round =>
     obtain ⟨k, hk, rfl, rfl, hb⟩ := hrel
     by_cases hlt : k < x.custs.length
     ·have hx := idx_at (c := c1') Tryz.underlying55 sz_cust (ha' (by omega)) hlt
      have g0 := below_cell (hb1.trans (hb.mono (by omega))) (hcell' k hlt).1
      have g1 := below_cell (hb1.trans (hb.mono (by omega))) (hcell' k hlt).2.1
      have g2 := below_cell (hb1.trans (hb.mono (by omega))) (hcell' k hlt).2.2.1
      have g3 := below_cell (hb1.trans (hb.mono (by omega))) (hcell' k hlt).2.2.2
      have HS := hid (okCusts_succ x k hlt)
      have HB : Hid (custB x.custs[k] = (mayB x.custs[k].load 1 && mayB x.custs[k].opn 0 && mayB x.custs[k].cls x.custs[k].opn && mayB x.custs[k].stay 0)) := rfl
      clear hcell' ha' r4 r5 r6
      rcases chain5 (okCusts x k) (mayB x.custs[k].load 1) (mayB x.custs[k].opn 0) (mayB x.custs[k].cls x.custs[k].opn) (mayB x.custs[k].stay 0) with e0 | ⟨e0, e1⟩ | ⟨e0, e1, e2⟩ | ⟨e0, e1, e2, e3⟩ | ⟨e0, e1, e2, e3, e4⟩ | ⟨e0, e1, e2, e3, e4⟩
      all_goals
       go_wp2_with ((with_reducible refine (may_c _ _ _).mono ?_); rintro e w' ⟨rfl, rfl⟩)
       go_roundw
       case rel => exact ⟨k + 1, by omega, by go_num, by rw [HS.out, HB.out]; first | (rw [e0]; rfl) | (rw [e0, e1]; rfl) | (rw [e0, e1, e2]; rfl) | (rw [e0, e1, e2, e3]; rfl) | (rw [e0, e1, e2, e3, e4]; rfl), (hb.alloc hb.size _)⟩
       case measure => simp [intOf]; omega
     ·have hks : k = x.custs.length := by omega
      subst hks
      clear hcell' ha' r4
      have hb2 := hb1.trans (hb.mono (by omega))
      have q5 := below_cell hb r5
      have q6 := below_cell hb r6
      have hz2 : w.heap.size < wr.heap.size := Nat.lt_of_lt_of_le hz1 hb.size
      clear r5 r6 hz1 hb1 hb
      go_wp2
      obtain ⟨w2, rfl⟩ : ∃ w2 : World, w2 = wr := ⟨_, rfl⟩
      have HM0 : okCusts x x.custs.length = okMats x 0 := by simp [okMats]
      rw [HM0]
      clear HM0
      go_loop [3, 84] (fun ok i => ∃ j : Nat, j ≤ 2 ∧ i = .int .i64 j ∧ ok = .bool (okMats x j)) (fun _ i => 2 - (intOf i).toNat)
      case atStart => exact ⟨0, by omega, rfl, rfl⟩
      case round =>
       obtain ⟨j, hj, rfl, rfl⟩ := hrel
       by_cases hlt : j < 2
       ·have hm : ∃ (l : List (List Int)) (am : Option Addr) (bm offm cm : Nat), l = matOf x j ∧ (∀ w', (Instr.index 273 (.agg #[.slice a3 x.cost.length c3, .slice a4 x.time.length c4]) (.int .i64 (j : Int))).run Tryz.prog w' = .ok (.slice am l.length cm) w') ∧
          l.length ≤ cm ∧ cm ≤ 9223372036854775807 ∧ (0 < l.length → am = some ⟨bm, offm, none⟩) ∧ ∀ k (h : k < l.length), ∃ v, w2.cell? ⟨bm, offm + k, none⟩ = some v ∧ (sliceS intS).rep w2 F l[k] [v] := by
         have hj2 : j = 0 ∨ j = 1 := by omega
         rcases hj2 with rfl | rfl
         ·exact ⟨x.cost, a3, b3, off3, c3, rfl, fun _ => by kernel_rfl, hlc3, hc3, ha3, fun k h => let ⟨v, h1, h2⟩ := hcell3 k h; ⟨v, below_cell hb2 h1, (sliceS intS).below h2 hb2⟩⟩
         ·exact ⟨x.time, a4, b4, off4, c4, rfl, fun _ => by kernel_rfl, hlc4, hc4, ha4, fun k h => let ⟨v, h1, h2⟩ := hcell4 k h; ⟨v, below_cell hb2 h1, (sliceS intS).below h2 hb2⟩⟩
        obtain ⟨l, am, bm, offm, cm, hl, hix, hlm, hcm, ham, hcm'⟩ := hm
        have HL := hid hl
        clear hl ha3 ha4 hcell3 hcell4
        have HR0 : okMats x j = okRow x j 0 l := by simp [okRow, matB]
        rw [HR0]
        go_wp2
        go_loop [3, 89] (fun ok i => ∃ k : Nat, k ≤ l.length ∧ i = .int .i64 k ∧ ok = .bool (okRow x j k l)) (fun _ i => l.length - (intOf i).toNat)
        case atStart => exact ⟨0, by omega, rfl, rfl⟩
        case round =>
         obtain ⟨k, hk, rfl, rfl⟩ := hrel
         by_cases hlt2 : k < l.length
         ·have hx := idx_at1 (c := cm) Tryz.underlying38 sz_row (ham (by omega)) hlt2
          obtain ⟨v, hv, hr⟩ := hcm' k hlt2
          have HS := hid (okRow_succ x j k l hlt2)
          have HC0 : okRow x j k l = okCell x j k 0 l l[k] := by simp [okCell, rowB]
          rw [HC0]
          clear hcm' ham HC0
          obtain ⟨r, hr'⟩ : ∃ r, r = l[k] := ⟨_, rfl⟩
          rw [← hr'] at hr
          rw [← hr']
          obtain ⟨ar, br, offr, cr, hsr, hlr, hcr, har, -, hcr2, -⟩ := ints_open hr
          obtain rfl := List.cons.inj hsr |>.1
          have HR := hid hr'
          clear hsr hr hr'
          go_wp2
          go_loop [3, 96] (fun ok i => ∃ m : Nat, m ≤ r.length ∧ i = .int .i64 m ∧ ok = .bool (okCell x j k m l r)) (fun _ i => r.length - (intOf i).toNat)
          case atStart => exact ⟨0, by omega, rfl, rfl⟩
          case round =>
           obtain ⟨m, hm, rfl, rfl⟩ := hrel
           by_cases hlt3 : m < r.length
           ·have hx3 := idx_at1 (c := cr) Tryz.underlying78 sz_i64 (har (by omega)) hlt3
            have g := hcr2 m hlt3
            have HS3 := hid (okCell_succ x j k m l r hlt3)
            have HB3 : Hid (cellB k m r[m] = (mayB r[m] 0 && (((k : Int) != (m : Int)) || r[m] == 0))) := rfl
            clear hcr2 har
            rcases chainCell (okCell x j k m l r) (mayB r[m] 0) ((k : Int) != (m : Int)) (r[m] == 0) with e0 | ⟨e0, e1⟩ | ⟨e0, e1, e2⟩ | ⟨e0, e1, e2, e3⟩ | ⟨e0, e1, e2, e3⟩
            all_goals
             go_wp2_with ((with_reducible refine (may_c _ _ _).mono ?_); rintro e w' ⟨rfl, rfl⟩)
             go_round
             case rel => exact ⟨m + 1, by omega, by go_num, by rw [HS3.out, HB3.out]; first | (rw [e0]; rfl) | (rw [e0, e1]; rfl) | (rw [e0, e1, e2]; rfl) | (rw [e0, e1, e2, e3]; rfl)⟩
             case measure => simp [intOf]; omega
           ·have hmr : m = r.length := by omega
            subst hmr
            clear hcr2 har
            go_wp2
            go_round
            case rel => exact ⟨k + 1, by omega, by go_num, by rw [HS.out, ← HR.out]⟩
            case measure => simp [intOf]; omega
         ·have hkl : k = l.length := by omega
          subst hkl
          have HN : Hid (okMats x (j + 1) = okRow x j l.length l) := by rw [okMats_succ]; unfold okRow; rw [HL.out]; rfl
          clear hcm' ham
          go_wp2
          go_round
          case rel => exact ⟨j + 1, by omega, by go_num, by rw [HN.out]⟩
          case measure => simp [intOf]; omega
       ·have hj2 : j = 2 := by omega
        subst hj2
        have HE := hid (okMats_two x)
        go_wp2
        go_ret
        exact ⟨ret_bool HE.out, hb2⟩
structure Ext (W : World) where
 val : World
 ok : Below W.heap.size W val
instance (W : World) : Nonempty (Ext W) := ⟨⟨W, Below.refl _ _⟩⟩
theorem wp_region_ext {P : Program} {id : Nat} {Q : Exit → Act → World → Prop} {a : Act} {w : World} {l : List Oper} (hm : P.follows .mixedOrders = true) (hB : Region.lexB .any l.toArray = true)
  (h : wpQuiet P l.toArray (fun w' => ∃ e : Ext w, w' = e.val) (fun a' => ∀ w', (∃ e : Ext w, w' = e.val) → Q .normal a' w') l a) : (Code.region id l.toArray true).wp P Q a w :=
 wp_region_quiet (C := fun w' => ∃ e : Ext w, w' = e.val) hm hB ⟨⟨{ w with drawn := w.drawn + 1 }, Below.drew (Below.refl _ _)⟩, rfl⟩ (by simpa only [List.toList_toArray] using h)
theorem Calls.ext {P : Program} {f : FuncId} {args : Array Value} {W : World} {x : Ext W} {v : Value}
  (h : Calls P f args x.val fun e w' => e = .returned v ∧ Below x.val.heap.size x.val w') : Calls P f args x.val fun e w'' => e = .returned v ∧ ∃ y : Ext W, w'' = y.val :=
 h.mono fun _ w' ⟨he, hb⟩ => ⟨he, ⟨w', x.ok.trans (hb.mono x.ok.size)⟩, rfl⟩
theorem Ext.cell {W : World} (x : Ext W) {a : Addr} {v : Value} (h : W.cell? a = some v) : x.val.cell? a = some v := below_cell x.ok h
def countB (x : InstD) : Bool := manyB x.tmany 60 && manyB x.bmany 60 && manyB x.sats.length 12 && manyB x.custs.length 48
def sizeB (x : InstD) : Bool := squareB x.cost (nodes x) && squareB x.time (nodes x)
def check (x : InstD) : Int := if countB x then (if sizeB x then (if numbersB x then 0 else 2) else 4) else 9
theorem check_c {w : World} {F : Nat → Prop} {x : InstD} {cs : List Value} (h : instS.rep w F x cs) :
  Calls Tryz.prog 43 #[.agg cs.toArray] w fun e w' => e = .returned (.int .i64 (check x)) ∧ Below w.heap.size w w' := by
 have hrep := h
 obtain ⟨s, c, co, ti, rfl, -, h1, h2, h3, h4⟩ := h
 obtain ⟨a, b, off, c1, hs, hlc, hc, -, -, -, -⟩ := sats_open h1
 obtain ⟨a', b', off', c1', hs', hlc', hc', -, -, -, -⟩ := custs_open h2
 obtain rfl := List.cons.inj hs |>.1
 obtain rfl := List.cons.inj hs' |>.1
 obtain ⟨a3, b3, off3, c3, hs3, hlc3, hc3, -, -, -⟩ := rows_open h3
 obtain ⟨a4, b4, off4, c4, hs4, hlc4, hc4, -, -, -⟩ := rows_open h4
 obtain rfl := List.cons.inj hs3 |>.1
 obtain rfl := List.cons.inj hs4 |>.1
 clear hs hs' h1 h2 hs3 hs4
 go_enter Tryz.func43, Tryz.ntmps43
 go_upto_region 2 with fail
 go_cut [4] (fun s4 wx => s4 = .bool (!countB x) ∧ Below w.heap.size w wx ∧ w.heap.size < wx.heap.size ∧
  wx.cell? ⟨w.heap.size, 0, none⟩ = some (.int .i64 x.fin) ∧ wx.cell? ⟨w.heap.size, 1, none⟩ = some (.int .i64 x.tmany) ∧ wx.cell? ⟨w.heap.size, 2, none⟩ = some (.int .i64 x.troom) ∧
  wx.cell? ⟨w.heap.size, 3, none⟩ = some (.int .i64 x.bmany) ∧ wx.cell? ⟨w.heap.size, 4, none⟩ = some (.int .i64 x.broom) ∧
  wx.cell? ⟨w.heap.size, 5, none⟩ = some (.slice a x.sats.length c1) ∧ wx.cell? ⟨w.heap.size, 6, none⟩ = some (.slice a' x.custs.length c1') ∧
  wx.cell? ⟨w.heap.size, 7, none⟩ = some (.slice a3 x.cost.length c3) ∧ wx.cell? ⟨w.heap.size, 8, none⟩ = some (.slice a4 x.time.length c4))
 case first =>
  have HH : Hid (countB x = (manyB x.tmany 60 && manyB x.bmany 60 && manyB x.sats.length 12 && manyB x.custs.length 48)) := rfl
  rcases chain4 (manyB x.tmany 60) (manyB x.bmany 60) (manyB x.sats.length 12) (manyB x.custs.length 48) with e0 | ⟨e0, e1⟩ | ⟨e0, e1, e2⟩ | ⟨e0, e1, e2, e3⟩ | ⟨e0, e1, e2, e3⟩
  all_goals
   go_wp2_with ((with_reducible refine (many_c _ _ _).mono ?_); rintro e w' ⟨rfl, rfl⟩)
   go_meet
   exact ⟨by rw [HH.out]; first | (rw [e0]; rfl) | (rw [e0, e1]; rfl) | (rw [e0, e1, e2]; rfl) | (rw [e0, e1, e2, e3]; rfl), (Below.refl _ _).alloc (Nat.le_refl _) _, by simp, by simp, by simp, by simp, by simp, by simp, by simp, by simp, by simp, by simp⟩
 case rest =>
  obtain ⟨rfl, hb0, hz, q0, q1, q2, q3, q4, q5, q6, q7, q8⟩ := hcut
  cases ec : countB x
  ·have HE := hid (show check x = 9 by unfold check; simp [ec])
   go_wp2
   go_ret
   exact ⟨ret_int HE.out.symm, hb0⟩
  ·have hl1 : x.sats.length ≤ 1000000 ∧ x.custs.length ≤ 1000000 := by
    simp [countB, manyB] at ec; omega
   go_upto_region 4 with fail
   have hrc := instS.below hrep hb0
   have hrc3 := rowsS.below h3 hb0
   have hrc4 := rowsS.below h4 hb0
   have q : ∀ e : Ext wc, e.val.cell? ⟨w.heap.size, 0, none⟩ = some (.int .i64 x.fin) ∧ e.val.cell? ⟨w.heap.size, 1, none⟩ = some (.int .i64 x.tmany) ∧ e.val.cell? ⟨w.heap.size, 2, none⟩ = some (.int .i64 x.troom) ∧
     e.val.cell? ⟨w.heap.size, 3, none⟩ = some (.int .i64 x.bmany) ∧ e.val.cell? ⟨w.heap.size, 4, none⟩ = some (.int .i64 x.broom) ∧ e.val.cell? ⟨w.heap.size, 5, none⟩ = some (.slice a x.sats.length c1) ∧
     e.val.cell? ⟨w.heap.size, 6, none⟩ = some (.slice a' x.custs.length c1') ∧ e.val.cell? ⟨w.heap.size, 7, none⟩ = some (.slice a3 x.cost.length c3) ∧ e.val.cell? ⟨w.heap.size, 8, none⟩ = some (.slice a4 x.time.length c4) :=
    fun e => ⟨e.cell q0, e.cell q1, e.cell q2, e.cell q3, e.cell q4, e.cell q5, e.cell q6, e.cell q7, e.cell q8⟩
   obtain ⟨p0, p1, p2, p3, p4, p5, p6, p7, p8⟩ : (∀ e : Ext wc, _) ∧ (∀ e : Ext wc, _) ∧ (∀ e : Ext wc, _) ∧ (∀ e : Ext wc, _) ∧ (∀ e : Ext wc, _) ∧ (∀ e : Ext wc, _) ∧ (∀ e : Ext wc, _) ∧ (∀ e : Ext wc, _) ∧ (∀ e : Ext wc, _) :=
    ⟨fun e => (q e).1, fun e => (q e).2.1, fun e => (q e).2.2.1, fun e => (q e).2.2.2.1, fun e => (q e).2.2.2.2.1, fun e => (q e).2.2.2.2.2.1, fun e => (q e).2.2.2.2.2.2.1, fun e => (q e).2.2.2.2.2.2.2.1, fun e => (q e).2.2.2.2.2.2.2.2⟩
   clear q
   go_cut [35] (fun s35 wx => s35 = .bool (!sizeB x) ∧ Below wc.heap.size wc wx)
   case first =>
    have HH := hid (show sizeB x = (squareB x.cost (nodes x) && squareB x.time (nodes x)) from rfl)
    rcases chain2 (squareB x.cost (nodes x)) (squareB x.time (nodes x)) with e0 | ⟨e0, e1⟩ | ⟨e0, e1⟩
    all_goals
     refine wp_region_ext (by kernel_rfl) (by kernel_rfl) ?_
     repeat (go_big_quiet_step (first | (go_at_call 114; exact Calls.ext (nodes_c (instS.below hrc (Ext.ok _)) hl1.1 hl1.2)) | (go_at_call 113; (with_reducible exact Calls.ext (square_b (rowsS.below hrc3 (Ext.ok _)) e0))) | (go_at_call 113; (with_reducible exact Calls.ext (square_b (rowsS.below hrc4 (Ext.ok _)) e1)))))
     refine wpQuiet_nil ?_
     rintro _ ⟨ex, rfl⟩
     go_wp2_with fail
     go_meet
     exact ⟨by rw [HH.out]; first | (rw [e0]; rfl) | (rw [e0, e1]; rfl), ex.ok⟩
   case rest =>
    clear p0 p1 p2 p3 p4 p5 p6 p7 p8
    obtain ⟨rfl, hb1⟩ := hcut
    cases es : sizeB x
    ·have HE := hid (show check x = 4 by unfold check; simp [ec, es])
     go_wp2
     go_ret
     exact ⟨ret_int HE.out.symm, hb0.trans (hb1.mono hb0.size)⟩
    ·have g0 := below_cell hb1 q0
     have g1 := below_cell hb1 q1
     have g2 := below_cell hb1 q2
     have g3 := below_cell hb1 q3
     have g4 := below_cell hb1 q4
     have g5 := below_cell hb1 q5
     have g6 := below_cell hb1 q6
     have g7 := below_cell hb1 q7
     have g8 := below_cell hb1 q8
     have hb2 := hb0.trans (hb1.mono hb0.size)
     have hr2 := instS.below hrep hb2
     clear q0 q1 q2 q3 q4 q5 q6 q7 q8 hb0 hb1 hrc hrc3 hrc4 h3 h4 hrep
     cases en : numbersB x
     ·have HE := hid (show check x = 2 by unfold check; simp [ec, es, en])
      have HN := hid en
      clear en
      go_wp2_with ((with_reducible refine (numbers_c hr2).mono ?_); rintro e w' ⟨rfl, hb3⟩; rw [HN.out])
      go_ret
      exact ⟨ret_int HE.out.symm, hb2.trans (hb3.mono hb2.size)⟩
     ·have HE := hid (show check x = 0 by unfold check; simp [ec, es, en])
      have HN := hid en
      clear en
      go_wp2_with ((with_reducible refine (numbers_c hr2).mono ?_); rintro e w' ⟨rfl, hb3⟩; rw [HN.out])
      go_ret
      exact ⟨ret_int HE.out.symm, hb2.trans (hb3.mono hb2.size)⟩
end Go.Proofs.YtabadfkikdefeaaGreat

namespace Go.Proofs.YtabadfkikdefeaaGreat
open Go.RowKit
def addLoad (x : InstD) (sat : Int) (out : List Int) (c : Int) : List Int :=
 if 0 ≤ sat ∧ sat < out.length ∧ 0 ≤ c ∧ c < x.custs.length then out.set sat.toNat (out.getD sat.toNat 0 + (x.custs.getD c.toNat ⟨0, 0, 0, 0⟩).load) else out
def addBike (x : InstD) (out : List Int) (b : BikeD) : List Int := b.stops.foldl (addLoad x b.sat) out
theorem addLoad_len (x : InstD) (sat : Int) (out : List Int) (c : Int) : (addLoad x sat out c).length = out.length := by
 unfold addLoad; split <;> simp
theorem foldl_take_succ {α β : Type} (f : β → α → β) (b : β) (l : List α) (k : Nat) (h : k < l.length) : (l.take (k + 1)).foldl f b = f ((l.take k).foldl f b) l[k] := by
 rw [List.take_succ_eq_append_getElem h, List.foldl_append]; rfl
def Small9 (out : List Int) (cnt : Nat) : Prop := ∀ v ∈ out, 0 ≤ v ∧ v ≤ 1000000000 * (cnt : Int)
theorem Small9.mono {out : List Int} {a b : Nat} (h : Small9 out a) (hab : a ≤ b) : Small9 out b := fun v hv => ⟨(h v hv).1, Int.le_trans (h v hv).2 (by omega)⟩
theorem Small9.zero (n : Nat) : Small9 (List.replicate n 0) 0 := fun v hv => by rw [List.eq_of_mem_replicate hv]; decide
theorem Small9.get {out : List Int} {cnt : Nat} (h : Small9 out cnt) {i : Nat} (hi : i < out.length) : 0 ≤ out[i] ∧ out[i] ≤ 1000000000 * (cnt : Int) := h _ (List.getElem_mem hi)
theorem Small9.add {out : List Int} {cnt : Nat} (h : Small9 out cnt) {i : Nat} {a b : Int} (ha : 0 ≤ a ∧ a ≤ 1000000000 * (cnt : Int)) (hb : 0 ≤ b ∧ b ≤ 1000000000) : Small9 (out.set i (a + b)) (cnt + 1) := fun v hv => by
 rcases List.mem_or_eq_of_mem_set hv with hv | rfl
 ·have := h v hv; exact ⟨this.1, by push_cast; omega⟩
 ·exact ⟨by omega, by push_cast; omega⟩
def stopsUp (l : List BikeD) (k : Nat) : Nat := ((l.take k).map fun b => b.stops.length).sum
theorem stopsUp_succ {l : List BikeD} {k : Nat} (h : k < l.length) : stopsUp l (k + 1) = stopsUp l k + l[k].stops.length := by
 unfold stopsUp; rw [List.take_succ_eq_append_getElem h, List.map_append, List.sum_append]; simp only [List.map_cons, List.map_nil, List.sum_cons, List.sum_nil, Nat.add_zero]
theorem trucks_open {w : World} {F : Nat → Prop} {xs : List (List StopD)} {cs : List Value} (h : trucksS.rep w F xs cs) :
  ∃ (a : Option Addr) (b off c : Nat), cs = [.slice a xs.length c] ∧ xs.length ≤ c ∧ c ≤ 9223372036854775807 ∧ (0 < xs.length → a = some ⟨b, off, none⟩) ∧ (0 < xs.length → F b) ∧
   ∀ k (h : k < xs.length), ∃ v, w.cell? ⟨b, off + k, none⟩ = some v ∧ (sliceS stopS).rep w F xs[k] [v] := rows_open h
def SameAt (w wr : World) (t b t' b' : Value) : Prop :=
 Below w.heap.size w wr ∧ wr.cell? ⟨w.heap.size, 0, none⟩ = some t ∧ wr.cell? ⟨w.heap.size, 1, none⟩ = some b ∧ wr.cell? ⟨w.heap.size + 1, 0, none⟩ = some t' ∧ wr.cell? ⟨w.heap.size + 1, 1, none⟩ = some b'
theorem SameAt.drewN {w wr : World} {t b t' b' : Value} (h : SameAt w wr t b t' b') (n : Nat) : SameAt w (wr.drewN n) t b t' b' := ⟨below_drewN h.1 n, h.2⟩
def addStop (out : List Int) (s : StopD) : List Int := out.set s.sat.toNat (out.getD s.sat.toNat 0 + s.load)
def addTruck (out : List Int) (t : List StopD) : List Int := t.foldl addStop out
def dropsD (x : InstD) (l : List (List StopD)) : List Int := l.foldl addTruck (List.replicate x.sats.length 0)
theorem addStop_len (out : List Int) (s : StopD) : (addStop out s).length = out.length := by unfold addStop; simp
theorem addStops_len (l : List StopD) : ∀ out : List Int, (l.foldl addStop out).length = out.length := by
 induction l with
 | nil => intro out; rfl
 | cons c l ih => intro out; rw [List.foldl_cons, ih, addStop_len]
theorem addTrucks_len (l : List (List StopD)) : ∀ out : List Int, (l.foldl addTruck out).length = out.length := by
 induction l with
 | nil => intro out; rfl
 | cons b l ih => intro out; rw [List.foldl_cons, ih]; exact addStops_len b out
def tstopsUp (l : List (List StopD)) (k : Nat) : Nat := ((l.take k).map List.length).sum
theorem tstopsUp_succ {l : List (List StopD)} {k : Nat} (h : k < l.length) : tstopsUp l (k + 1) = tstopsUp l k + l[k].length := by
 unfold tstopsUp; rw [List.take_succ_eq_append_getElem h, List.map_append, List.sum_append]; simp only [List.map_cons, List.map_nil, List.sum_cons, List.sum_nil, Nat.add_zero]
def StopOk (x : InstD) (s : StopD) : Prop := (0 ≤ s.sat ∧ s.sat < x.sats.length) ∧ 1 ≤ s.load ∧ s.load ≤ 1000000000
end Go.Proofs.YtabadfkikdefeaaGreat

namespace Go.Proofs.YtabadfkikdefeaaGreat
open Go.RowKit
def stopBad (x : InstD) (m : Nat) (s : StopD) : Bool := decide (s.sat < 0) || decide ((x.sats.length : Int) ≤ s.sat) || m.testBit s.sat.toNat || decide (s.load < 1) || decide (1000000000 < s.load)
def stopSt (x : InstD) : Option (Nat × Int) → StopD → Option (Nat × Int)
 | none, _ => none
 | some (m, left), s => if stopBad x m s then none else some (m ||| 2 ^ s.sat.toNat, left - s.load)
def truckSt (x : InstD) (t : List StopD) : Option (Nat × Int) := t.foldl (stopSt x) (some (0, x.troom))
def truckGo (x : InstD) : List (List StopD) → Bool → Bool → Bool × Bool
 | [], r, l => (r, l)
 | t :: ts, r, l => match truckSt x t with
  | none => (false, l)
  | some (_, left) => truckGo x ts (r && decide (0 < t.length)) (l && decide (0 ≤ left))
def trucksB (x : InstD) (l : List (List StopD)) : Bool × Bool := truckGo x l true true
theorem stops_none (x : InstD) (l : List StopD) : l.foldl (stopSt x) none = none := by
 induction l with
 | nil => rfl
 | cons s l ih => exact ih
theorem stopSt_bad {x : InstD} {m : Nat} {left : Int} {s : StopD} (h : stopBad x m s = true) : stopSt x (some (m, left)) s = none := by simp [stopSt, h]
theorem stopSt_ok {x : InstD} {m : Nat} {left : Int} {s : StopD} (h : stopBad x m s = false) : stopSt x (some (m, left)) s = some (m ||| 2 ^ s.sat.toNat, left - s.load) := by simp [stopSt, h]
theorem truckGo_bad {x : InstD} {t : List StopD} {ts : List (List StopD)} {r l : Bool} (h : truckSt x t = none) : truckGo x (t :: ts) r l = (false, l) := by simp [truckGo, h]
theorem truckGo_ok {x : InstD} {t : List StopD} {ts : List (List StopD)} {r l : Bool} {m : Nat} {left : Int} (h : truckSt x t = some (m, left)) :
  truckGo x (t :: ts) r l = truckGo x ts (r && decide (0 < t.length)) (l && decide (0 ≤ left)) := by simp [truckGo, h]
def custAt (x : InstD) (c : Int) : CustD := x.custs.getD c.toNat ⟨0, 0, 0, 0⟩
def custBad (x : InstD) (m : Nat) (c : Int) : Bool := decide (c < 0) || decide ((x.custs.length : Int) ≤ c) || m.testBit c.toNat
def custSt (x : InstD) : Option (Nat × Int) → Int → Option (Nat × Int)
 | none, _ => none
 | some (m, left), c => if custBad x m c then none else some (m ||| 2 ^ c.toNat, left - (custAt x c).load)
def bikeSt (x : InstD) (m : Nat) (l : List Int) : Option (Nat × Int) := l.foldl (custSt x) (some (m, x.broom))
def bikeBad (x : InstD) (b : BikeD) : Bool := decide (b.sat < 0) || decide ((x.sats.length : Int) ≤ b.sat) || decide (b.stops.length = 0)
def bikeGo (x : InstD) : List BikeD → Nat → Bool → Bool × Bool × Bool
 | [], m, l => (true, decide (Lib.onesCount m = x.custs.length), l)
 | b :: bs, m, l => if bikeBad x b then (false, false, l) else match bikeSt x m b.stops with
  | none => (false, false, l)
  | some (m', left) => bikeGo x bs m' (l && decide (0 ≤ left))
def bikesB (x : InstD) (l : List BikeD) : Bool × Bool × Bool := bikeGo x l 0 true
theorem custs_none (x : InstD) (l : List Int) : l.foldl (custSt x) none = none := by
 induction l with
 | nil => rfl
 | cons s l ih => exact ih
theorem custSt_bad {x : InstD} {m : Nat} {left : Int} {c : Int} (h : custBad x m c = true) : custSt x (some (m, left)) c = none := by simp [custSt, h]
theorem custSt_ok {x : InstD} {m : Nat} {left : Int} {c : Int} (h : custBad x m c = false) : custSt x (some (m, left)) c = some (m ||| 2 ^ c.toNat, left - (custAt x c).load) := by simp [custSt, h]
theorem bikeGo_bad {x : InstD} {b : BikeD} {bs : List BikeD} {m : Nat} {l : Bool} (h : bikeBad x b = true) : bikeGo x (b :: bs) m l = (false, false, l) := by simp [bikeGo, h]
theorem bikeGo_none {x : InstD} {b : BikeD} {bs : List BikeD} {m : Nat} {l : Bool} (h : bikeSt x m b.stops = none) : bikeGo x (b :: bs) m l = (false, false, l) := by simp [bikeGo, h]
theorem bikeGo_ok {x : InstD} {b : BikeD} {bs : List BikeD} {m m' : Nat} {l : Bool} {left : Int} (h0 : bikeBad x b = false) (h : bikeSt x m b.stops = some (m', left)) :
  bikeGo x (b :: bs) m l = bikeGo x bs m' (l && decide (0 ≤ left)) := by simp [bikeGo, h0, h]
structure Good (x : InstD) : Prop where
 tmany : 1 ≤ x.tmany ∧ x.tmany ≤ 60
 bmany : 1 ≤ x.bmany ∧ x.bmany ≤ 60
 sats : 1 ≤ x.sats.length ∧ x.sats.length ≤ 12
 custs : 1 ≤ x.custs.length ∧ x.custs.length ≤ 48
 fin : 0 ≤ x.fin ∧ x.fin ≤ 1000000000
 troom : 0 ≤ x.troom ∧ x.troom ≤ 1000000000
 broom : 0 ≤ x.broom ∧ x.broom ≤ 1000000000
 sat : ∀ s ∈ x.sats, (0 ≤ s.room ∧ s.room ≤ 1000000000) ∧ 0 ≤ s.hold ∧ s.hold ≤ 1000000000
 cust : ∀ c ∈ x.custs, (1 ≤ c.load ∧ c.load ≤ 1000000000) ∧ (0 ≤ c.opn ∧ c.opn ≤ 1000000000) ∧ (c.opn ≤ c.cls ∧ c.cls ≤ 1000000000) ∧ 0 ≤ c.stay ∧ c.stay ≤ 1000000000
 costL : x.cost.length = nodes x
 timeL : x.time.length = nodes x
 costR : ∀ r ∈ x.cost, r.length = nodes x
 timeR : ∀ r ∈ x.time, r.length = nodes x
 cost : ∀ r ∈ x.cost, ∀ v ∈ r, 0 ≤ v ∧ v ≤ 1000000000
 time : ∀ r ∈ x.time, ∀ v ∈ r, 0 ≤ v ∧ v ≤ 1000000000
theorem mayB_iff {n l : Int} (h : mayB n l = true) : l ≤ n ∧ n ≤ 1000000000 := by simpa [mayB] using h
theorem squareB_iff {l : List (List Int)} {n : Nat} (h : squareB l (n : Int) = true) : l.length = n ∧ ∀ r ∈ l, r.length = n := by
 simp only [squareB, Bool.and_eq_true, beq_iff_eq, Bool.not_eq_true', List.any_eq_false, bne_iff_ne, ne_eq, Decidable.not_not] at h
 exact ⟨by omega, fun r hr => by have := h.2 r hr; omega⟩
theorem matB_iff {l : List (List Int)} (h : matB l l.length = true) : ∀ r ∈ l, ∀ v ∈ r, 0 ≤ v ∧ v ≤ 1000000000 := by
 intro r hr v hv
 obtain ⟨i, hi, rfl⟩ := List.getElem_of_mem hr
 obtain ⟨j, hj, rfl⟩ := List.getElem_of_mem hv
 simp only [matB, List.all_eq_true, List.mem_range] at h
 have h1 := h i hi
 rw [List.getD_eq_getElem?_getD, List.getElem?_eq_getElem hi] at h1
 simp only [rowB, Option.getD_some, List.all_eq_true, List.mem_range] at h1
 have h2 := h1 j hj
 rw [List.getD_eq_getElem?_getD, List.getElem?_eq_getElem hj] at h2
 simp only [cellB, Bool.and_eq_true] at h2
 exact mayB_iff h2.1
theorem good_of {x : InstD} (h : check x = 0) : Good x := by
 unfold check at h
 split at h
 case isFalse => cases h
 rename_i hc
 split at h
 case isFalse => cases h
 rename_i hs
 split at h
 case isFalse => cases h
 rename_i hn
 simp only [countB, manyB, Bool.and_eq_true, decide_eq_true_eq] at hc
 simp only [sizeB, Bool.and_eq_true] at hs
 simp only [numbersB, headB, Bool.and_eq_true, List.all_eq_true] at hn
 obtain ⟨⟨⟨⟨⟨⟨n0, n1⟩, n2⟩, n3⟩, n4⟩, n5⟩, n6⟩ := hn
 have s1 := squareB_iff hs.1
 have s2 := squareB_iff hs.2
 exact {
     tmany := by omega, bmany := by omega, sats := by omega, custs := by omega, fin := mayB_iff n0, troom := mayB_iff n1, broom := mayB_iff n2,
     sat := fun s hs' => by have := n3 s hs'; simp only [satB, Bool.and_eq_true] at this; exact ⟨mayB_iff this.1, mayB_iff this.2⟩,
     cust := fun c hc' => by have := n4 c hc'; simp only [custB, Bool.and_eq_true] at this; exact ⟨mayB_iff this.1.1.1, mayB_iff this.1.1.2, mayB_iff this.1.2, mayB_iff this.2⟩,
     costL := s1.1, timeL := s2.1, costR := s1.2, timeR := s2.2, cost := matB_iff n5, time := matB_iff n6 }
def PlanSmall (p : PlanD) : Prop := stopsUp p.bikes p.bikes.length ≤ 1000000 ∧ tstopsUp p.trucks p.trucks.length ≤ 1000000
end Go.Proofs.YtabadfkikdefeaaGreat

namespace Go.Proofs.YtabadfkikdefeaaGreat
open Go.RowKit
theorem flat1 {α β : Type} (f : α → β) : ∀ xs : List α, xs.flatMap (fun x => [f x]) = xs.map f
 | [] => rfl
 | x :: xs => by rw [List.flatMap_cons, List.map_cons, flat1 f xs]; rfl
theorem owns_rep {α : Type} {S : Shape α} {h0 : 0 < S.sz} {w : World} {B : Nat} {T : TypeId} {v : Value} {xs : List α} (enc : α → List Value) (hl : ∀ x, (enc x).length = S.sz) (hs : ∀ x ∈ xs, S.rep w (fun b => B ≤ b) x (enc x))
  (h : w.ownsRow B T S.sz v xs.length (xs.flatMap enc)) : (sliceS S h0).rep w (fun b => B ≤ b) xs [v] := by
 obtain ⟨h1, h2⟩ := h
 rcases h2 with ⟨rfl, hn⟩ | ⟨g, cap, cur, rfl, hg, hh, hn1, hc, hsz, ht⟩
 ·have : xs = [] := List.eq_nil_of_length_eq_zero hn
  subst this
  exact ⟨none, 0, 0, 0, rfl, Nat.le_refl _, Nat.zero_le _, fun h => absurd h (Nat.not_lt_zero _), fun i h => absurd h (Nat.not_lt_zero _)⟩
 ·have hR : Row w g T (xs.flatMap enc) := ⟨cur, cur.toList.drop (xs.length * S.sz), hh, by rw [← ht, List.take_append_drop]⟩
  refine ⟨some ⟨g, 0, none⟩, g, 0, cap, rfl, hn1, hc, fun _ => ⟨rfl, hg⟩, fun i hi => ⟨enc xs[i], hs _ (List.getElem_mem hi), fun j hj => ?_⟩⟩
  have e := flatMap_get enc S.sz hl xs i j hi hj
  have hj' : j < (enc xs[i]).length := by rw [hl]; exact hj
  rw [List.getElem?_eq_getElem hj'] at e ⊢
  rw [Nat.zero_add]
  exact hR.get e
theorem owns_ints {w : World} {B : Nat} {T : TypeId} {v : Value} {xs : List Int} (h : w.ownsRow B T 1 v xs.length (xs.map intV)) (hw : ∀ x ∈ xs, wf64 x) : (sliceS intS).rep w (fun b => B ≤ b) xs [v] :=
 owns_rep (S := intS) (fun x => [intV x]) (fun _ => rfl) (fun x hx => ⟨rfl, hw x hx⟩) (by rw [flat1]; exact h)
theorem Row.grown {w w' : World} {g : Nat} {e : TypeId} {cs : List Value} {B T n k : Nat} {v : Value} {xs : List Value} (h : Row w g e cs) (hown : w.ownsRow B T k v n xs) (he : e ≠ T) (hg : w.grownBy w' v.ownBlock) : Row w' g e cs :=
 h.keep (hg.block g h.lt fun e => by obtain ⟨cs', hc'⟩ := ownBlock_row hown e.symm; exact h.ne hc' he rfl)
theorem below_owned {B B' T n k : Nat} {a w w' : World} {v : Value} {xs : List Value} (h : Below B a w) (hown : w.ownsRow B' T k v n xs) (hB : B ≤ w.heap.size) (hB' : B ≤ B') (hg : w.grownBy w' v.ownBlock) : Below B a w' :=
 h.grown hg hB fun k hk => Nat.le_trans hB' (hown.lt k hk).1
theorem info_int : (Tryz.prog.info? 3).map (fun i => (i.zero, i.size, i.bytes)) = some (some (.int .i64 0), 1, 8) := by kernel_rfl
theorem lit_rep {α : Type} {S : Shape α} {h0 : 0 < S.sz} {w : World} {F : Nat → Prop} {xs : List α} {g c : Nat} {T : TypeId} (vs : List (List Value)) (hl : vs.length = xs.length) (hv : ∀ v ∈ vs, v.length = S.sz)
  (hr : ∀ i (h : i < xs.length) (h' : i < vs.length), S.rep w F xs[i] vs[i]) (h : Row w g T vs.flatten) (hc : xs.length ≤ c) (hm : c ≤ maxLen) (hF : F g) : (sliceS S h0).rep w F xs [.slice (some ⟨g, 0, none⟩) xs.length c] := by
 refine ⟨some ⟨g, 0, none⟩, g, 0, c, rfl, hc, hm, fun _ => ⟨rfl, hF⟩, fun i hi => ⟨vs[i]'(by omega), hr i hi (by omega), fun j hj => ?_⟩⟩
 have hget : ∀ (l : List (List Value)) (i : Nat) (hi : i < l.length), (∀ v ∈ l, v.length = S.sz) → l.flatten[i * S.sz + j]? = (l[i])[j]? := by
  intro l
  induction l with
  | nil => intro i hi; simp at hi
  | cons a l ih =>
   intro i hi hl
   have ha := hl a (List.mem_cons_self ..)
   rw [List.flatten_cons]
   cases i with
   | zero => rw [Nat.zero_mul, Nat.zero_add, List.getElem?_append_left (by rw [ha]; exact hj)]; rfl
   | succ i =>
    rw [List.getElem?_append_right (by rw [ha, Nat.succ_mul]; omega), ha, show (i + 1) * S.sz + j - S.sz = i * S.sz + j by rw [Nat.succ_mul]; omega]
    exact ih i (by simpa using hi) fun v hv => hl v (List.mem_cons_of_mem _ hv)
 have e := hget vs i (by omega) hv
 have hj' : j < (vs[i]'(by omega)).length := by rw [hv _ (List.getElem_mem _)]; exact hj
 rw [List.getElem?_eq_getElem hj'] at e ⊢
 rw [Nat.zero_add]
 exact h.get e
theorem Row.setApart {w : World} {g g' : Nat} {e e' : TypeId} {cs cs' : List Value} (h : Row w g e cs) (h' : Row w g' e' cs') (he : e ≠ e') (j : Nat) (u : Value) : Row (w.setCell ⟨g', j, none⟩ u) g e cs := h.setOther (a := ⟨g', j, none⟩) (h.ne h' he) u
theorem RowsOwn.set {TR TI B : Nat} {w : World} {v : Value} {rows : List (List Int)} {g : Nat} {rs : List Nat} (h : RowsOwn w B TR TI v rows g rs) (hne : TR ≠ TI) {i j : Nat} (hi : i < rows.length) (hi' : i < rs.length) (hj : j < rows[i].length) (u : Int) :
  RowsOwn (w.setCell ⟨rs[i], j, none⟩ (intV u)) B TR TI v (rows.set i (rows[i].set j u)) g rs := by
 obtain ⟨c, k0, k1, k2, k3, k4, k5, k6, k7, k8⟩ := h
 have hz : List.zipWith rowV rs (rows.set i (rows[i].set j u)) = List.zipWith rowV rs rows := by
  apply List.ext_getElem
  ·simp
  ·intro n h1 h2
   simp only [List.getElem_zipWith, List.getElem_set]
   split
   ·rename_i e; subst e; unfold rowV; simp
   ·rfl
 refine ⟨c, by rw [k0]; simp, by simpa using k1, k2, k3, ?_, by simpa using k5, fun n h1 h2 => ?_, k7, k8⟩
 ·rw [hz]
  exact k4.setApart (k6 i hi' hi) hne _ _
 ·simp only [List.getElem_set]
  split
  ·rename_i e; subst e
   have := (k6 i hi' hi).set (j := j) (by rw [List.length_map]; exact hj) (intV u)
   rwa [← List.map_set] at this
  ·rename_i e
   have hn : n < rows.length := by simpa using h2
   refine (k6 n h1 hn).setOther (fun e2 => e ?_) _
   exact ((List.getElem_inj k7).1 e2).symm
theorem RowsOwn.keepAll {w w' : World} {B TR TI : Nat} {v : Value} {rows : List (List Int)} {g : Nat} {rs : List Nat} (h : RowsOwn w B TR TI v rows g rs) (h1 : w'.heap[g]? = w.heap[g]?) (h2 : ∀ b ∈ rs, w'.heap[b]? = w.heap[b]?) : RowsOwn w' B TR TI v rows g rs := by
 obtain ⟨c, k0, k1, k2, k3, k4, k5, k6, k7, k8⟩ := h
 exact ⟨c, k0, k1, k2, k3, k4.keep h1, k5, fun i h h' => (k6 i h h').keep (h2 _ (List.getElem_mem h)), k7, k8⟩
theorem RowsOwn.open {TR TI B : Nat} {w : World} {v : Value} {rows : List (List Int)} {g : Nat} {rs : List Nat} (h : RowsOwn w B TR TI v rows g rs) : ∃ c, v = .slice (some ⟨g, 0, none⟩) rows.length c ∧ rs.length = rows.length ∧
  (∀ i (h : i < rows.length) (h' : i < rs.length), w.cell? ⟨g, i, none⟩ = some (.slice (some ⟨rs[i], 0, none⟩) rows[i].length rows[i].length)) ∧
  (∀ i (h : i < rows.length) (h' : i < rs.length), Row w rs[i] TI (rows[i].map intV) ∧ B ≤ rs[i]) := by
 obtain ⟨c, k0, k1, k2, k3, k4, k5, k6, k7, k8⟩ := h
 refine ⟨c, k0, k5, fun i h h' => ?_, fun i h h' => ⟨k6 i h' h, k8 _ (List.getElem_mem h')⟩⟩
 have := k4.get (j := i) (v := rowV rs[i] rows[i]) (by rw [List.getElem?_zipWith, List.getElem?_eq_getElem h', List.getElem?_eq_getElem h])
 exact this
structure InstAt (TS TC TR TI : Nat) (w : World) (B : Nat) (x : InstD) (cs : List Value) (gs cs1 gc cc1 gco cco : Nat) (rco : List Nat) (gti cti : Nat) (rti : List Nat) : Prop where
 lit : cs = [.int .i64 x.fin, .int .i64 x.tmany, .int .i64 x.troom, .int .i64 x.bmany, .int .i64 x.broom, .slice (some ⟨gs, 0, none⟩) x.sats.length cs1, .slice (some ⟨gc, 0, none⟩) x.custs.length cc1, .slice (some ⟨gco, 0, none⟩) x.cost.length cco, .slice (some ⟨gti, 0, none⟩) x.time.length cti]
 caps : x.sats.length ≤ cs1 ∧ cs1 ≤ maxLen ∧ x.custs.length ≤ cc1 ∧ cc1 ≤ maxLen
 leS : B ≤ gs
 leC : B ≤ gc
 sats : Row w gs TS (x.sats.flatMap satV)
 custs : Row w gc TC (x.custs.flatMap custV)
 costs : RowsOwn w B TR TI (.slice (some ⟨gco, 0, none⟩) x.cost.length cco) x.cost gco rco
 times : RowsOwn w B TR TI (.slice (some ⟨gti, 0, none⟩) x.time.length cti) x.time gti rti
 apart : gco ≠ gti
 apart2 : ∀ a ∈ rco, ∀ b ∈ rti, a ≠ b
section
variable {TS TC TR TI B gs cs1 gc cc1 gco cco gti cti : Nat} {w : World} {x : InstD} {cs : List Value} {rco rti : List Nat}
theorem InstOwn.at (h : InstOwn TS TC TR TI w B x cs) : ∃ gs cs1 gc cc1 gco cco rco gti cti rti, InstAt TS TC TR TI w B x cs gs cs1 gc cc1 gco cco rco gti cti rti := by
 obtain ⟨gs, cs1, gc, cc1, vco, vti, gco, rco, gti, rti, k0, k1, k2, k3, k4, k5, k6, k7, k8, k9⟩ := h
 obtain ⟨c, hv, -⟩ := k6.open
 obtain ⟨c', hv', -⟩ := k7.open
 subst hv; subst hv'
 exact ⟨gs, cs1, gc, cc1, gco, c, rco, gti, c', rti, k0, k1, k2, k3, k4, k5, k6, k7, k8, k9⟩
theorem InstAt.own (h : InstAt TS TC TR TI w B x cs gs cs1 gc cc1 gco cco rco gti cti rti) : InstOwn TS TC TR TI w B x cs :=
 ⟨gs, cs1, gc, cc1, _, _, gco, rco, gti, rti, h.lit, h.caps, h.leS, h.leC, h.sats, h.custs, h.costs, h.times, h.apart, h.apart2⟩
theorem InstAt.drew (h : InstAt TS TC TR TI w B x cs gs cs1 gc cc1 gco cco rco gti cti rti) : InstAt TS TC TR TI w.drew B x cs gs cs1 gc cc1 gco cco rco gti cti rti := ⟨h.lit, h.caps, h.leS, h.leC, h.sats.drew, h.custs.drew, h.costs.keepAll rfl fun _ _ => rfl, h.times.keepAll rfl fun _ _ => rfl, h.apart, h.apart2⟩
theorem InstAt.below {w' : World} (h : InstAt TS TC TR TI w B x cs gs cs1 gc cc1 gco cco rco gti cti rti) (hb : Below w.heap.size w w') : InstAt TS TC TR TI w' B x cs gs cs1 gc cc1 gco cco rco gti cti rti :=
 ⟨h.lit, h.caps, h.leS, h.leC, h.sats.below hb, h.custs.below hb, h.costs.below hb, h.times.below hb, h.apart, h.apart2⟩
theorem RowsOwn.row {TR TI B : Nat} {w : World} {v : Value} {rows : List (List Int)} {g : Nat} {rs : List Nat} (h : RowsOwn w B TR TI v rows g rs) {i : Nat} (hi : i < rows.length) :
  w.cell? ⟨g, i, none⟩ = some (.slice (some ⟨rs.getD i 0, 0, none⟩) (rows.getD i []).length (rows.getD i []).length) ∧ Row w (rs.getD i 0) TI ((rows.getD i []).map intV) ∧ B ≤ rs.getD i 0 ∧ rs.getD i 0 ∈ rs := by
 obtain ⟨c, hv, hrl, hg, hr⟩ := h.open
 have hi' : i < rs.length := by omega
 have e1 : rows.getD i [] = rows[i] := by rw [List.getD_eq_getElem?_getD, List.getElem?_eq_getElem hi]; rfl
 have e2 : rs.getD i 0 = rs[i] := by rw [List.getD_eq_getElem?_getD, List.getElem?_eq_getElem hi']; rfl
 rw [e1, e2]
 exact ⟨hg i hi hi', (hr i hi hi').1, (hr i hi hi').2, List.getElem_mem _⟩
theorem RowsOwn.apart {TR TI B : Nat} {w : World} {v : Value} {rows : List (List Int)} {g : Nat} {rs : List Nat} (h : RowsOwn w B TR TI v rows g rs) {i i' : Nat} (hi : i < rows.length) (hi' : i' < rows.length) (hne : i ≠ i') : rs.getD i 0 ≠ rs.getD i' 0 := by
 obtain ⟨c, k0, k1, k2, k3, k4, k5, k6, k7, k8⟩ := h
 rw [List.getD_eq_getElem?_getD, List.getD_eq_getElem?_getD, List.getElem?_eq_getElem (by omega), List.getElem?_eq_getElem (by omega)]
 intro e
 exact hne ((List.getElem_inj k7).1 e)
end
def OldBut (row : Option Nat) (W w' : World) : Prop := W.heap.size ≤ w'.heap.size ∧ ∀ b, b < W.heap.size → some b ≠ row → w'.heap[b]? = W.heap[b]?
instance (row : Option Nat) (W : World) : Nonempty (At (OldBut row W)) := ⟨⟨W, Nat.le_refl _, fun _ _ _ => rfl⟩⟩
theorem OldBut.cell {row : Option Nat} {W w' : World} (h : OldBut row W w') {a : Addr} {v : Value} (hc : W.cell? a = some v) (hne : some a.block ≠ row) : w'.cell? a = some v := by
 rw [World.cell?_of_block (h.2 _ (cell_lt hc) hne)]; exact hc
theorem OldBut.refl (row : Option Nat) (W : World) : OldBut row W W := ⟨Nat.le_refl _, fun _ _ _ => rfl⟩
theorem OldBut.drew {row : Option Nat} {W w' : World} (h : OldBut row W w') : OldBut row W w'.drew := h
theorem OldBut.below {row : Option Nat} {W w1 w2 : World} (h : OldBut row W w1) (hb : Below w1.heap.size w1 w2) : OldBut row W w2 := ⟨Nat.le_trans h.1 hb.size, fun b hb' hne => (hb.block b (Nat.lt_of_lt_of_le hb' h.1)).trans (h.2 b hb' hne)⟩
theorem OldBut.grown {row : Option Nat} {W w1 w2 : World} (h : OldBut row W w1) (hg : w1.grownBy w2 row) : OldBut row W w2 := ⟨Nat.le_trans h.1 hg.size, fun b hb' hne => (hg.block b (Nat.lt_of_lt_of_le hb' h.1) hne).trans (h.2 b hb' hne)⟩
theorem ne_own_old {w : World} {B T n k b : Nat} {v : Value} {xs : List Value} (h : w.ownsRow B T k v n xs) (hb : b < B) : some b ≠ v.ownBlock := fun e => by have := (h.lt b e.symm).1; omega
theorem ne_own_row {w : World} {B T n k g : Nat} {v : Value} {xs : List Value} {e : TypeId} {cs : List Value} (h : w.ownsRow B T k v n xs) (hr : Row w g e cs) (he : e ≠ T) : some g ≠ v.ownBlock := fun e' => by obtain ⟨cs', hc'⟩ := ownBlock_row h e'.symm; exact hr.ne hc' he rfl
theorem grown_set (w : World) (a : Addr) (u : Value) : w.grownBy (w.setCell a u) (some a.block) := ⟨rfl, rfl, rfl, by simp [World.setCell], fun k _ hk => Below.heap_setCell _ _ _ _ (fun e => hk (by rw [e]))⟩
theorem owns_setApart {w : World} {B T n k g : Nat} {v : Value} {xs : List Value} {e : TypeId} {cs : List Value} (h : w.ownsRow B T k v n xs) (hr : Row w g e cs) (he : e ≠ T) (j : Nat) (u : Value) : (w.setCell ⟨g, j, none⟩ u).ownsRow B T k v n xs :=
 h.kept (grown_set w ⟨g, j, none⟩ u) (.inr fun e' => ne_own_row h hr he e'.symm)
theorem nil_rep {α : Type} (S : Shape α) {h0 : 0 < S.sz} (w : World) (F : Nat → Prop) : (sliceS S h0).rep w F [] [.slice none 0 0] :=
 ⟨none, 0, 0, 0, rfl, Nat.le_refl _, Nat.zero_le _, fun h => absurd h (Nat.not_lt_zero _), fun i h => absurd h (Nat.not_lt_zero _)⟩
abbrev ItemD := Int × Int
def leI (a b : ItemD) : Prop := a.1 < b.1 ∨ a.1 = b.1 ∧ a.2 ≤ b.2
structure ArcD where
 frm : Nat
 dst : Nat
 wt : Int
 deriving DecidableEq
structure GraphD where
 n : Nat
 arcs : List ArcD
 deriving DecidableEq
def arcAt (g : GraphD) (k : Nat) : ArcD := g.arcs.getD k ⟨0, 0, 0⟩
def outUp (g : GraphD) (i k : Nat) : List Nat := (List.range k).filter fun j => (arcAt g j).frm == i
structure GIn (g : GraphD) : Prop where
 n : g.n ≤ 1000
 len : g.arcs.length ≤ 20000
 arc : ∀ a ∈ g.arcs, a.frm < g.n ∧ a.dst < g.n ∧ 0 ≤ a.wt ∧ a.wt ≤ 1099511627776
theorem GIn.at {g : GraphD} (h : GIn g) {k : Nat} (hk : k < g.arcs.length) : (arcAt g k).frm < g.n ∧ (arcAt g k).dst < g.n ∧ 0 ≤ (arcAt g k).wt ∧ (arcAt g k).wt ≤ 1099511627776 := by
 unfold arcAt
 rw [List.getD_eq_getElem?_getD, List.getElem?_eq_getElem hk]
 exact h.arc _ (List.getElem_mem hk)
def farI : Int := 1152921504606846976
def fAt (l : List Int) (i : Nat) : Int := l.getD i 0
theorem fAt_set {l : List Int} {i : Nat} (hi : i < l.length) (v : Int) (x : Nat) : fAt (l.set i v) x = if x = i then v else fAt l x := by
 unfold fAt
 by_cases h : x = i
 ·subst h; simp [List.getD_eq_getElem?_getD, hi]
 ·simp [List.getD_eq_getElem?_getD, h, Ne.symm h]
inductive AWay (g : GraphD) (src : Nat) : Nat → Int → Prop
 | here : AWay g src src 0
 | step {i k : Nat} {c : Int} (h : AWay g src i c) (hk : k < g.arcs.length) (hf : (arcAt g k).frm = i) : AWay g src (arcAt g k).dst (c + (arcAt g k).wt)
structure Dij (g : GraphD) (src : Nat) (far : List Int) (D : List Bool) (its : List ItemD) (x : Nat) (key : Int) (rest : List Nat) : Prop where
 len : far.length = g.n
 dlen : D.length = g.n
 srcn : src < g.n
 src0 : fAt far src = 0
 bnd : ∀ i, i < g.n → 0 ≤ fAt far i ∧ fAt far i ≤ farI
 ach : ∀ i, i < g.n → fAt far i < farI → AWay g src i (fAt far i)
 items : ∀ t ∈ its, ∃ i, i < g.n ∧ t.2 = (i : Int) ∧ fAt far i ≤ t.1 ∧ t.1 < farI
 opn : ∀ i, i < g.n → D.getD i false = false → fAt far i < farI → (fAt far i, (i : Int)) ∈ its
 key0 : 0 ≤ key
 low : ∀ i, i < g.n → D.getD i false = true → fAt far i ≤ key ∧ fAt far i < farI
 keyle : ∀ t ∈ its, key ≤ t.1
 rel : ∀ k, k < g.arcs.length → D.getD (arcAt g k).frm false = true → k ∈ rest ∨ fAt far (arcAt g k).dst ≤ fAt far (arcAt g k).frm + (arcAt g k).wt
 rst : ∀ k ∈ rest, k < g.arcs.length ∧ (arcAt g k).frm = x
 cur : rest ≠ [] → x < g.n ∧ D.getD x false = true ∧ fAt far x = key
theorem Dij.start {g : GraphD} {src : Nat} (h : src < g.n) : Dij g src ((List.replicate g.n farI).set src 0) (List.replicate g.n false) [(0, (src : Int))] 0 0 [] := by
 have hf : ∀ i, i < g.n → fAt ((List.replicate g.n farI).set src 0) i = if i = src then 0 else farI := fun i hi => by
  rw [fAt_set (by simpa using h)]
  split
  ·rfl
  ·simp [fAt, List.getD_eq_getElem?_getD, List.getElem?_replicate, hi]
 have hd : ∀ i, (List.replicate g.n false).getD i false = false := fun i => by
  simp only [List.getD_eq_getElem?_getD, List.getElem?_replicate]
  split <;> rfl
 refine ⟨by simp, by simp, h, by rw [hf _ h, if_pos rfl], fun i hi => ?_, fun i hi hlt => ?_, fun t ht => ?_, fun i hi _ hlt => ?_, Int.le_refl _, fun i _ hD => ?_, fun t ht => ?_, fun k _ hD => ?_, fun k hk => by simp at hk, fun h => absurd rfl h⟩
 ·rw [hf i hi]; unfold farI; split <;> omega
 ·rw [hf i hi] at hlt ⊢
  split at hlt
  ·rename_i e; subst e; rw [if_pos rfl]; exact .here
  ·exact absurd hlt (by omega)
 ·obtain rfl := List.mem_singleton.1 ht
  exact ⟨src, h, rfl, by rw [hf _ h, if_pos rfl]; exact Int.le_refl _, by show (0 : Int) < farI; unfold farI; decide⟩
 ·rw [hf i hi] at hlt ⊢
  split at hlt
  ·rename_i e; subst e; rw [if_pos rfl]; exact List.mem_singleton.2 rfl
  ·exact absurd hlt (by omega)
 ·rw [hd] at hD; cases hD
 ·obtain rfl := List.mem_singleton.1 ht; exact Int.le_refl _
 ·rw [hd] at hD; cases hD
theorem Dij.skip {g : GraphD} {src : Nat} {far : List Int} {D : List Bool} {its its' : List ItemD} {t : ItemD} {x : Nat} {key : Int} (h : Dij g src far D its x key []) (hp : (t :: its').Perm its) {i : Nat} (hi : t.2 = (i : Int)) (hD : D.getD i false = true) : Dij g src far D its' x key [] := by
 refine ⟨h.len, h.dlen, h.srcn, h.src0, h.bnd, h.ach, fun s hs => h.items s (hp.subset (List.mem_cons_of_mem _ hs)), fun j hj h1 h2 => ?_, h.key0, h.low, fun s hs => h.keyle s (hp.subset (List.mem_cons_of_mem _ hs)), h.rel, h.rst, h.cur⟩
 have := hp.symm.subset (h.opn j hj h1 h2)
 rcases List.mem_cons.1 this with e | e
 ·rw [← e] at hi
  have : j = i := by have : (j : Int) = (i : Int) := hi; exact_mod_cast this
  rw [this, hD] at h1; cases h1
 ·exact e
theorem Dij.take {g : GraphD} {src : Nat} {far : List Int} {D : List Bool} {its its' : List ItemD} {t : ItemD} {x : Nat} {key : Int} (h : Dij g src far D its x key []) (hp : (t :: its').Perm its) (hm : ∀ s ∈ its, leI t s) {i : Nat} (hi : t.2 = (i : Int)) (hn : i < g.n) (hD : D.getD i false = false) :
  Dij g src far (D.set i true) its' i t.1 (outUp g i g.arcs.length) ∧ fAt far i = t.1 := by
 have htm : t ∈ its := hp.subset (List.mem_cons_self ..)
 obtain ⟨j, hj, hj2, hj3, hj4⟩ := h.items t htm
 obtain rfl : j = i := by rw [hi] at hj2; exact_mod_cast hj2.symm
 have hle := hm _ (h.opn j hj hD (by omega))
 have hk : fAt far j = t.1 := by unfold leI at hle; simp only at hle; omega
 have hkey := h.keyle t htm
 have hset : ∀ a, (D.set j true).getD a false = if a = j then true else D.getD a false := fun a => by
  by_cases e : a = j
  ·subst e; simp [List.getD_eq_getElem?_getD, h.dlen, hn]
  ·simp [List.getD_eq_getElem?_getD, e, Ne.symm e]
 refine ⟨⟨h.len, by simpa using h.dlen, h.srcn, h.src0, h.bnd, h.ach, fun s hs => h.items s (hp.subset (List.mem_cons_of_mem _ hs)), fun a ha h1 h2 => ?_, Int.le_trans h.key0 hkey, fun a ha h1 => ?_, fun s hs => ?_, fun k hk2 h1 => ?_, fun k hk2 => ?_, fun _ => ⟨hn, by rw [hset, if_pos rfl], hk⟩⟩, hk⟩
 ·rw [hset] at h1
  split at h1
  ·cases h1
  ·rename_i e
   have := hp.symm.subset (h.opn a ha h1 h2)
   rcases List.mem_cons.1 this with e2 | e2
   ·rw [← e2] at hi
    exact absurd (by have : (a : Int) = (j : Int) := hi; exact_mod_cast this) e
   ·exact e2
 ·rw [hset] at h1
  split at h1
  ·rename_i e; subst e; omega
  ·have := h.low a ha h1; omega
 ·have := hm s (hp.subset (List.mem_cons_of_mem _ hs))
  unfold leI at this; omega
 ·rw [hset] at h1
  split at h1
  ·rename_i e
   exact .inl (List.mem_filter.2 ⟨List.mem_range.2 hk2, by simp [e]⟩)
  ·rcases h.rel k hk2 h1 with h2 | h2
   ·simp at h2
   ·exact .inr h2
 ·obtain ⟨h1, h2⟩ := List.mem_filter.1 hk2
  exact ⟨List.mem_range.1 h1, by simpa using h2⟩
structure NearOf (g : GraphD) (src : Nat) (far : List Int) : Prop where
 len : far.length = g.n
 src0 : fAt far src = 0
 bnd : ∀ i, i < g.n → 0 ≤ fAt far i ∧ fAt far i ≤ farI
 ach : ∀ i, i < g.n → fAt far i < farI → AWay g src i (fAt far i)
 rel : ∀ k, k < g.arcs.length → fAt far (arcAt g k).frm < farI → fAt far (arcAt g k).dst ≤ fAt far (arcAt g k).frm + (arcAt g k).wt
theorem Dij.done {g : GraphD} (hg : GIn g) {src : Nat} {far : List Int} {D : List Bool} {x : Nat} {key : Int} (h : Dij g src far D [] x key []) : NearOf g src far :=
 ⟨h.len, h.src0, h.bnd, h.ach, fun k hk hlt => by
  have h1 := hg.at hk
  cases e : D.getD (arcAt g k).frm false with
  | false => exact absurd (h.opn _ h1.1 e hlt) (by simp)
  | true =>
   rcases h.rel k hk e with h2 | h2
   ·simp at h2
   ·exact h2⟩
def arcV (s : ArcD) : List Value := [.int .i64 s.frm, .int .i64 s.dst, .int .i64 s.wt]
structure GGood (g : GraphD) : Prop where
 n : g.n ≤ 1000
 len : g.arcs.length ≤ 20000
 arc : ∀ a ∈ g.arcs, a.frm < a.dst ∧ a.dst < g.n ∧ 0 ≤ a.wt ∧ a.wt ≤ 1099511627776
theorem GGood.in {g : GraphD} (h : GGood g) : GIn g := ⟨h.n, h.len, fun a ha => by have := h.arc a ha; exact ⟨by omega, this.2.1, this.2.2.1, this.2.2.2⟩⟩
def natV (k : Nat) : Value := .int .i64 (k : Int)
theorem arcAt_get {g : GraphD} {k : Nat} (h : k < g.arcs.length) : arcAt g k = g.arcs[k] := by
 unfold arcAt; rw [List.getD_eq_getElem?_getD, List.getElem?_eq_getElem h]; rfl
end Go.Proofs.YtabadfkikdefeaaGreat
