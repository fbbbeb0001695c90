/- Texts of the proof, joined: Own, InstA, Repeat, Facts, InstB, InstC, Region, InstD, BadBlock, BadBound, Square, Small, Open, Law. -/
import Derived.Test.YtbfbjghfcajddaaGreatDoorProg
import Derived.Laws.CopyOwn
import Derived.Deep.RegionWith
import Derived.Deep.DeepCutAuto
import Derived.Deep.QuietTactic
import Derived.Deep.Slices
import Derived.OpenShut
import Derived.Test.YtbfbjghfcajddaaGreatDoorRows
import Derived.ProofKit
import Derived.Test.YtbfbjghfcajddaaGreatDoorO1
set_option linter.all false
set_option maxRecDepth 100000
set_option maxHeartbeats 6400000
namespace Go.Proofs.YtbfbjghfcajddaaGreatDoor
open Go.RowKit
def Row (w : World) (g : Nat) (e : TypeId) (cs : List Value) : Prop :=
 ∃ (cur : Array Value) (rest : List Value), w.heap[g]? = some (.cells cur e (0, 0)) ∧ cur.toList = cs ++ rest
theorem Row.lt {w : World} {g : Nat} {e : TypeId} {cs : List Value} (h : Row w g e cs) : g < w.heap.size := by
 obtain ⟨cur, rest, h1, _⟩ := h
 exact (Array.getElem?_eq_some_iff.1 h1).1
theorem Row.keep {w w' : World} {g : Nat} {e : TypeId} {cs : List Value} (h : Row w g e cs) (hk : w'.heap[g]? = w.heap[g]?) : Row w' g e cs := by
 obtain ⟨cur, rest, h1, h2⟩ := h
 exact ⟨cur, rest, hk.trans h1, h2⟩
theorem Row.below {w w' : World} {g : Nat} {e : TypeId} {cs : List Value} (h : Row w g e cs) (hb : Below w.heap.size w w') : Row w' g e cs := h.keep (hb.block g h.lt)
theorem Row.alloc {w : World} {g : Nat} {e : TypeId} {cs : List Value} (h : Row w g e cs) (o : Obj) : Row (w.alloc o) g e cs := h.keep (Below.heap_alloc _ _ _ h.lt)
theorem Row.setOther {w : World} {g : Nat} {e : TypeId} {cs : List Value} (h : Row w g e cs) {a : Addr} (ha : g ≠ a.block) (u : Value) : Row (w.setCell a u) g e cs := h.keep (Below.heap_setCell _ _ _ _ ha)
theorem Row.drew {w : World} {g : Nat} {e : TypeId} {cs : List Value} (h : Row w g e cs) : Row w.drew g e cs := h
theorem Row.ne {w : World} {g g' : Nat} {e e' : TypeId} {cs cs' : List Value} (h : Row w g e cs) (h' : Row w g' e' cs') (he : e ≠ e') : g ≠ g' := by
 rintro rfl
 obtain ⟨_, _, h1, _⟩ := h
 obtain ⟨_, _, h2, _⟩ := h'
 rw [h1] at h2
 simp only [Option.some.injEq, Obj.cells.injEq] at h2
 exact he h2.2.1
theorem Row.cell {w : World} {g : Nat} {e : TypeId} {cs : List Value} (h : Row w g e cs) {j : Nat} (hj : j < cs.length) : w.cell? ⟨g, j, none⟩ = some cs[j] := by
 obtain ⟨cur, rest, h1, h2⟩ := h
 have : cur[j]? = some cs[j] := by
  rw [← Array.getElem?_toList, h2, List.getElem?_append_left hj, List.getElem?_eq_getElem hj]
 simp [World.cell?, h1, this]
theorem Row.frozen {w : World} {g : Nat} {e : TypeId} {cs : List Value} (h : Row w g e cs) (j : Nat) : w.frozen? ⟨g, j, none⟩ = false := by
 obtain ⟨cur, rest, h1, h2⟩ := h
 simp [World.frozen?, h1]
theorem Row.set {w : World} {g : Nat} {e : TypeId} {cs : List Value} (h : Row w g e cs) {j : Nat} (hj : j < cs.length) (u : Value) : Row (w.setCell ⟨g, j, none⟩ u) g e (cs.set j u) := by
 obtain ⟨cur, rest, h1, h2⟩ := h
 have hg : g < w.heap.size := (Array.getElem?_eq_some_iff.1 h1).1
 refine ⟨cur.setIfInBounds j u, rest, ?_, ?_⟩
 ·simp [World.setCell, Array.getElem?_modify, h1]
 ·rw [Array.toList_setIfInBounds, h2, List.set_append_left _ _ hj]
theorem Row.new {w : World} {g : Nat} {e : TypeId} {cs : List Value} (hg : g = w.heap.size) : Row (w.alloc (.cells cs.toArray e)) g e cs := by
 subst hg
 refine ⟨cs.toArray, [], ?_, by simp⟩
 show (w.heap.push _)[w.heap.size]? = _
 simp
theorem Row.of_owns {w : World} {base : Nat} {e : TypeId} {size : Nat} {v : Value} {n : Nat} {xs : List Value} (h : w.ownsRow base e size v n xs) (hn : 0 < n) :
  ∃ g c, v = .slice (some ⟨g, 0, none⟩) n c ∧ n ≤ c ∧ c ≤ maxLen ∧ base ≤ g ∧ Row w g e xs := by
 obtain ⟨h1, h2⟩ := h
 rcases h2 with ⟨_, h2⟩ | h2
 ·omega
 ·obtain ⟨g, cap, cur, rfl, hg, hh, hn1, hc, hs, ht⟩ := h2
  exact ⟨g, cap, rfl, hn1, hc, hg, cur, cur.toList.drop (n * size), hh, by rw [← ht, List.take_append_drop]⟩
theorem row9 {w : World} {g : Nat} {e : TypeId} {v0 v1 v2 v3 v4 v5 v6 v7 v8 : Value} (h : Row w g e [v0, v1, v2, v3, v4, v5, v6, v7, v8]) :
  w.cell? ⟨g, 0, none⟩ = some v0 ∧ w.cell? ⟨g, 1, none⟩ = some v1 ∧ w.cell? ⟨g, 2, none⟩ = some v2 ∧ w.cell? ⟨g, 3, none⟩ = some v3 ∧ w.cell? ⟨g, 4, none⟩ = some v4 ∧ w.cell? ⟨g, 5, none⟩ = some v5 ∧
   w.cell? ⟨g, 6, none⟩ = some v6 ∧ w.cell? ⟨g, 7, none⟩ = some v7 ∧ w.cell? ⟨g, 8, none⟩ = some v8 :=
 ⟨h.cell (j := 0) (by simp), h.cell (j := 1) (by simp), h.cell (j := 2) (by simp), h.cell (j := 3) (by simp), h.cell (j := 4) (by simp), h.cell (j := 5) (by simp), h.cell (j := 6) (by simp), h.cell (j := 7) (by simp), h.cell (j := 8) (by simp)⟩
def intV (x : Int) : Value := .int .i64 x
theorem Row.make {w : World} {n : Nat} {e : TypeId} : Row (w.alloc (.cells (Array.replicate n (intV 0)) e)) w.heap.size e ((List.replicate n 0).map intV) := by
 have := Row.new (w := w) (e := e) (cs := (List.replicate n 0).map intV) rfl
 simpa using this
def rowV (r : Nat) (row : List Int) : Value := .slice (some ⟨r, 0, none⟩) row.length row.length
def RowsInv (w : World) (B TR TI : Nat) (out : Value) (rows : List (List Int)) (rs : List Nat) : Prop :=
 w.ownsRow B TR 1 out rows.length (List.zipWith rowV rs rows) ∧ rs.length = rows.length ∧ (∀ i (h : i < rs.length) (h' : i < rows.length), Row w rs[i] TI (rows[i].map intV)) ∧ rs.Nodup ∧ ∀ b ∈ rs, B ≤ b ∧ b < w.heap.size
theorem RowsInv.nil (w : World) (B TR TI : Nat) : RowsInv w B TR TI (.slice none 0 0) [] [] :=
 ⟨World.ownsRow_nil _ _ _ _, rfl, fun _ h => absurd h (Nat.not_lt_zero _), List.nodup_nil, fun _ h => by cases h⟩
theorem ownBlock_row {w : World} {B T n k : Nat} {v : Value} {xs : List Value} (h : w.ownsRow B T k v n xs) {g : Nat} (hg : v.ownBlock = some g) : ∃ cs, Row w g T cs := by
 obtain ⟨h1, h2⟩ := h
 rcases h2 with ⟨rfl, _⟩ | ⟨g', cap, cur, rfl, hg', hh, _⟩
 ·cases hg
 ·simp only [Value.ownBlock, Option.some.injEq] at hg
  subst hg
  exact ⟨cur.toList, cur, [], hh, by simp⟩
theorem RowsInv.push {w w1 w2 : World} {B TR TI r : Nat} {out v' : Value} {rows : List (List Int)} {rs : List Nat} {row : List Int} {o : Obj} (h : RowsInv w B TR TI out rows rs) (hne : TR ≠ TI)
  (hb : Below w.heap.size w w1) (hr : Row w1 r TI (row.map intV)) (hrw : w.heap.size ≤ r) (hB : B ≤ w.heap.size)
  (hown : w2.ownsRow B TR 1 v' (rows.length + 1) (List.zipWith rowV rs rows ++ [rowV r row])) (hg : (w1.alloc o).grownBy w2 out.ownBlock) : RowsInv w2 B TR TI v' (rows ++ [row]) (rs ++ [r]) := by
 obtain ⟨h1, h2, h3, h4, h5⟩ := h
 have hob : ∀ {b : Nat} {cs : List Value}, Row w1 b TI cs → Row w2 b TI cs := fun {b cs} hR => by
  refine (hR.alloc o).keep (hg.block b (hR.alloc o).lt ?_)
  intro e
  obtain ⟨cs', hc'⟩ := ownBlock_row h1 e.symm
  exact (hc'.below hb).ne hR hne rfl
 refine ⟨?_, by simp [h2], ?_, ?_, ?_⟩
 ·rw [List.length_append, List.length_singleton, List.zipWith_append h2]
  exact hown
 ·intro i hi hi'
  by_cases hl : i < rows.length
  ·rw [List.getElem_append_left (by omega), List.getElem_append_left hl]
   exact hob ((h3 i (by omega) hl).below hb)
  ·have : i = rows.length := by simp at hi'; omega
   subst this
   rw [List.getElem_append_right (by omega), List.getElem_append_right (Nat.le_refl _)]
   simp only [h2, Nat.sub_self, List.getElem_cons_zero]
   exact hob hr
 ·rw [List.nodup_append]
  refine ⟨h4, by simp, fun a ha b hb' => ?_⟩
  simp only [List.mem_singleton] at hb'
  have := (h5 a ha).2
  omega
 ·intro b hb'
  have hs : w.heap.size ≤ w2.heap.size := Nat.le_trans hb.size (Nat.le_trans (by simp) hg.size)
  have hr2 : r < w2.heap.size := Nat.lt_of_lt_of_le hr.lt (Nat.le_trans (by simp) hg.size)
  rcases List.mem_append.1 hb' with hb' | hb'
  ·have := h5 b hb'; omega
  ·simp only [List.mem_singleton] at hb'; omega
def RowsOwn (w : World) (B TR TI : Nat) (v : Value) (rows : List (List Int)) (g : Nat) (rs : List Nat) : Prop :=
 ∃ c, v = .slice (some ⟨g, 0, none⟩) rows.length c ∧ rows.length ≤ c ∧ c ≤ maxLen ∧ B ≤ g ∧ Row w g TR (List.zipWith rowV rs rows) ∧ rs.length = rows.length ∧
  (∀ i (h : i < rs.length) (h' : i < rows.length), Row w rs[i] TI (rows[i].map intV)) ∧ rs.Nodup ∧ ∀ b ∈ rs, B ≤ b
theorem RowsInv.own {w : World} {B TR TI : Nat} {out : Value} {rows : List (List Int)} {rs : List Nat} (h : RowsInv w B TR TI out rows rs) (hn : 0 < rows.length) : ∃ g, RowsOwn w B TR TI out rows g rs := by
 obtain ⟨h1, h2, h3, h4, h5⟩ := h
 obtain ⟨g, c, hv, hc, hm, hg, hr⟩ := Row.of_owns h1 hn
 exact ⟨g, c, hv, hc, hm, hg, hr, h2, h3, h4, fun b hb => (h5 b hb).1⟩
theorem RowsOwn.below {w w' : World} {B TR TI : Nat} {v : Value} {rows : List (List Int)} {g : Nat} {rs : List Nat} (h : RowsOwn w B TR TI v rows g rs) (hb : Below w.heap.size w w') : RowsOwn w' B TR TI v rows g rs := by
 obtain ⟨c, h0, h1, h2, h3, h4, h5, h6, h7, h8⟩ := h
 exact ⟨c, h0, h1, h2, h3, h4.below hb, h5, fun i h h' => (h6 i h h').below hb, h7, h8⟩
def mayB (n l : Int) : Bool := decide (l ≤ n) && decide (n ≤ 1000000000)
theorem may_c (n l : Int) (w : World) :
  Calls Tryz.prog 40 #[.int .i64 n, .int .i64 l] w fun e w' => e = .returned (.bool (mayB n l)) ∧ w' = w := by
 by_cases h1 : l ≤ n <;> by_cases h2 : n ≤ 1000000000
 all_goals
  go_enter Tryz.func40, Tryz.ntmps40
  go_wp2
  go_ret
  exact ⟨ret_bool (by simp [mayB]; omega), rfl⟩
def manyB (n m : Int) : Bool := decide (1 ≤ n) && decide (n ≤ m)
theorem many_c (n m : Int) (w : World) :
  Calls Tryz.prog 17 #[.int .i64 n, .int .i64 m] w fun e w' => e = .returned (.bool (manyB n m)) ∧ w' = w := by
 by_cases h1 : 1 ≤ n <;> by_cases h2 : n ≤ m
 all_goals
  go_enter Tryz.func17, Tryz.ntmps17
  go_wp2
  go_ret
  exact ⟨ret_bool (by simp [manyB]; omega), rfl⟩
def nodes (x : InstD) : Nat := 1 + x.sats.length + x.custs.length
theorem nodes_c {w : World} {F : Nat → Prop} {x : InstD} {cs : List Value} (h : instS.rep w F x cs) (hl : x.sats.length ≤ 1000000) (hl' : x.custs.length ≤ 1000000) :
  Calls Tryz.prog 19 #[.agg cs.toArray] w fun e w' => e = .returned (.int .i64 (nodes x : Nat)) ∧ Below w.heap.size w w' := by
 obtain ⟨s, c, co, ti, rfl, -, h1, h2, -, -⟩ := h
 obtain ⟨a, b, off, c1, hs, -, -, -, -, -, -⟩ := sats_open h1
 obtain ⟨a', b', off', c1', hs', -, -, -, -, -, -⟩ := custs_open h2
 obtain rfl := List.cons.inj hs |>.1
 obtain rfl := List.cons.inj hs' |>.1
 clear hs hs' h1 h2
 go_enter Tryz.func19, Tryz.ntmps19
 go_wp2
 go_ret
 exact ⟨ret_int (by simp [nodes]), (Below.refl _ _).alloc (Nat.le_refl _) _⟩
theorem square1_c {w : World} {F : Nat → Prop} {r : List Int} {v : Value} (h : (sliceS intS).rep w F r [v]) (q : Nat) (n : Int) (hq : w.cell? ⟨q, 0, none⟩ = some (.int .i64 n)) :
  Calls Tryz.prog 39 #[v, .pointer (some ⟨q, 0, none⟩)] w fun e w' => e = .returned (.bool ((r.length : Int) != n)) ∧ w' = w := by
 obtain ⟨a, b, off, c1, hs, -, -, -, -, -, -⟩ := ints_open h
 obtain rfl := List.cons.inj hs |>.1
 clear hs h
 go_enter Tryz.func39, Tryz.ntmps39
 go_wp2
 go_ret
 exact ⟨rfl, rfl⟩
theorem make_ints0 {P : Program} {t e : TypeId} {i : TypeInfo} (ht : P.underlying t = some (.slice e)) (hi : P.info? e = some i) (hz : i.zero = some (.int .i64 0)) (hs : i.size = 1) (hb : i.bytes = 8) {n : Nat} (hn : n ≤ 1000000) :
  ∀ w, (Instr.makeSlice t (.int .i64 (n : Int)) (.int .i64 (n : Int))).run P w = .ok (.slice (some ⟨w.heap.size, 0, none⟩) n n) (w.alloc (.cells (Array.replicate n (.int .i64 0)) e)) := by
 intro w
 have h := run_make (P := P) w t e i (.int .i64 0) ht hi hz .i64 .i64 n n (by omega) (by omega) (by rw [hb]; omega) (by omega)
 rw [h, hs]
 have hm : (madeCells (Value.int .i64 0).cells ((n : Int).toNat * 1)) = Array.replicate n (.int .i64 0) := by
  apply Array.ext'
  rw [Nat.mul_one, Int.toNat_natCast, show (Value.int .i64 0).cells = #[.int .i64 0] from rfl, toList_madeCells_one]
  simp
 rw [hm, Int.toNat_natCast]
def Rep (n : Nat) (v : Int) (m : Nat) : List Value := List.replicate m (.int .i64 v) ++ List.replicate (n - m) (.int .i64 0)
theorem Rep.len {n m : Nat} {v : Int} (h : m ≤ n) : (Rep n v m).length = n := by simp [Rep]; omega
theorem Rep.spl {n m k : Nat} {v : Int} (h : m + k ≤ n) : Go.splice (Rep n v m) m (List.replicate k (.int .i64 v)) = Rep n v (m + k) := by
 unfold Go.splice Rep
 simp only [List.length_replicate]
 rw [List.take_append_of_le_length (by simp), List.take_of_length_le (by simp), List.drop_append]
 simp only [List.length_replicate, List.drop_replicate]
 rw [show m - (m + k) = 0 by omega, show m + k - m = k by omega, show n - m - k = n - (m + k) by omega]
 simp [List.replicate_append_replicate, ← List.append_assoc]
theorem Rep.spl2 {n m k : Nat} {v : Int} (h : m + k ≤ n) : List.take m (Rep n v m) ++ List.replicate k (Value.int .i64 v) ++ List.drop (m + (List.replicate k (Value.int .i64 v)).length) (Rep n v m) = Rep n v (m + k) := by
 rw [List.append_assoc]
 exact Rep.spl h
theorem repeat_c {w : World} {n b off c : Nat} {v : Int} (h0 : 0 < n) (hn : n ≤ 1000) (hv : w.cell? ⟨b, off, none⟩ = some (.int .i64 v))
  (hmul : Calls Tryz.prog 105 #[.int .u64 1, .int .u64 n] w fun e w' => e = .returned (.tuple #[.int .u64 0, .int .u64 n]) ∧ Below w.heap.size w w') :
  Calls Tryz.prog 77 #[.slice (some ⟨b, off, none⟩) 1 c, .int .i64 n] w fun e w' => ∃ g, e = .returned (.slice (some ⟨g, 0, none⟩) n n) ∧ w.heap.size ≤ g ∧ w'.heap[g]? = some (.cells (Rep n v n).toArray 2 (0, 0)) ∧ Below w.heap.size w w' := by
 have hB0 := Below.refl w.heap.size w
 go_enter Tryz.func77, Tryz.ntmps77
 have hmk := fun w => make_ints0 (P := Tryz.prog) (t := 42) (e := 2) Tryz.underlying42 rfl rfl rfl rfl (n := n) (by omega) w
 have hneg : ¬ ((n : Int) < 0) := by omega
 go_wp2_with fail
 refine hmul.mono ?_
 rintro e w1 ⟨rfl, hb1⟩
 have hbig : ¬ ((n : Int) > 9223372036854775807) := by omega
 have hB1 := below_step hB0 hb1
 go_upto_region 7 with fail
 have HB := hid (hB1.alloc (by have := hB1.size; omega) (.cells (Array.replicate n (.int .i64 0)) 2))
 have HGs : w.heap.size ≤ w1.heap.size := hB1.size
 have HG : Hid ((w1.alloc (.cells (Array.replicate n (.int .i64 0)) 2)).heap[w1.heap.size]? = some (.cells (Rep n v 0).toArray 2 (0, 0))) := hid (by
  show (w1.heap.push _)[w1.heap.size]? = _
  simp [Rep])
 have hv1 : (w1.alloc (.cells (Array.replicate n (.int .i64 0)) 2)).cell? ⟨b, off, none⟩ = some (.int .i64 v) := by
  rw [HB.out.cell (World.block_lt_of_cell? w _ hv)]
  exact hv
 obtain ⟨g, hgg⟩ : ∃ g, g = w1.heap.size := ⟨_, rfl⟩
 rw [← hgg] at HG HGs ⊢
 generalize w1.alloc (.cells (Array.replicate n (.int .i64 0)) 2) = w2 at HB HG hv1 ⊢
 clear hb1 hB0 hB1 hv hmk hgg
 go_wp2_with (with_reducible refine wpList_copy_splice (o := ⟨some 33, _, _, _, _, _⟩) rfl _ _ _ _ rfl 2 Tryz.underlying42 (by kernel_rfl) _ _ _ _ _ _ rfl rfl g 0 (Rep n v 0) 2 HG.out [.int .i64 v] ?_ ?_ ?_ ?_ w.heap.size w HB.out HGs ?_)
 ·show 1 = Nat.min 1 n
  exact (Nat.min_eq_left (by omega)).symm
 ·intro j u hj
  rcases j with _ | j
  ·obtain rfl : Value.int .i64 v = u := by simpa using hj
   exact hv1
  ·simp at hj
 ·rw [Rep.len (by omega)]
  show 0 + 1 ≤ n
  omega
 ·intro u hu
  obtain rfl := List.mem_singleton.1 hu
  rfl
 intro w3 hh hb3
 have HG3 : Hid (w3.heap[g]? = some (.cells (Rep n v 1).toArray 2 (0, 0))) := hid (by
  have := hh.out
  rw [show [Value.int .i64 v] = List.replicate 1 (.int .i64 v) from rfl, Rep.spl (by omega)] at this
  exact this)
 have HB3 := hid hb3
 clear hh hb3 HB HG hv1
 go_wp2
 go_loopw [8] (fun i wr => ∃ m : Nat, i = .int .i64 m ∧ 0 < m ∧ m ≤ n ∧ Hid (wr.heap[g]? = some (.cells (Rep n v m).toArray 2 (0, 0))) ∧ Hid (Below w.heap.size w wr)) (fun i _ => n - (intOf i).toNat)
 case atStart => exact ⟨1, rfl, by omega, by omega, HG3, HB3⟩
 case round =>
  obtain ⟨m, rfl, hm0, hmn, HGm, HBm⟩ := hrel
  by_cases hlt : m < n
  ·have hlt' : (m : Int) < n := by omega
   go_upto_region 9 with fail
   obtain ⟨k, hk⟩ : ∃ k, k = min m (n - m) := ⟨_, rfl⟩
   have hk0 : 0 < k := by omega
   have hkn : m + k ≤ n := by omega
   have hkm : k ≤ m := by omega
   have hrun : (Builtin.copy_ #[42, 42] 3 #[.slice (some ⟨g, m, none⟩) (n - m) (n - m), .slice (some ⟨g, 0, none⟩) m n]).run Tryz.prog wr.drew = .ok (goInt ((List.replicate k (Value.int .i64 v)).length : Nat)) (wr.drew.setRow g (List.take m (Rep n v m) ++ List.replicate k (Value.int .i64 v) ++ List.drop (m + (List.replicate k (Value.int .i64 v)).length) (Rep n v m)).toArray) := run_copy_row (P := Tryz.prog) wr.drew 42 42 3 2 g m (n - m) (n - m) ⟨g, 0, none⟩ m n (Rep n v m).toArray 2 (List.replicate k (.int .i64 v)) Tryz.underlying42 (by kernel_rfl) HGm.out (by rw [List.length_replicate]; exact hk) (fun j u hj => by
    rw [List.getElem?_replicate] at hj
    split at hj
    ·rename_i hjl
     cases hj
     have : (Rep n v m)[j]? = some (.int .i64 v) := by
      unfold Rep
      rw [List.getElem?_append_left (by simp; omega), List.getElem?_replicate, if_pos (by omega)]
     show wr.drew.cell? ((⟨g, 0, none⟩ : Addr).add j) = _
     have e : (⟨g, 0, none⟩ : Addr).add j = ⟨g, j, none⟩ := by unfold Addr.add; split <;> simp_all
     rw [e]
     have hcg : wr.cell? ⟨g, j, none⟩ = some (.int .i64 v) := by
      simp [World.cell?, HGm.out, this]
     exact hcg
    ·cases hj) (by simp [Rep]; omega) (fun u hu => by rw [(List.mem_replicate.1 hu).2]; rfl)
   rw [Rep.spl2 hkn, List.length_replicate] at hrun
   have HB5 := hid (below_setRow (g := g) (below_drewN HBm.out 1) HGs (Rep n v (m + k)).toArray)
   have HG5 := hid (setRow_heap wr.drew g (Rep n v m).toArray (Rep n v (m + k)).toArray 2 (0, 0) HGm.out)
   clear hk hkm
   go_region
   go_wp2
   go_roundw
   case rel => exact ⟨m + k, by push_cast; rfl, by omega, hkn, HG5, HB5⟩
   case measure =>
    show n - ((m : Int) + k).toNat < n - (m : Int).toNat
    omega
  ·have hlt' : ¬ (m : Int) < n := by omega
   obtain rfl : m = n := by omega
   go_wp2
   go_ret
   exact ⟨g, rfl, HGs, HGm.out, HBm.out⟩
theorem sz_i64 : ∀ w, (sizeOf 2).run Tryz.prog w = .ok 1 w := fun w => by kernel_rfl
theorem sz_row : ∀ w, (sizeOf 42).run Tryz.prog w = .ok 1 w := fun w => by kernel_rfl
theorem sz_sat : ∀ w, (sizeOf 52).run Tryz.prog w = .ok 2 w := fun w => by kernel_rfl
theorem sz_cust : ∀ w, (sizeOf 54).run Tryz.prog w = .ok 4 w := fun w => by kernel_rfl
def idxOf {α : Type} (p : α → Bool) (l : List α) : Int := match l.findIdx? p with | some i => (i : Int) | none => -1
theorem idx_hit {α : Type} {p : α → Bool} {l : List α} {k : Nat} (hk : k < l.length) (h0 : ∀ j (h : j < k), p (l[j]'(Nat.lt_trans h hk)) = false) (h : p l[k] = true) : idxOf p l = k := by
 unfold idxOf
 have : l.findIdx? p = some k := List.findIdx?_eq_some_iff_getElem.2 ⟨hk, h, fun j hj => by simpa using h0 j hj⟩
 rw [this]
theorem idx_none {α : Type} {p : α → Bool} {l : List α} (h0 : ∀ j (h : j < l.length), p l[j] = false) : idxOf p l = -1 := by
 unfold idxOf
 have : l.findIdx? p = none := List.findIdx?_eq_none_iff.2 fun x hx => by
  obtain ⟨j, hj, rfl⟩ := List.getElem_of_mem hx
  exact h0 j hj
 rw [this]
theorem idx_ge {α : Type} (p : α → Bool) (l : List α) : decide (0 ≤ idxOf p l) = l.any p := by
 unfold idxOf
 cases h : l.findIdx? p with
 | none =>
  rw [List.findIdx?_eq_none_iff] at h
  have : l.any p = false := by
   rw [List.any_eq_false]; intro x hx; simp [h x hx]
  rw [this]; rfl
 | some i =>
  obtain ⟨hi, hp, _⟩ := List.findIdx?_eq_some_iff_getElem.1 h
  have : l.any p = true := List.any_eq_true.2 ⟨l[i], List.getElem_mem hi, hp⟩
  rw [this]; simp
theorem indexRows_c {w : World} {F : Nat → Prop} {l : List (List Int)} {v : Value} (h : rowsS.rep w F l [v]) (q : Nat) (n : Int) (hq : w.cell? ⟨q, 0, none⟩ = some (.int .i64 n)) :
  Calls Tryz.prog 64 #[v, .func (.func 39) #[] #[.pointer (some ⟨q, 0, none⟩)]] w fun e w' => e = .returned (.int .i64 (idxOf (fun r : List Int => (r.length : Int) != n) l)) ∧ w' = w := by
 obtain ⟨a, b, off, c1, hs, hlc, hc, ha, hF, hcell⟩ := rows_open h
 obtain rfl := List.cons.inj hs |>.1
 clear hs h
 go_enter Tryz.func64, Tryz.ntmps64
 go_wp2
 go_loop [5, 8] (fun _ i => ∃ k : Nat, k ≤ l.length ∧ i = .int .i64 k ∧ ∀ j (h : j < l.length), j < k → ((l[j].length : Int) != n) = false) (fun _ i => l.length - (intOf i).toNat)
 case atStart => exact ⟨0, Nat.zero_le _, rfl, fun _ _ h => absurd h (Nat.not_lt_zero _)⟩
 case round =>
  obtain ⟨k, hk, rfl, hp⟩ := hrel
  by_cases hlt : k < l.length
  ·have hx := idx_at1 (c := c1) Tryz.underlying26 sz_row (ha (by omega)) hlt
   obtain ⟨v, hv, hr⟩ := hcell k hlt
   have HP := hid hp
   clear hp hcell ha
   cases hpk : ((l[k].length : Int) != n)
   ·go_wp2_with ((with_reducible refine (square1_c hr q n hq).mono ?_); rintro e w' ⟨rfl, rfl⟩)
    go_round
    case rel => exact ⟨k + 1, by omega, by go_num, fun j hj hjk => by
     by_cases hjk' : j = k
     ·subst hjk'; exact hpk
     ·exact HP.out j hj (by omega)⟩
    case measure => simp [intOf]; omega
   ·go_wp2_with ((with_reducible refine (square1_c hr q n hq).mono ?_); rintro e w' ⟨rfl, rfl⟩)
    go_ret
    exact ⟨ret_int (idx_hit (p := fun r : List Int => (r.length : Int) != n) hlt (fun j hj => HP.out j (by omega) hj) hpk).symm, rfl⟩
  ·have HP := hid hp
   clear hp hcell ha
   go_wp2
   go_ret
   exact ⟨ret_int (idx_none (p := fun r : List Int => (r.length : Int) != n) (fun j hj => HP.out j hj (by omega))).symm, rfl⟩
theorem containsRows_c {w : World} {F : Nat → Prop} {l : List (List Int)} {v : Value} (h : rowsS.rep w F l [v]) (q : Nat) (n : Int) (hq : w.cell? ⟨q, 0, none⟩ = some (.int .i64 n)) :
  Calls Tryz.prog 38 #[v, .func (.func 39) #[] #[.pointer (some ⟨q, 0, none⟩)]] w fun e w' => e = .returned (.bool (l.any (fun r : List Int => (r.length : Int) != n))) ∧ w' = w := by
 go_enter Tryz.func38, Tryz.ntmps38
 go_wp2_with ((with_reducible refine (indexRows_c h q n hq).mono ?_); rintro e w' ⟨rfl, rfl⟩)
 go_ret
 exact ⟨ret_bool (idx_ge _ _), rfl⟩
def squareB (l : List (List Int)) (n : Int) : Bool := ((l.length : Int) == n) && !(l.any (fun r : List Int => (r.length : Int) != n))
theorem square_c {w : World} {F : Nat → Prop} {l : List (List Int)} {v : Value} (h : rowsS.rep w F l [v]) (n : Int) :
  Calls Tryz.prog 18 #[v, .int .i64 n] w fun e w' => e = .returned (.bool (squareB l n)) ∧ Below w.heap.size w w' := by
 obtain ⟨a, b, off, c1, hs, -, -, -, -, -⟩ := rows_open h
 obtain rfl := List.cons.inj hs |>.1
 clear hs
 have hb : Below w.heap.size w (w.alloc (.cells #[.int .i64 n] 3)) := (Below.refl _ _).alloc (Nat.le_refl _) _
 have h' := rowsS.below h hb
 have hq : (w.alloc (.cells #[.int .i64 n] 3)).cell? ⟨w.heap.size, 0, none⟩ = some (.int .i64 n) := by simp
 cases hn : ((l.length : Int) == n)
 ·go_enter Tryz.func18, Tryz.ntmps18
  go_wp2
  go_ret
  exact ⟨ret_bool (by simp [squareB, hn]), hb⟩
 ·go_enter Tryz.func18, Tryz.ntmps18
  go_wp2_with ((with_reducible refine (containsRows_c h' w.heap.size n hq).mono ?_); rintro e w' ⟨rfl, rfl⟩)
  go_ret
  exact ⟨ret_bool (by simp [squareB, hn]), hb⟩
theorem square_b {w : World} {F : Nat → Prop} {l : List (List Int)} {v : Value} (h : rowsS.rep w F l [v]) {n : Int} {b : Bool} (hb : squareB l n = b) :
  Calls Tryz.prog 18 #[v, .int .i64 n] w fun e w' => e = .returned (.bool b) ∧ Below w.heap.size w w' := by
 subst hb; exact square_c h n
def satB (s : SatD) : Bool := mayB s.room 0 && mayB s.hold 0
def custB (c : CustD) : Bool := mayB c.load 1 && mayB c.opn 0 && mayB c.cls c.opn && mayB c.stay 0
def cellB (i k : Nat) (n : Int) : Bool := mayB n 0 && (((i : Int) != (k : Int)) || n == 0)
def rowB (i : Nat) (r : List Int) (m : Nat) : Bool := (List.range m).all fun k => cellB i k (r.getD k 0)
def matB (l : List (List Int)) (m : Nat) : Bool := (List.range m).all fun i => rowB i (l.getD i []) (l.getD i []).length
def headB (x : InstD) : Bool := mayB x.fin 0 && mayB x.troom 0 && mayB x.broom 0
def numbersB (x : InstD) : Bool := headB x && x.sats.all satB && x.custs.all custB && matB x.cost x.cost.length && matB x.time x.time.length
theorem rowB_succ (i : Nat) (r : List Int) (k : Nat) (h : k < r.length) : rowB i r (k + 1) = (rowB i r k && cellB i k r[k]) := by
 unfold rowB; rw [List.range_succ, List.all_append]; simp [List.getD, List.getElem?_eq_getElem h]
theorem matB_succ (l : List (List Int)) (k : Nat) (h : k < l.length) : matB l (k + 1) = (matB l k && rowB k l[k] l[k].length) := by
 unfold matB; rw [List.range_succ, List.all_append]; simp [List.getD, List.getElem?_eq_getElem h]
def okSats (x : InstD) (k : Nat) : Bool := headB x && (x.sats.take k).all satB
def okCusts (x : InstD) (k : Nat) : Bool := okSats x x.sats.length && (x.custs.take k).all custB
theorem okSats_succ (x : InstD) (k : Nat) (h : k < x.sats.length) : okSats x (k + 1) = (okSats x k && satB x.sats[k]) := by
 unfold okSats; rw [all_take_succ _ _ _ h, Bool.and_assoc]
theorem okCusts_succ (x : InstD) (k : Nat) (h : k < x.custs.length) : okCusts x (k + 1) = (okCusts x k && custB x.custs[k]) := by
 unfold okCusts; rw [all_take_succ _ _ _ h, Bool.and_assoc]
def matOf (x : InstD) (k : Nat) : List (List Int) := if k = 0 then x.cost else x.time
def okMats (x : InstD) (k : Nat) : Bool := okCusts x x.custs.length && (List.range k).all fun j => matB (matOf x j) (matOf x j).length
theorem okMats_succ (x : InstD) (k : Nat) : okMats x (k + 1) = (okMats x k && matB (matOf x k) (matOf x k).length) := by
 unfold okMats; rw [List.range_succ, List.all_append, ← Bool.and_assoc]; simp
theorem okMats_two (x : InstD) : okMats x 2 = numbersB x := by
 simp [okMats, okCusts, okSats, numbersB, matOf, List.range_succ, Bool.and_assoc]
theorem chainCell (p q r s : Bool) : p = false ∨ (p = true ∧ q = false) ∨ (p = true ∧ q = true ∧ r = true) ∨ (p = true ∧ q = true ∧ r = false ∧ s = false) ∨ (p = true ∧ q = true ∧ r = false ∧ s = true) := by
 cases p <;> cases q <;> cases r <;> cases s <;> simp
def okRow (x : InstD) (j i : Nat) (l : List (List Int)) : Bool := okMats x j && matB l i
def okCell (x : InstD) (j i k : Nat) (l : List (List Int)) (r : List Int) : Bool := okRow x j i l && rowB i r k
theorem okRow_succ (x : InstD) (j i : Nat) (l : List (List Int)) (h : i < l.length) : okRow x j (i + 1) l = okCell x j i l[i].length l l[i] := by
 unfold okCell okRow; rw [matB_succ _ _ h, Bool.and_assoc]
theorem okCell_succ (x : InstD) (j i k : Nat) (l : List (List Int)) (r : List Int) (h : k < r.length) : okCell x j i (k + 1) l r = (okCell x j i k l r && cellB i k r[k]) := by
 unfold okCell; rw [rowB_succ _ _ _ h, Bool.and_assoc]
theorem numbers_c {w : World} {F : Nat → Prop} {x : InstD} {cs : List Value} (h : instS.rep w F x cs) :
  Calls Tryz.prog 20 #[.agg cs.toArray] w fun e w' => e = .returned (.bool (numbersB x)) ∧ Below w.heap.size w w' := by
 obtain ⟨s, c, co, ti, rfl, -, h1, h2, h3, h4⟩ := h
 obtain ⟨a, b, off, c1, hs, hlc, hc, ha, -, hcell, -⟩ := sats_open h1
 obtain ⟨a', b', off', c1', hs', hlc', hc', ha', -, hcell', -⟩ := custs_open h2
 obtain rfl := List.cons.inj hs |>.1
 obtain rfl := List.cons.inj hs' |>.1
 obtain ⟨a3, b3, off3, c3, hs3, hlc3, hc3, ha3, -, hcell3⟩ := rows_open h3
 obtain ⟨a4, b4, off4, c4, hs4, hlc4, hc4, ha4, -, hcell4⟩ := rows_open h4
 obtain rfl := List.cons.inj hs3 |>.1
 obtain rfl := List.cons.inj hs4 |>.1
 clear hs hs' h1 h2 hs3 hs4 h3 h4
 have hst : okSats x 0 = headB x := by simp [okSats]
 have HST := hid hst
 clear hst
 go_enter Tryz.func20, Tryz.ntmps20
 go_upto_region 1 with fail
 go_cut [3] (fun s3 wx => s3 = .bool (okSats x 0) ∧ Below w.heap.size w wx ∧ w.heap.size < wx.heap.size ∧ wx.cell? ⟨w.heap.size, 5, none⟩ = some (.slice a x.sats.length c1) ∧
  wx.cell? ⟨w.heap.size, 6, none⟩ = some (.slice a' x.custs.length c1') ∧ wx.cell? ⟨w.heap.size, 7, none⟩ = some (.slice a3 x.cost.length c3) ∧ wx.cell? ⟨w.heap.size, 8, none⟩ = some (.slice a4 x.time.length c4))
 case first =>
  cases e1 : mayB x.fin 0 <;> cases e2 : mayB x.troom 0 <;> cases e3 : mayB x.broom 0
  all_goals
   have HH : Hid (headB x = (mayB x.fin 0 && mayB x.troom 0 && mayB x.broom 0)) := rfl
   go_wp2_with ((with_reducible refine (may_c _ _ _).mono ?_); rintro e w' ⟨rfl, rfl⟩)
   go_meet
   exact ⟨by rw [HST.out, HH.out, e1, e2, e3]; rfl, (Below.refl _ _).alloc (Nat.le_refl _) _, by simp, by simp, by simp, by simp, by simp⟩
 case rest =>
  obtain ⟨rfl, hb0, hz, q3, q4, q5, q6⟩ := hcut
  clear HST
  obtain ⟨w0, rfl⟩ : ∃ w0 : World, w0 = wc := ⟨_, rfl⟩
  go_wp2
  go_loopw [3, 32] (fun ok i wr => ∃ k : Nat, k ≤ x.sats.length ∧ i = .int .i64 k ∧ ok = .bool (okSats x k) ∧ Below w0.heap.size w0 wr) (fun _ i _ => x.sats.length - (intOf i).toNat)
  case atStart => exact ⟨0, Nat.zero_le _, rfl, rfl, Below.refl _ _⟩
  case round =>
   obtain ⟨k, hk, rfl, rfl, hb⟩ := hrel
   by_cases hlt : k < x.sats.length
   ·have hx := idx_at (c := c1) Tryz.underlying24 sz_sat (ha (by omega)) hlt
    have g0 := below_cell (hb0.trans (hb.mono (by omega))) (hcell k hlt).1
    have g1 := below_cell (hb0.trans (hb.mono (by omega))) (hcell k hlt).2
    have HS := hid (okSats_succ x k hlt)
    have HB : Hid (satB x.sats[k] = (mayB x.sats[k].room 0 && mayB x.sats[k].hold 0)) := rfl
    clear hcell hcell' ha ha'
    cases e0 : okSats x k <;> cases e1 : mayB x.sats[k].room 0 <;> cases e2 : mayB x.sats[k].hold 0
    all_goals
     go_wp2_with ((with_reducible refine (may_c _ _ _).mono ?_); rintro e w' ⟨rfl, rfl⟩)
     go_roundw
     case rel => exact ⟨k + 1, by omega, by go_num, by rw [HS.out, HB.out, e0, e1, e2]; rfl, (hb.alloc hb.size _)⟩
     case measure => simp [intOf]; omega
   ·have hks : k = x.sats.length := by omega
    subst hks
    clear hcell ha
    have hb1 := hb0.trans (hb.mono (by omega))
    have r4 := below_cell hb q4
    have r5 := below_cell hb q5
    have r6 := below_cell hb q6
    have hz1 : w.heap.size < wr.heap.size := Nat.lt_of_lt_of_le hz hb.size
    clear q3 q4 q5 q6 hz hb0 hb
    go_wp2
    obtain ⟨w1, rfl⟩ : ∃ w1 : World, w1 = wr := ⟨_, rfl⟩
    have HC0 : okSats x x.sats.length = okCusts x 0 := by simp [okCusts]
    rw [HC0]
    clear HC0
    go_loopw [3, 51] (fun ok i wr => ∃ k : Nat, k ≤ x.custs.length ∧ i = .int .i64 k ∧ ok = .bool (okCusts x k) ∧ Below w1.heap.size w1 wr) (fun _ i _ => x.custs.length - (intOf i).toNat)
    case atStart => exact ⟨0, Nat.zero_le _, rfl, rfl, Below.refl _ _⟩
    case round =>
     obtain ⟨k, hk, rfl, rfl, hb⟩ := hrel
     by_cases hlt : k < x.custs.length
     ·have hx := idx_at (c := c1') Tryz.underlying25 sz_cust (ha' (by omega)) hlt
      have g0 := below_cell (hb1.trans (hb.mono (by omega))) (hcell' k hlt).1
      have g1 := below_cell (hb1.trans (hb.mono (by omega))) (hcell' k hlt).2.1
      have g2 := below_cell (hb1.trans (hb.mono (by omega))) (hcell' k hlt).2.2.1
      have g3 := below_cell (hb1.trans (hb.mono (by omega))) (hcell' k hlt).2.2.2
      have HS := hid (okCusts_succ x k hlt)
      have HB : Hid (custB x.custs[k] = (mayB x.custs[k].load 1 && mayB x.custs[k].opn 0 && mayB x.custs[k].cls x.custs[k].opn && mayB x.custs[k].stay 0)) := rfl
      clear hcell' ha' r4 r5 r6
      rcases chain5 (okCusts x k) (mayB x.custs[k].load 1) (mayB x.custs[k].opn 0) (mayB x.custs[k].cls x.custs[k].opn) (mayB x.custs[k].stay 0) with e0 | ⟨e0, e1⟩ | ⟨e0, e1, e2⟩ | ⟨e0, e1, e2, e3⟩ | ⟨e0, e1, e2, e3, e4⟩ | ⟨e0, e1, e2, e3, e4⟩
      all_goals
       go_wp2_with ((with_reducible refine (may_c _ _ _).mono ?_); rintro e w' ⟨rfl, rfl⟩)
       go_roundw
       case rel => exact ⟨k + 1, by omega, by go_num, by rw [HS.out, HB.out]; first | (rw [e0]; rfl) | (rw [e0, e1]; rfl) | (rw [e0, e1, e2]; rfl) | (rw [e0, e1, e2, e3]; rfl) | (rw [e0, e1, e2, e3, e4]; rfl), (hb.alloc hb.size _)⟩
       case measure => simp [intOf]; omega
     ·have hks : k = x.custs.length := by omega
      subst hks
      clear hcell' ha' r4
      have hb2 := hb1.trans (hb.mono (by omega))
      have q5 := below_cell hb r5
      have q6 := below_cell hb r6
      have hz2 : w.heap.size < wr.heap.size := Nat.lt_of_lt_of_le hz1 hb.size
      clear r5 r6 hz1 hb1 hb
      go_wp2
      obtain ⟨w2, rfl⟩ : ∃ w2 : World, w2 = wr := ⟨_, rfl⟩
      have HM0 : okCusts x x.custs.length = okMats x 0 := by simp [okMats]
      rw [HM0]
      clear HM0
      go_loop [3, 84] (fun ok i => ∃ j : Nat, j ≤ 2 ∧ i = .int .i64 j ∧ ok = .bool (okMats x j)) (fun _ i => 2 - (intOf i).toNat)
      case atStart => exact ⟨0, by omega, rfl, rfl⟩
      case round =>
       obtain ⟨j, hj, rfl, rfl⟩ := hrel
       by_cases hlt : j < 2
       ·have hm : ∃ (l : List (List Int)) (am : Option Addr) (bm offm cm : Nat), l = matOf x j ∧ (∀ w', (Instr.index 96 (.agg #[.slice a3 x.cost.length c3, .slice a4 x.time.length c4]) (.int .i64 (j : Int))).run Tryz.prog w' = .ok (.slice am l.length cm) w') ∧
          l.length ≤ cm ∧ cm ≤ 9223372036854775807 ∧ (0 < l.length → am = some ⟨bm, offm, none⟩) ∧ ∀ k (h : k < l.length), ∃ v, w2.cell? ⟨bm, offm + k, none⟩ = some v ∧ (sliceS intS).rep w2 F l[k] [v] := by
         have hj2 : j = 0 ∨ j = 1 := by omega
         rcases hj2 with rfl | rfl
         ·exact ⟨x.cost, a3, b3, off3, c3, rfl, fun _ => by kernel_rfl, hlc3, hc3, ha3, fun k h => let ⟨v, h1, h2⟩ := hcell3 k h; ⟨v, below_cell hb2 h1, (sliceS intS).below h2 hb2⟩⟩
         ·exact ⟨x.time, a4, b4, off4, c4, rfl, fun _ => by kernel_rfl, hlc4, hc4, ha4, fun k h => let ⟨v, h1, h2⟩ := hcell4 k h; ⟨v, below_cell hb2 h1, (sliceS intS).below h2 hb2⟩⟩
        obtain ⟨l, am, bm, offm, cm, hl, hix, hlm, hcm, ham, hcm'⟩ := hm
        have HL := hid hl
        clear hl ha3 ha4 hcell3 hcell4
        have HR0 : okMats x j = okRow x j 0 l := by simp [okRow, matB]
        rw [HR0]
        go_wp2
        go_loop [3, 89] (fun ok i => ∃ k : Nat, k ≤ l.length ∧ i = .int .i64 k ∧ ok = .bool (okRow x j k l)) (fun _ i => l.length - (intOf i).toNat)
        case atStart => exact ⟨0, by omega, rfl, rfl⟩
        case round =>
         obtain ⟨k, hk, rfl, rfl⟩ := hrel
         by_cases hlt2 : k < l.length
         ·have hx := idx_at1 (c := cm) Tryz.underlying26 sz_row (ham (by omega)) hlt2
          obtain ⟨v, hv, hr⟩ := hcm' k hlt2
          have HS := hid (okRow_succ x j k l hlt2)
          have HC0 : okRow x j k l = okCell x j k 0 l l[k] := by simp [okCell, rowB]
          rw [HC0]
          clear hcm' ham HC0
          obtain ⟨r, hr'⟩ : ∃ r, r = l[k] := ⟨_, rfl⟩
          rw [← hr'] at hr
          rw [← hr']
          obtain ⟨ar, br, offr, cr, hsr, hlr, hcr, har, -, hcr2, -⟩ := ints_open hr
          obtain rfl := List.cons.inj hsr |>.1
          have HR := hid hr'
          clear hsr hr hr'
          go_wp2
          go_loop [3, 96] (fun ok i => ∃ m : Nat, m ≤ r.length ∧ i = .int .i64 m ∧ ok = .bool (okCell x j k m l r)) (fun _ i => r.length - (intOf i).toNat)
          case atStart => exact ⟨0, by omega, rfl, rfl⟩
          case round =>
           obtain ⟨m, hm, rfl, rfl⟩ := hrel
           by_cases hlt3 : m < r.length
           ·have hx3 := idx_at1 (c := cr) Tryz.underlying42 sz_i64 (har (by omega)) hlt3
            have g := hcr2 m hlt3
            have HS3 := hid (okCell_succ x j k m l r hlt3)
            have HB3 : Hid (cellB k m r[m] = (mayB r[m] 0 && (((k : Int) != (m : Int)) || r[m] == 0))) := rfl
            clear hcr2 har
            rcases chainCell (okCell x j k m l r) (mayB r[m] 0) ((k : Int) != (m : Int)) (r[m] == 0) with e0 | ⟨e0, e1⟩ | ⟨e0, e1, e2⟩ | ⟨e0, e1, e2, e3⟩ | ⟨e0, e1, e2, e3⟩
            all_goals
             go_wp2_with ((with_reducible refine (may_c _ _ _).mono ?_); rintro e w' ⟨rfl, rfl⟩)
             go_round
             case rel => exact ⟨m + 1, by omega, by go_num, by rw [HS3.out, HB3.out]; first | (rw [e0]; rfl) | (rw [e0, e1]; rfl) | (rw [e0, e1, e2]; rfl) | (rw [e0, e1, e2, e3]; rfl)⟩
             case measure => simp [intOf]; omega
           ·have hmr : m = r.length := by omega
            subst hmr
            clear hcr2 har
            go_wp2
            go_round
            case rel => exact ⟨k + 1, by omega, by go_num, by rw [HS.out, ← HR.out]⟩
            case measure => simp [intOf]; omega
         ·have hkl : k = l.length := by omega
          subst hkl
          have HN : Hid (okMats x (j + 1) = okRow x j l.length l) := by rw [okMats_succ]; unfold okRow; rw [HL.out]; rfl
          clear hcm' ham
          go_wp2
          go_round
          case rel => exact ⟨j + 1, by omega, by go_num, by rw [HN.out]⟩
          case measure => simp [intOf]; omega
       ·have hj2 : j = 2 := by omega
        subst hj2
        have HE := hid (okMats_two x)
        go_wp2
        go_ret
        exact ⟨ret_bool HE.out, hb2⟩
structure Ext (W : World) where
 val : World
 ok : Below W.heap.size W val
instance (W : World) : Nonempty (Ext W) := ⟨⟨W, Below.refl _ _⟩⟩
theorem wp_region_ext {P : Program} {id : Nat} {Q : Exit → Act → World → Prop} {a : Act} {w : World} {l : List Oper} (hm : P.follows .mixedOrders = true) (hB : Region.lexB .any l.toArray = true)
  (h : wpQuiet P l.toArray (fun w' => ∃ e : Ext w, w' = e.val) (fun a' => ∀ w', (∃ e : Ext w, w' = e.val) → Q .normal a' w') l a) : (Code.region id l.toArray true).wp P Q a w :=
 wp_region_quiet (C := fun w' => ∃ e : Ext w, w' = e.val) hm hB ⟨⟨{ w with drawn := w.drawn + 1 }, Below.drew (Below.refl _ _)⟩, rfl⟩ (by simpa only [List.toList_toArray] using h)
theorem Calls.ext {P : Program} {f : FuncId} {args : Array Value} {W : World} {x : Ext W} {v : Value}
  (h : Calls P f args x.val fun e w' => e = .returned v ∧ Below x.val.heap.size x.val w') : Calls P f args x.val fun e w'' => e = .returned v ∧ ∃ y : Ext W, w'' = y.val :=
 h.mono fun _ w' ⟨he, hb⟩ => ⟨he, ⟨w', x.ok.trans (hb.mono x.ok.size)⟩, rfl⟩
theorem Ext.cell {W : World} (x : Ext W) {a : Addr} {v : Value} (h : W.cell? a = some v) : x.val.cell? a = some v := below_cell x.ok h
def countB (x : InstD) : Bool := manyB x.tmany 60 && manyB x.bmany 60 && manyB x.sats.length 12 && manyB x.custs.length 48
def sizeB (x : InstD) : Bool := squareB x.cost (nodes x) && squareB x.time (nodes x)
def check (x : InstD) : Int := if countB x then (if sizeB x then (if numbersB x then 0 else 2) else 4) else 9
theorem check_c {w : World} {F : Nat → Prop} {x : InstD} {cs : List Value} (h : instS.rep w F x cs) :
  Calls Tryz.prog 6 #[.agg cs.toArray] w fun e w' => e = .returned (.int .i64 (check x)) ∧ Below w.heap.size w w' := by
 have hrep := h
 obtain ⟨s, c, co, ti, rfl, -, h1, h2, h3, h4⟩ := h
 obtain ⟨a, b, off, c1, hs, hlc, hc, -, -, -, -⟩ := sats_open h1
 obtain ⟨a', b', off', c1', hs', hlc', hc', -, -, -, -⟩ := custs_open h2
 obtain rfl := List.cons.inj hs |>.1
 obtain rfl := List.cons.inj hs' |>.1
 obtain ⟨a3, b3, off3, c3, hs3, hlc3, hc3, -, -, -⟩ := rows_open h3
 obtain ⟨a4, b4, off4, c4, hs4, hlc4, hc4, -, -, -⟩ := rows_open h4
 obtain rfl := List.cons.inj hs3 |>.1
 obtain rfl := List.cons.inj hs4 |>.1
 clear hs hs' h1 h2 hs3 hs4
 go_enter Tryz.func6, Tryz.ntmps6
 go_upto_region 2 with fail
 go_cut [4] (fun s4 wx => s4 = .bool (!countB x) ∧ Below w.heap.size w wx ∧ w.heap.size < wx.heap.size ∧
  wx.cell? ⟨w.heap.size, 0, none⟩ = some (.int .i64 x.fin) ∧ wx.cell? ⟨w.heap.size, 1, none⟩ = some (.int .i64 x.tmany) ∧ wx.cell? ⟨w.heap.size, 2, none⟩ = some (.int .i64 x.troom) ∧
  wx.cell? ⟨w.heap.size, 3, none⟩ = some (.int .i64 x.bmany) ∧ wx.cell? ⟨w.heap.size, 4, none⟩ = some (.int .i64 x.broom) ∧
  wx.cell? ⟨w.heap.size, 5, none⟩ = some (.slice a x.sats.length c1) ∧ wx.cell? ⟨w.heap.size, 6, none⟩ = some (.slice a' x.custs.length c1') ∧
  wx.cell? ⟨w.heap.size, 7, none⟩ = some (.slice a3 x.cost.length c3) ∧ wx.cell? ⟨w.heap.size, 8, none⟩ = some (.slice a4 x.time.length c4))
 case first =>
  have HH : Hid (countB x = (manyB x.tmany 60 && manyB x.bmany 60 && manyB x.sats.length 12 && manyB x.custs.length 48)) := rfl
  rcases chain4 (manyB x.tmany 60) (manyB x.bmany 60) (manyB x.sats.length 12) (manyB x.custs.length 48) with e0 | ⟨e0, e1⟩ | ⟨e0, e1, e2⟩ | ⟨e0, e1, e2, e3⟩ | ⟨e0, e1, e2, e3⟩
  all_goals
   go_wp2_with ((with_reducible refine (many_c _ _ _).mono ?_); rintro e w' ⟨rfl, rfl⟩)
   go_meet
   exact ⟨by rw [HH.out]; first | (rw [e0]; rfl) | (rw [e0, e1]; rfl) | (rw [e0, e1, e2]; rfl) | (rw [e0, e1, e2, e3]; rfl), (Below.refl _ _).alloc (Nat.le_refl _) _, by simp, by simp, by simp, by simp, by simp, by simp, by simp, by simp, by simp, by simp⟩
 case rest =>
  obtain ⟨rfl, hb0, hz, q0, q1, q2, q3, q4, q5, q6, q7, q8⟩ := hcut
  cases ec : countB x
  ·have HE := hid (show check x = 9 by unfold check; simp [ec])
   go_wp2
   go_ret
   exact ⟨ret_int HE.out.symm, hb0⟩
  ·have hl1 : x.sats.length ≤ 1000000 ∧ x.custs.length ≤ 1000000 := by
    simp [countB, manyB] at ec; omega
   go_upto_region 4 with fail
   have hrc := instS.below hrep hb0
   have hrc3 := rowsS.below h3 hb0
   have hrc4 := rowsS.below h4 hb0
   have q : ∀ e : Ext wc, e.val.cell? ⟨w.heap.size, 0, none⟩ = some (.int .i64 x.fin) ∧ e.val.cell? ⟨w.heap.size, 1, none⟩ = some (.int .i64 x.tmany) ∧ e.val.cell? ⟨w.heap.size, 2, none⟩ = some (.int .i64 x.troom) ∧
     e.val.cell? ⟨w.heap.size, 3, none⟩ = some (.int .i64 x.bmany) ∧ e.val.cell? ⟨w.heap.size, 4, none⟩ = some (.int .i64 x.broom) ∧ e.val.cell? ⟨w.heap.size, 5, none⟩ = some (.slice a x.sats.length c1) ∧
     e.val.cell? ⟨w.heap.size, 6, none⟩ = some (.slice a' x.custs.length c1') ∧ e.val.cell? ⟨w.heap.size, 7, none⟩ = some (.slice a3 x.cost.length c3) ∧ e.val.cell? ⟨w.heap.size, 8, none⟩ = some (.slice a4 x.time.length c4) :=
    fun e => ⟨e.cell q0, e.cell q1, e.cell q2, e.cell q3, e.cell q4, e.cell q5, e.cell q6, e.cell q7, e.cell q8⟩
   obtain ⟨p0, p1, p2, p3, p4, p5, p6, p7, p8⟩ : (∀ e : Ext wc, _) ∧ (∀ e : Ext wc, _) ∧ (∀ e : Ext wc, _) ∧ (∀ e : Ext wc, _) ∧ (∀ e : Ext wc, _) ∧ (∀ e : Ext wc, _) ∧ (∀ e : Ext wc, _) ∧ (∀ e : Ext wc, _) ∧ (∀ e : Ext wc, _) :=
    ⟨fun e => (q e).1, fun e => (q e).2.1, fun e => (q e).2.2.1, fun e => (q e).2.2.2.1, fun e => (q e).2.2.2.2.1, fun e => (q e).2.2.2.2.2.1, fun e => (q e).2.2.2.2.2.2.1, fun e => (q e).2.2.2.2.2.2.2.1, fun e => (q e).2.2.2.2.2.2.2.2⟩
   clear q
   go_cut [35] (fun s35 wx => s35 = .bool (!sizeB x) ∧ Below wc.heap.size wc wx)
   case first =>
    have HH := hid (show sizeB x = (squareB x.cost (nodes x) && squareB x.time (nodes x)) from rfl)
    rcases chain2 (squareB x.cost (nodes x)) (squareB x.time (nodes x)) with e0 | ⟨e0, e1⟩ | ⟨e0, e1⟩
    all_goals
     refine wp_region_ext (by kernel_rfl) (by kernel_rfl) ?_
     repeat (go_big_quiet_step (first | (go_at_call 19; exact Calls.ext (nodes_c (instS.below hrc (Ext.ok _)) hl1.1 hl1.2)) | (go_at_call 18; (with_reducible exact Calls.ext (square_b (rowsS.below hrc3 (Ext.ok _)) e0))) | (go_at_call 18; (with_reducible exact Calls.ext (square_b (rowsS.below hrc4 (Ext.ok _)) e1)))))
     refine wpQuiet_nil ?_
     rintro _ ⟨ex, rfl⟩
     go_wp2_with fail
     go_meet
     exact ⟨by rw [HH.out]; first | (rw [e0]; rfl) | (rw [e0, e1]; rfl), ex.ok⟩
   case rest =>
    clear p0 p1 p2 p3 p4 p5 p6 p7 p8
    obtain ⟨rfl, hb1⟩ := hcut
    cases es : sizeB x
    ·have HE := hid (show check x = 4 by unfold check; simp [ec, es])
     go_wp2
     go_ret
     exact ⟨ret_int HE.out.symm, hb0.trans (hb1.mono hb0.size)⟩
    ·have g0 := below_cell hb1 q0
     have g1 := below_cell hb1 q1
     have g2 := below_cell hb1 q2
     have g3 := below_cell hb1 q3
     have g4 := below_cell hb1 q4
     have g5 := below_cell hb1 q5
     have g6 := below_cell hb1 q6
     have g7 := below_cell hb1 q7
     have g8 := below_cell hb1 q8
     have hb2 := hb0.trans (hb1.mono hb0.size)
     have hr2 := instS.below hrep hb2
     clear q0 q1 q2 q3 q4 q5 q6 q7 q8 hb0 hb1 hrc hrc3 hrc4 h3 h4 hrep
     cases en : numbersB x
     ·have HE := hid (show check x = 2 by unfold check; simp [ec, es, en])
      have HN := hid en
      clear en
      go_wp2_with ((with_reducible refine (numbers_c hr2).mono ?_); rintro e w' ⟨rfl, hb3⟩; rw [HN.out])
      go_ret
      exact ⟨ret_int HE.out.symm, hb2.trans (hb3.mono hb2.size)⟩
     ·have HE := hid (show check x = 0 by unfold check; simp [ec, es, en])
      have HN := hid en
      clear en
      go_wp2_with ((with_reducible refine (numbers_c hr2).mono ?_); rintro e w' ⟨rfl, hb3⟩; rw [HN.out])
      go_ret
      exact ⟨ret_int HE.out.symm, hb2.trans (hb3.mono hb2.size)⟩
theorem bne0 {a : Int} (h : a ≠ 0) : (a != 0) = true := by simpa using h
theorem beq0 {a : Int} (h : a ≠ 0) : (a == 0) = false := by simpa using h
structure TSt (w0 : World) (e1 e2 : TypeId) (ps ts : List Value) (w : World) : Prop where
 bel : Below w0.heap.size w0 w
 one : Row w w0.heap.size e1 ps
 two : Row w (w0.heap.size + 1) e2 ts
theorem TSt.below {w0 w w' : World} {e1 e2 : TypeId} {ps ts : List Value} (h : TSt w0 e1 e2 ps ts w) (hb : Below w.heap.size w w') : TSt w0 e1 e2 ps ts w' := ⟨below_step h.bel hb, h.one.below hb, h.two.below hb⟩
theorem TSt.start (w0 : World) (e1 e2 : TypeId) (ps ts : List Value) : TSt w0 e1 e2 ps ts ((w0.alloc (.cells ps.toArray e1)).alloc (.cells ts.toArray e2)) := by
 have h1 := (Row.new (w := w0) (g := w0.heap.size) (e := e1) (cs := ps) rfl).alloc (.cells ts.toArray e2)
 have h2 := Row.new (w := w0.alloc (.cells ps.toArray e1)) (e := e2) (cs := ts) rfl
 rw [show (w0.alloc (.cells ps.toArray e1)).heap.size = w0.heap.size + 1 by simp] at h2
 exact ⟨((Below.refl _ _).alloc (Nat.le_refl _) _).alloc (by simp) _, h1, h2⟩
theorem TSt.set {w0 w : World} {e1 e2 : TypeId} {ps ts : List Value} (h : TSt w0 e1 e2 ps ts w) {g : Nat} (hg : w0.heap.size + 1 < g) (j : Nat) (u : Value) : TSt w0 e1 e2 ps ts (w.setCell ⟨g, j, none⟩ u) :=
 ⟨h.bel.setCell (p := ⟨g, j, none⟩) (show w0.heap.size ≤ g by omega) u, h.one.setOther (a := ⟨g, j, none⟩) (show w0.heap.size ≠ g by omega) u, h.two.setOther (a := ⟨g, j, none⟩) (show w0.heap.size + 1 ≠ g by omega) u⟩
theorem fin_w {C D : World → Prop} {w3 : World} (h : D w3) (k : ∀ w4, D w4 → C w4) : C w3 := k _ h
theorem row7 {w : World} {g : Nat} {e : TypeId} {v0 v1 v2 v3 v4 v5 v6 : Value} (h : Row w g e [v0, v1, v2, v3, v4, v5, v6]) : w.cell? ⟨g, 0, none⟩ = some v0 ∧ w.cell? ⟨g, 1, none⟩ = some v1 ∧ w.cell? ⟨g, 2, none⟩ = some v2 ∧ w.cell? ⟨g, 3, none⟩ = some v3 ∧ w.cell? ⟨g, 4, none⟩ = some v4 ∧ w.cell? ⟨g, 5, none⟩ = some v5 ∧ w.cell? ⟨g, 6, none⟩ = some v6 :=
 ⟨h.cell (j := 0) (by simp), h.cell (j := 1) (by simp), h.cell (j := 2) (by simp), h.cell (j := 3) (by simp), h.cell (j := 4) (by simp), h.cell (j := 5) (by simp), h.cell (j := 6) (by simp)⟩
theorem frozen7 {w : World} {g : Nat} {e : TypeId} {cs : List Value} (h : Row w g e cs) : w.frozen? ⟨g, 0, none⟩ = false ∧ w.frozen? ⟨g, 1, none⟩ = false ∧ w.frozen? ⟨g, 2, none⟩ = false ∧ w.frozen? ⟨g, 3, none⟩ = false ∧ w.frozen? ⟨g, 4, none⟩ = false ∧ w.frozen? ⟨g, 5, none⟩ = false ∧ w.frozen? ⟨g, 6, none⟩ = false :=
 ⟨h.frozen 0, h.frozen 1, h.frozen 2, h.frozen 3, h.frozen 4, h.frozen 5, h.frozen 6⟩
theorem put7r {B : Nat} {w0 w : World} {e : TypeId} {g : Nat} {z0 z1 z2 z3 z4 z5 z6 : Value} (hb : Below B w0 w) (hg : B ≤ g) (hr : Row w g e [z0, z1, z2, z3, z4, z5, z6]) (v0 v1 v2 v3 v4 v5 v6 : Value) :
  Below B w0 (((((((w.setCell ⟨g, 0, none⟩ v0).setCell ⟨g, 1, none⟩ v1).setCell ⟨g, 2, none⟩ v2).setCell ⟨g, 3, none⟩ v3).setCell ⟨g, 4, none⟩ v4).setCell ⟨g, 5, none⟩ v5).setCell ⟨g, 6, none⟩ v6) ∧ Row (((((((w.setCell ⟨g, 0, none⟩ v0).setCell ⟨g, 1, none⟩ v1).setCell ⟨g, 2, none⟩ v2).setCell ⟨g, 3, none⟩ v3).setCell ⟨g, 4, none⟩ v4).setCell ⟨g, 5, none⟩ v5).setCell ⟨g, 6, none⟩ v6) g e [v0, v1, v2, v3, v4, v5, v6] :=
 ⟨(((((((hb.setCell (p := ⟨g, 0, none⟩) hg v0).setCell (p := ⟨g, 1, none⟩) hg v1).setCell (p := ⟨g, 2, none⟩) hg v2).setCell (p := ⟨g, 3, none⟩) hg v3).setCell (p := ⟨g, 4, none⟩) hg v4).setCell (p := ⟨g, 5, none⟩) hg v5).setCell (p := ⟨g, 6, none⟩) hg v6), (((((((hr.set (j := 0) (by simp) v0).set (j := 1) (by simp) v1).set (j := 2) (by simp) v2).set (j := 3) (by simp) v3).set (j := 4) (by simp) v4).set (j := 5) (by simp) v5).set (j := 6) (by simp) v6)⟩
theorem boundBad_c {w : World} {F : Nat → Prop} {x : InstD} {cs : List Value} (h : instS.rep w F x cs) (hck : check x ≠ 0) :
  Calls Tryz.prog 11 #[.agg cs.toArray] w fun e w' => e = .returned (.tuple #[.agg #[.int .i64 0, .slice none 0 0, .int .i64 0, .int .i64 0, .int .i64 0, .slice none 0 0, .slice none 0 0], .int .i64 (check x)]) ∧ Below w.heap.size w w' := by
 have hrep := h
 obtain ⟨s, c, co, ti, rfl, -, -, -, -, -⟩ := h
 have hck2 := bne0 hck
 clear hck
 have hs0 := TSt.start w 28 44 [.int .i64 x.fin, .int .i64 x.tmany, .int .i64 x.troom, .int .i64 x.bmany, .int .i64 x.broom, s, c, co, ti] [.int .i64 0, .slice none 0 0, .int .i64 0, .int .i64 0, .int .i64 0, .slice none 0 0, .slice none 0 0]
 go_enter Tryz.func11, Tryz.ntmps11
 go_upto_region 1 with fail
 generalize (w.alloc (.cells #[.int .i64 x.fin, .int .i64 x.tmany, .int .i64 x.troom, .int .i64 x.bmany, .int .i64 x.broom, s, c, co, ti] 28)).alloc (.cells #[.int .i64 0, .slice none 0 0, .int .i64 0, .int .i64 0, .int .i64 0, .slice none 0 0, .slice none 0 0] 44) = w1 at hs0 ⊢
 obtain ⟨q0, q1, q2, q3, q4, q5, q6, q7, q8⟩ := row9 hs0.one
 have HREP := hid (instS.below hrep hs0.bel)
 have HS := hid hs0
 clear hs0 hrep
 go_wp2_with fail
 refine (check_c HREP.out).mono ?_
 rintro e w2 ⟨rfl, hb2⟩
 have HS2 := hid (HS.out.below hb2)
 clear HS HREP hb2 q0 q1 q2 q3 q4 q5 q6 q7 q8
 obtain ⟨p0, p1, p2, p3, p4, p5, p6⟩ := row7 HS2.out.two
 obtain ⟨f0, f1, f2, f3, f4, f5, f6⟩ := frozen7 HS2.out.two
 have HB2 := hid HS2.out.bel
 have HSZ := HS2.out.two.lt
 go_wp2
 refine fin_w (C := fun w4 => bodyPost _ _ _ _ _ w4) (D := fun w4 => Below w.heap.size w w4 ∧ Row w4 (w.heap.size + 1) 44 [.int .i64 0, .slice none 0 0, .int .i64 0, .int .i64 0, .int .i64 0, .slice none 0 0, .slice none 0 0]) (put7r HB2.out (by omega) HS2.out.two (.int .i64 0) (.slice none 0 0) (.int .i64 0) (.int .i64 0) (.int .i64 0) (.slice none 0 0) (.slice none 0 0)) ?_
 rintro w4 ⟨hB, hR⟩
 clear p0 p1 p2 p3 p4 p5 p6 f0 f1 f2 f3 f4 f5 f6
 obtain ⟨p0, p1, p2, p3, p4, p5, p6⟩ := row7 hR
 exact bodyPost_ret (v := .tuple #[.agg #[.int .i64 0, .slice none 0 0, .int .i64 0, .int .i64 0, .int .i64 0, .slice none 0 0, .slice none 0 0], .int .i64 (check x)]) (by simp [results, Tryz.results11, go_sem, p0, p1, p2, p3, p4, p5, p6]) rfl ⟨rfl, hB⟩
theorem boundRightBad_c {w : World} {F : Nat → Prop} {x : InstD} {cs : List Value} (h : instS.rep w F x cs) (hck : check x ≠ 0) (b1 b2 b3 b4 b5 b6 b7 : Value) :
  Calls Tryz.prog 12 #[.agg cs.toArray, .agg #[b1, b2, b3, b4, b5, b6, b7]] w fun e w' => e = .returned (.bool false) ∧ Below w.heap.size w w' := by
 have hrep := h
 obtain ⟨s, c, co, ti, rfl, -, -, -, -, -⟩ := h
 have hck2 := bne0 hck
 clear hck
 have hs0 := TSt.start w 28 44 [.int .i64 x.fin, .int .i64 x.tmany, .int .i64 x.troom, .int .i64 x.bmany, .int .i64 x.broom, s, c, co, ti] [b1, b2, b3, b4, b5, b6, b7]
 go_enter Tryz.func12, Tryz.ntmps12
 go_upto_region 1 with fail
 generalize (w.alloc (.cells #[.int .i64 x.fin, .int .i64 x.tmany, .int .i64 x.troom, .int .i64 x.bmany, .int .i64 x.broom, s, c, co, ti] 28)).alloc (.cells #[b1, b2, b3, b4, b5, b6, b7] 44) = w1 at hs0 ⊢
 obtain ⟨q0, q1, q2, q3, q4, q5, q6, q7, q8⟩ := row9 hs0.one
 have HREP := hid (instS.below hrep hs0.bel)
 have HB := hid hs0.bel
 clear hs0 hrep
 go_wp2_with fail
 refine (check_c HREP.out).mono ?_
 rintro e w2 ⟨rfl, hb2⟩
 have hB2 := below_step HB.out hb2
 clear hb2 HREP HB q0 q1 q2 q3 q4 q5 q6 q7 q8
 go_wp2
 go_ret
 exact ⟨rfl, hB2⟩
theorem weightBad_c {w : World} {F : Nat → Prop} {x : InstD} {cs : List Value} (h : instS.rep w F x cs) (hck : check x ≠ 0) (v1 v2 v3 : Value) :
  Calls Tryz.prog 13 #[.agg cs.toArray, v1, v2, v3] w fun e w' => e = .returned (.int .i64 0) ∧ Below w.heap.size w w' := by
 have hrep := h
 obtain ⟨s, c, co, ti, rfl, -, -, -, -, -⟩ := h
 have hck2 := bne0 hck
 clear hck
 go_enter Tryz.func13, Tryz.ntmps13
 go_wp2_with fail
 refine (check_c (instS.below hrep ?_)).mono ?_
 ·exact (Below.refl _ _).alloc (Nat.le_refl _) _
 rintro e w1 ⟨rfl, hb1⟩
 have hB1 := below_step ((Below.refl _ _).alloc (Nat.le_refl _) _) hb1
 clear hb1
 go_wp2
 go_ret
 exact ⟨rfl, hB1⟩
end Go.Proofs.YtbfbjghfcajddaaGreatDoor

namespace Go.Proofs.YtbfbjghfcajddaaGreatDoor
open Go.RowKit
def satV (s : SatD) : List Value := [intV s.room, intV s.hold]
def custV (c : CustD) : List Value := [intV c.load, intV c.opn, intV c.cls, intV c.stay]
def InstOwn (TS TC TR TI : Nat) (w : World) (B : Nat) (x : InstD) (cs : List Value) : Prop :=
 ∃ gs cs1 gc cc1 vco vti gco rco gti rti, cs = [intV x.fin, intV x.tmany, intV x.troom, intV x.bmany, intV x.broom, .slice (some ⟨gs, 0, none⟩) x.sats.length cs1, .slice (some ⟨gc, 0, none⟩) x.custs.length cc1, vco, vti] ∧
  (x.sats.length ≤ cs1 ∧ cs1 ≤ maxLen ∧ x.custs.length ≤ cc1 ∧ cc1 ≤ maxLen) ∧ B ≤ gs ∧ B ≤ gc ∧ Row w gs TS (x.sats.flatMap satV) ∧ Row w gc TC (x.custs.flatMap custV) ∧
  RowsOwn w B TR TI vco x.cost gco rco ∧ RowsOwn w B TR TI vti x.time gti rti ∧ gco ≠ gti ∧ (∀ a ∈ rco, ∀ b ∈ rti, a ≠ b)
theorem RowsOwn.mono {w : World} {B B' TR TI : Nat} {v : Value} {rows : List (List Int)} {g : Nat} {rs : List Nat} (h : RowsOwn w B TR TI v rows g rs) (hB : B' ≤ B) : RowsOwn w B' TR TI v rows g rs := by
 obtain ⟨c, k0, k1, k2, k3, k4, k5, k6, k7, k8⟩ := h
 exact ⟨c, k0, k1, k2, Nat.le_trans hB k3, k4, k5, k6, k7, fun b hb => Nat.le_trans hB (k8 b hb)⟩
theorem InstOwn.mono {TS TC TR TI B B' : Nat} {w : World} {x : InstD} {cs : List Value} (h : InstOwn TS TC TR TI w B x cs) (hB : B' ≤ B) : InstOwn TS TC TR TI w B' x cs := by
 obtain ⟨gs, cs1, gc, cc1, vco, vti, gco, rco, gti, rti, k0, k1, k2, k3, k4, k5, k6, k7, k8, k9⟩ := h
 exact ⟨gs, cs1, gc, cc1, vco, vti, gco, rco, gti, rti, k0, k1, Nat.le_trans hB k2, Nat.le_trans hB k3, k4, k5, k6.mono hB, k7.mono hB, k8, k9⟩
theorem InstOwn.below {TS TC TR TI B : Nat} {w w' : World} {x : InstD} {cs : List Value} (h : InstOwn TS TC TR TI w B x cs) (hb : Below w.heap.size w w') : InstOwn TS TC TR TI w' B x cs := by
 obtain ⟨gs, cs1, gc, cc1, vco, vti, gco, rco, gti, rti, h0, h1, h2, h3, h4, h5, h6, h7, h8, h9⟩ := h
 exact ⟨gs, cs1, gc, cc1, vco, vti, gco, rco, gti, rti, h0, h1, h2, h3, h4.below hb, h5.below hb, h6.below hb, h7.below hb, h8, h9⟩
def Opens {α : Type} (P : Program) (t : TypeId) (S : Shape α) : Prop :=
 ∀ (H : Type) (enc : TypeId × Value → H) (w : World) (base : Nat) (spare : Nat → Bool) (held : Bool) (fuel : Nat) (cs : List Value) (x : DataW H × List MemPlace), DataW.trod enc P w base spare held fuel t cs = some x → ∃ y, S.rep w (fun _ => True) y cs
theorem opens_i64 {P : Program} {t : TypeId} (ht : P.underlying t = some (.int .i64)) : Opens P t intS := by
 intro H enc w base spare held fuel cs x h
 cases fuel with
 | zero => simp [DataW.trod] at h
 | succ n =>
  unfold DataW.trod at h
  rw [ht] at h
  split at h <;> simp_all
  rename_i k2 m e
  obtain ⟨⟨_, hw⟩, -⟩ := h
  subst e
  refine ⟨m, rfl, ?_⟩
  simpa [Lit.wf, IntKind.min, IntKind.max, IntKind.signed, IntKind.bits, wf64] using hw
theorem list_of {α : Type} {p : Nat → α → Prop} : ∀ (n : Nat), (∀ i, i < n → ∃ x, p i x) → ∃ xs : List α, xs.length = n ∧ ∀ i (h : i < xs.length), p i xs[i]
 | 0, _ => ⟨[], rfl, fun _ h => absurd h (Nat.not_lt_zero _)⟩
 | n + 1, h => by
  obtain ⟨xs, hl, hx⟩ := list_of n fun i hi => h i (by omega)
  obtain ⟨x, hp⟩ := h n (by omega)
  refine ⟨xs ++ [x], by simp [hl], fun i hi => ?_⟩
  by_cases hlt : i < xs.length
  ·rw [List.getElem_append_left hlt]; exact hx i hlt
  ·have : i = n := by simp at hi; omega
   subst this
   rw [List.getElem_append_right (by omega)]
   simpa [hl] using hp
theorem spot_none {w : World} {a : Addr} {v : Value} (h : w.cell? a = some v) : a.spot = none := by
 unfold World.cell? at h
 split at h
 ·split at h
  ·cases h
  ·rename_i hs; simpa using hs
 ·cases h
theorem opens_slice {α : Type} {P : Program} {t e : TypeId} {S : Shape α} {h0 : 0 < S.sz} (ht : P.underlying t = some (.slice e)) (hc : P.cellsOf e = S.sz) (he : Opens P e S) : Opens P t (sliceS S h0) := by
 intro H enc w base spare held fuel cs x h
 rcases Deep.open_slice ht h with ⟨rfl, -⟩ | ⟨a, len, cap, m, n, D, Pl, rfl, -, hl, hm, hmm, -, hx⟩
 ·exact ⟨[], none, 0, 0, 0, rfl, Nat.le_refl _, Nat.zero_le _, fun h => absurd h (Nat.not_lt_zero _), fun i h => absurd h (Nat.not_lt_zero _)⟩
 ·have hlm : len ≤ m := by rw [hmm]; split <;> omega
  obtain ⟨xs, hxl, hxs⟩ := list_of (p := fun i y => ∃ es, S.rep w (fun _ => True) y es ∧ ∀ j, j < S.sz → w.cell? ((a.add (i * S.sz)).add j) = es[j]?) len (fun i hi => by
   obtain ⟨cs', h1, h2⟩ := hx i (by omega)
   obtain ⟨y, hy⟩ := he _ _ _ _ _ _ _ _ _ h2
   rw [hc] at h1
   obtain ⟨_, _, h3⟩ := World.cells?_some h1
   exact ⟨y, cs', hy, h3⟩)
  obtain ⟨b, off, spot⟩ := a
  subst hxl
  have hsp : 0 < xs.length → spot = none := fun hpos => by
   obtain ⟨es, hr, hce⟩ := hxs 0 hpos
   have hle := S.len hr
   have := hce 0 h0
   rw [List.getElem?_eq_getElem (by omega), Nat.zero_mul] at this
   simpa [Addr.add] using spot_none this
  refine ⟨xs, some ⟨b, off, spot⟩, b, off, cap, rfl, hl, hm, fun hpos => ⟨by rw [hsp hpos], trivial⟩, fun i hi => ?_⟩
  obtain rfl := hsp (by omega)
  obtain ⟨es, hr, hce⟩ := hxs i hi
  refine ⟨es, hr, fun j hj => ?_⟩
  rw [← hce j hj]
  congr 1
  by_cases e1 : i * S.sz = 0 <;> by_cases e2 : j = 0 <;> simp [Addr.add, e1, e2]
theorem trod_at {P : Program} {t : TypeId} {fs : Array Field} {H : Type} {enc : TypeId × Value → H} {w : World} {base : Nat} {spare : Nat → Bool} {held : Bool} {fuel : Nat} {cs : List Value} {x : DataW H × List MemPlace}
  (ht : P.underlying t = some (.struct fs)) (h : DataW.trod enc P w base spare held fuel t cs = some x) (i ft o k : Nat) (hf : (fs[i]?).map (fun f => (f.type, f.offset)) = some (ft, o)) (hk : P.cellsOf ft = k) :
  ∃ n y, DataW.trod enc P w base spare held n ft ((cs.drop o).take k) = some y := by
 obtain ⟨xs, n, -, -, -, hl, hx⟩ := DataW.trod_struct ht h
 obtain ⟨f, hf1, hf2⟩ := Option.map_eq_some_iff.1 hf
 simp only [Prod.mk.injEq] at hf2
 obtain ⟨rfl, rfl⟩ := hf2
 have h1 := hx i f hf1
 have hi : i < xs.length := by
  rw [hl]
  exact (Array.getElem?_eq_some_iff.1 hf1).1
 rw [List.getElem?_eq_getElem hi, hk] at h1
 exact ⟨n, _, h1⟩
theorem trod_len {P : Program} {t : TypeId} {fs : Array Field} {H : Type} {enc : TypeId × Value → H} {w : World} {base : Nat} {spare : Nat → Bool} {held : Bool} {fuel : Nat} {cs : List Value} {x : DataW H × List MemPlace}
  (ht : P.underlying t = some (.struct fs)) (h : DataW.trod enc P w base spare held fuel t cs = some x) : cs.length = P.cellsOf t := by
 obtain ⟨xs, n, -, -, hl, -⟩ := DataW.trod_struct ht h
 exact hl
theorem co_int : Tryz.prog.cellsOf 3 = 1 := by kernel_rfl
theorem co_i64 : Tryz.prog.cellsOf 2 = 1 := by kernel_rfl
theorem op_i64 : Opens Tryz.prog 2 intS := opens_i64 Tryz.underlying2
theorem op_int : Opens Tryz.prog 3 intS := opens_i64 Tryz.underlying3
theorem op_ints64 : Opens Tryz.prog 42 (sliceS intS) := opens_slice (S := intS) Tryz.underlying42 co_i64 op_i64
theorem op_ints : Opens Tryz.prog 40 (sliceS intS) := opens_slice (S := intS) Tryz.underlying40 co_int op_int
theorem op_rows : Opens Tryz.prog 26 rowsS := opens_slice (S := sliceS intS) Tryz.underlying26 (by kernel_rfl) op_ints64
theorem op_fleet {H : Type} {enc : TypeId × Value → H} {w : World} {base : Nat} {spare : Nat → Bool} {held : Bool} {fuel : Nat} {v0 v1 : Value} {x : DataW H × List MemPlace} (h : DataW.trod enc Tryz.prog w base spare held fuel 23 [v0, v1] = some x) :
  ∃ a b : Int, v0 = .int .i64 a ∧ v1 = .int .i64 b ∧ wf64 a ∧ wf64 b := by
 obtain ⟨_, _, f0⟩ := trod_at Tryz.underlying23 h 0 3 0 1 rfl co_int
 obtain ⟨_, _, f1⟩ := trod_at Tryz.underlying23 h 1 2 1 1 rfl co_i64
 obtain ⟨a0, e0, w0⟩ := op_int _ _ _ _ _ _ _ _ _ f0
 obtain ⟨a1, e1, w1⟩ := op_i64 _ _ _ _ _ _ _ _ _ f1
 simp at e0 e1
 exact ⟨a0, a1, e0, e1, w0, w1⟩
theorem op_sat : Opens Tryz.prog 52 satS := by
 intro H enc w base spare held fuel cs x h
 have hl : cs.length = 2 := (trod_len Tryz.underlying52 h).trans (by kernel_rfl)
 match cs, hl with
 | [v0, v1], _ =>
  obtain ⟨_, _, f0⟩ := trod_at Tryz.underlying52 h 0 2 0 1 rfl co_i64
  obtain ⟨_, _, f1⟩ := trod_at Tryz.underlying52 h 1 2 1 1 rfl co_i64
  obtain ⟨a0, e0, w0⟩ := op_i64 _ _ _ _ _ _ _ _ _ f0
  obtain ⟨a1, e1, w1⟩ := op_i64 _ _ _ _ _ _ _ _ _ f1
  simp at e0 e1
  subst e0; subst e1
  exact ⟨⟨a0, a1⟩, rfl, w0, w1⟩
theorem op_cust : Opens Tryz.prog 54 custS := by
 intro H enc w base spare held fuel cs x h
 have hl : cs.length = 4 := (trod_len Tryz.underlying54 h).trans (by kernel_rfl)
 match cs, hl with
 | [v0, v1, v2, v3], _ =>
  obtain ⟨_, _, f0⟩ := trod_at Tryz.underlying54 h 0 2 0 1 rfl co_i64
  obtain ⟨_, _, f1⟩ := trod_at Tryz.underlying54 h 1 2 1 1 rfl co_i64
  obtain ⟨_, _, f2⟩ := trod_at Tryz.underlying54 h 2 2 2 1 rfl co_i64
  obtain ⟨_, _, f3⟩ := trod_at Tryz.underlying54 h 3 2 3 1 rfl co_i64
  obtain ⟨a0, e0, w0⟩ := op_i64 _ _ _ _ _ _ _ _ _ f0
  obtain ⟨a1, e1, w1⟩ := op_i64 _ _ _ _ _ _ _ _ _ f1
  obtain ⟨a2, e2, w2⟩ := op_i64 _ _ _ _ _ _ _ _ _ f2
  obtain ⟨a3, e3, w3⟩ := op_i64 _ _ _ _ _ _ _ _ _ f3
  simp at e0 e1 e2 e3
  subst e0; subst e1; subst e2; subst e3
  exact ⟨⟨a0, a1, a2, a3⟩, rfl, w0, w1, w2, w3⟩
theorem op_sats : Opens Tryz.prog 24 satsS := opens_slice (S := satS) Tryz.underlying24 (by kernel_rfl) op_sat
theorem op_custs : Opens Tryz.prog 25 custsS := opens_slice (S := custS) Tryz.underlying25 (by kernel_rfl) op_cust
theorem op_inst : Opens Tryz.prog 28 instS := by
 intro H enc w base spare held fuel cs x h
 have hl : cs.length = 9 := (trod_len Tryz.underlying28 h).trans (by kernel_rfl)
 match cs, hl with
 | [v0, v1, v2, v3, v4, v5, v6, v7, v8], _ =>
  obtain ⟨_, _, f0⟩ := trod_at Tryz.underlying28 h 0 2 0 1 rfl co_i64
  obtain ⟨_, _, f1⟩ := trod_at Tryz.underlying28 h 1 23 1 2 rfl (by kernel_rfl)
  obtain ⟨_, _, f2⟩ := trod_at Tryz.underlying28 h 2 23 3 2 rfl (by kernel_rfl)
  obtain ⟨_, _, f3⟩ := trod_at Tryz.underlying28 h 3 24 5 1 rfl (by kernel_rfl)
  obtain ⟨_, _, f4⟩ := trod_at Tryz.underlying28 h 4 25 6 1 rfl (by kernel_rfl)
  obtain ⟨_, _, f5⟩ := trod_at Tryz.underlying28 h 5 26 7 1 rfl (by kernel_rfl)
  obtain ⟨_, _, f6⟩ := trod_at Tryz.underlying28 h 6 26 8 1 rfl (by kernel_rfl)
  obtain ⟨a0, e0, w0⟩ := op_i64 _ _ _ _ _ _ _ _ _ f0
  obtain ⟨a1, b1, rfl, rfl, w1, u1⟩ := op_fleet f1
  obtain ⟨a2, b2, rfl, rfl, w2, u2⟩ := op_fleet f2
  obtain ⟨a3, r3⟩ := op_sats _ _ _ _ _ _ _ _ _ f3
  obtain ⟨a4, r4⟩ := op_custs _ _ _ _ _ _ _ _ _ f4
  obtain ⟨a5, r5⟩ := op_rows _ _ _ _ _ _ _ _ _ f5
  obtain ⟨a6, r6⟩ := op_rows _ _ _ _ _ _ _ _ _ f6
  simp at e0
  subst e0
  exact ⟨⟨a0, a1, b1, a2, b2, a3, a4, a5, a6⟩, v5, v6, v7, v8, rfl, ⟨w0, w1, u1, w2, u2⟩, r3, r4, r5, r6⟩
theorem arg_struct {P : Program} {w : World} {r : Reach} {base : Nat} {t : TypeId} {fs : Array Field} {v : Value} (ht : P.underlying t = some (.struct fs)) (h : Value.okWide P w r base t v) : ∃ cs : List Value, v = .agg cs.toArray ∧ v.cells.toList = cs := by
 unfold Value.okWide at h
 rw [ht] at h
 obtain ⟨cs, rfl, -⟩ := h
 exact ⟨cs.toList, by simp, by simp [Value.cells]⟩
open Go.RowKit Go.WideShapes Go.ChangeShapes
theorem Tryz.own : ownKnob Tryz.prog.godebug = none := by kernel_rfl
theorem Tryz.laid : laidOutB Tryz.prog = true := by kernel_rfl
section
variable {H : Type} {enc : TypeId × Value → H} {P : Program}
theorem trodAll_stays (hl : laidOutB P = true) {W W' : World} (hb : Below W.heap.size W W') {sp : Nat → Bool} : ∀ (ts : List TypeId) (vs : List Value) (ds : List (DataW H)) (ps : List MemPlace), DataW.TrodAll enc P W 0 (fun _ => true) true ts vs ds ps →
  (∀ t ∈ ts, P.readableRec t = true ∧ t < P.types.size) → (∀ x ∈ ps, x.block < W.heap.size) → (∀ x ∈ ps, sp x.block = true) → DataW.TrodAll enc P W' 0 sp true ts vs ds ps
 | [], [], [], _, h, _, _, _ => h
 | t :: ts, v :: vs, d :: ds, ps, h, ht, hlt, hsp => by
  obtain ⟨p, q, h1, h2, rfl⟩ := h
  exact ⟨p, q, WideElems.Trod_stays hl (ht t (List.mem_cons_self ..)).1 (ht t (List.mem_cons_self ..)).2 h1 (fun x hx => hb.same (hlt x (List.mem_append_left _ hx))) (fun x hx => hsp x (List.mem_append_left _ hx)),
   trodAll_stays hl hb ts vs ds q h2 (fun t h => ht t (List.mem_cons_of_mem _ h)) (fun x hx => hlt x (List.mem_append_right _ hx)) (fun x hx => hsp x (List.mem_append_right _ hx)), rfl⟩
 | [], _ :: _, _, _, h, _, _, _ => h.elim
 | [], [], _ :: _, _, h, _, _, _ => h.elim
 | _ :: _, [], _, _, h, _, _, _ => h.elim
 | _ :: _, _ :: _, [], _, h, _, _, _ => h.elim
theorem law_post {f : Func} {s : ChangeSpec} {fresh handsOn again : Bool} {W W' : World} {args : Array Value} {ds gs : List (DataW H)} {before : List MemPlace} {bt : TypeId} (hl : laidOutB P = true)
  (hW : DataW.Whole enc P f.params.toList s.vars false W args.toList ds gs before) (hv : s.vars = []) (hs : s.fn H (ds ++ gs) = { results := [.lit (.bool true)], args := ds }) (hr : f.resultTypes = #[bt]) (hbt : P.underlying bt = some .bool)
  (ht : ∀ t ∈ f.params.toList, P.readableRec t = true ∧ t < P.types.size) (hb : Below W.heap.size W W') : s.post enc P f false fresh handsOn again W args (.bool true) W' := by
 have hlt : ∀ p ∈ before, p.block < W.heap.size := fun p hp => hW.lt p hp
 have hW2 := hW
 obtain ⟨pa, pv, hA, hV, rfl, hz, -⟩ := hW2
 have hpv : pv = [] := by
  rw [hv] at hV
  cases gs with
  | nil => exact hV
  | cons g gs => exact hV.elim
 have hgs : gs = [] := by
  rw [hv] at hV
  cases gs with
  | nil => rfl
  | cons g gs => exact hV.elim
 subst hpv
 have hres : ∀ (b : Nat) (sp : Nat → Bool) (hd : Bool), DataW.TrodAll enc P W' b sp hd f.resultTypes.toList ((Value.bool true).resultList f.resultTypes.size) (s.fn H (ds ++ gs)).results [] := fun b sp hd => by
  rw [hs, hr]
  exact trodAll_mk1 (shut_bool hbt _)
 have hargs : ∀ sp : Nat → Bool, (∀ p ∈ pa ++ [], sp p.block = true) → DataW.TrodAll enc P W' 0 sp true f.params.toList args.toList (s.fn H (ds ++ gs)).args pa := fun sp hsp => by
  rw [hs]
  exact trodAll_stays hl hb _ _ _ _ hA ht (fun x hx => hlt x (List.mem_append_left _ hx)) (fun x hx => hsp x (List.mem_append_left _ hx))
 have hvars : ∀ sp : Nat → Bool, DataW.TrodVars enc P W' sp s.vars (s.fn H (ds ++ gs)).vars [] := fun sp => by
  rw [hs, hv]; rfl
 refine ⟨ds, gs, pa ++ [], [], pa, [], hW, hres _ _ _, hargs _ (fun p hp => by simpa using hlt p hp), hvars _, World.keptBut_mono (fun p hp => ⟨hp, ?_⟩) (hb.frame (· ∈ pa ++ [])), fun _ => ?_⟩
 ·rw [List.append_nil] at hp
  exact Or.inr (.inl hp)
 ·refine ⟨ok_one hr rfl (okWide_bool_mk hbt _), _, _, ([] ++ pa) ++ [], ⟨[] ++ pa, [], trodAll_append (hargs _ (fun _ _ => rfl)) (hres _ _ _), hvars _, rfl, ?_, ?_⟩, ?_⟩
  ·intro b off hp
   have hin : MemPlace.cell b off ∈ pa ++ [] := by simpa using hp
   rw [hb.frozen (hlt _ hin)]
   exact hz b off hin
  ·intro ha; cases ha
  ·intro p hp _
   simpa using hp
end
end Go.Proofs.YtbfbjghfcajddaaGreatDoor
