/- Rows of cells that a call has laid itself: known block by block, so that they may be written. No program in sight. -/
import Derived.Test.YtafhjfkdlmijdaaLib
namespace Go.Proofs.Ytafhjfkdlmijdaa
open Go.RowKit

/-- Block g is a row of cells of type e, unfrozen, that begins with cs. -/
def Row (w : World) (g : Nat) (e : TypeId) (cs : List Value) : Prop :=
  ∃ (cur : Array Value) (rest : List Value), w.heap[g]? = some (.cells cur e (0, 0)) ∧ cur.toList = cs ++ rest

theorem Row.lt {w : World} {g : Nat} {e : TypeId} {cs : List Value} (h : Row w g e cs) : g < w.heap.size := by
  obtain ⟨cur, rest, h1, _⟩ := h
  exact (Array.getElem?_eq_some_iff.1 h1).1
theorem Row.keep {w w' : World} {g : Nat} {e : TypeId} {cs : List Value} (h : Row w g e cs) (hk : w'.heap[g]? = w.heap[g]?) : Row w' g e cs := by
  obtain ⟨cur, rest, h1, h2⟩ := h
  exact ⟨cur, rest, hk.trans h1, h2⟩
theorem Row.below {w w' : World} {g : Nat} {e : TypeId} {cs : List Value} (h : Row w g e cs) (hb : Below w.heap.size w w') : Row w' g e cs := h.keep (hb.block g h.lt)
theorem Row.belowB {B : Nat} {w w' : World} {g : Nat} {e : TypeId} {cs : List Value} (h : Row w g e cs) (hb : Below B w w') (hg : g < B) : Row w' g e cs := h.keep (hb.block g hg)
theorem Row.alloc {w : World} {g : Nat} {e : TypeId} {cs : List Value} (h : Row w g e cs) (o : Obj) : Row (w.alloc o) g e cs := h.keep (Below.heap_alloc _ _ _ h.lt)
theorem Row.setOther {w : World} {g : Nat} {e : TypeId} {cs : List Value} (h : Row w g e cs) {a : Addr} (ha : g ≠ a.block) (u : Value) : Row (w.setCell a u) g e cs := h.keep (Below.heap_setCell _ _ _ _ ha)
theorem Row.drew {w : World} {g : Nat} {e : TypeId} {cs : List Value} (h : Row w g e cs) : Row w.drew g e cs := h
theorem Row.drewN {w : World} {g : Nat} {e : TypeId} {cs : List Value} (h : Row w g e cs) (n : Nat) : Row (w.drewN n) g e cs := h.keep rfl
theorem Row.ne {w : World} {g g' : Nat} {e e' : TypeId} {cs cs' : List Value} (h : Row w g e cs) (h' : Row w g' e' cs') (he : e ≠ e') : g ≠ g' := by
  rintro rfl
  obtain ⟨_, _, h1, _⟩ := h
  obtain ⟨_, _, h2, _⟩ := h'
  rw [h1] at h2
  simp only [Option.some.injEq, Obj.cells.injEq] at h2
  exact he h2.2.1
theorem Row.cell {w : World} {g : Nat} {e : TypeId} {cs : List Value} (h : Row w g e cs) {j : Nat} (hj : j < cs.length) : w.cell? ⟨g, j, none⟩ = some cs[j] := by
  obtain ⟨cur, rest, h1, h2⟩ := h
  have : cur[j]? = some cs[j] := by
    rw [← Array.getElem?_toList, h2, List.getElem?_append_left hj, List.getElem?_eq_getElem hj]
  simp [World.cell?, h1, this]
theorem Row.frozen {w : World} {g : Nat} {e : TypeId} {cs : List Value} (h : Row w g e cs) (j : Nat) : w.frozen? ⟨g, j, none⟩ = false := by
  obtain ⟨cur, rest, h1, h2⟩ := h
  simp [World.frozen?, h1]
theorem Row.set {w : World} {g : Nat} {e : TypeId} {cs : List Value} (h : Row w g e cs) {j : Nat} (hj : j < cs.length) (u : Value) : Row (w.setCell ⟨g, j, none⟩ u) g e (cs.set j u) := by
  obtain ⟨cur, rest, h1, h2⟩ := h
  have hg : g < w.heap.size := (Array.getElem?_eq_some_iff.1 h1).1
  refine ⟨cur.setIfInBounds j u, rest, ?_, ?_⟩
  · simp [World.setCell, Array.getElem?_modify, h1]
  · rw [Array.toList_setIfInBounds, h2, List.set_append_left _ _ hj]
theorem Row.new {w : World} {g : Nat} {e : TypeId} {cs : List Value} (hg : g = w.heap.size) : Row (w.alloc (.cells cs.toArray e)) g e cs := by
  subst hg
  refine ⟨cs.toArray, [], ?_, by simp⟩
  show (w.heap.push _)[w.heap.size]? = _
  simp
theorem Row.of_owns {w : World} {base : Nat} {e : TypeId} {size : Nat} {v : Value} {n : Nat} {xs : List Value} (h : w.ownsRow base e size v n xs) (hn : 0 < n) :
    ∃ g c, v = .slice (some ⟨g, 0, none⟩) n c ∧ n ≤ c ∧ c ≤ maxLen ∧ base ≤ g ∧ Row w g e xs := by
  obtain ⟨h1, h2⟩ := h
  rcases h2 with ⟨_, h2⟩ | h2
  · omega
  · obtain ⟨g, cap, cur, rfl, hg, hh, hn1, hc, hs, ht⟩ := h2
    exact ⟨g, cap, rfl, hn1, hc, hg, cur, cur.toList.drop (n * size), hh, by rw [← ht, List.take_append_drop]⟩

theorem cells_new {w : World} {g : Nat} (hg : g = w.heap.size) (cs : List Value) (e : TypeId) : ∀ j u, cs[j]? = some u → (w.alloc (.cells cs.toArray e)).cell? ((⟨g, 0, none⟩ : Addr).add j) = some u := by
  subst hg
  intro j u hj
  have : (⟨w.heap.size, 0, none⟩ : Addr).add j = ⟨w.heap.size, j, none⟩ := by
    unfold Addr.add; split
    · rename_i h; rw [h]
    · simp
  rw [this]
  simpa using hj
theorem owns_slice {w : World} {base : Nat} {e : TypeId} {size : Nat} {v : Value} {n : Nat} {xs : List Value} (h : w.ownsRow base e size v n xs) : ∃ ao cap, v = .slice ao n cap ∧ n ≤ cap ∧ cap ≤ maxLen := by
  obtain ⟨h1, h2⟩ := h
  rcases h2 with ⟨rfl, rfl⟩ | ⟨g, cap, cur, rfl, hg, hh, h3, h4, _⟩
  · exact ⟨none, 0, rfl, Nat.le_refl _, Nat.zero_le _⟩
  · exact ⟨_, cap, rfl, h3, h4⟩

theorem owns_below {w w' : World} {base : Nat} {e : TypeId} {size : Nat} {v : Value} {n : Nat} {xs : List Value} (h : w.ownsRow base e size v n xs) (hb : Below w.heap.size w w') : w'.ownsRow base e size v n xs := by
  obtain ⟨h1, h2⟩ := h
  refine ⟨h1, ?_⟩
  rcases h2 with h2 | ⟨g, cap, cur, hv, hg, hh, r⟩
  · exact .inl h2
  · exact .inr ⟨g, cap, cur, hv, hg, by rw [hb.block g (Array.getElem?_eq_some_iff.1 hh).1]; exact hh, r⟩
theorem row9 {w : World} {g : Nat} {e : TypeId} {v0 v1 v2 v3 v4 v5 v6 v7 v8 : Value} (h : Row w g e [v0, v1, v2, v3, v4, v5, v6, v7, v8]) :
    w.cell? ⟨g, 0, none⟩ = some v0 ∧ w.cell? ⟨g, 1, none⟩ = some v1 ∧ w.cell? ⟨g, 2, none⟩ = some v2 ∧ w.cell? ⟨g, 3, none⟩ = some v3 ∧ w.cell? ⟨g, 4, none⟩ = some v4 ∧ w.cell? ⟨g, 5, none⟩ = some v5 ∧
      w.cell? ⟨g, 6, none⟩ = some v6 ∧ w.cell? ⟨g, 7, none⟩ = some v7 ∧ w.cell? ⟨g, 8, none⟩ = some v8 :=
  ⟨h.cell (j := 0) (by simp), h.cell (j := 1) (by simp), h.cell (j := 2) (by simp), h.cell (j := 3) (by simp), h.cell (j := 4) (by simp), h.cell (j := 5) (by simp), h.cell (j := 6) (by simp), h.cell (j := 7) (by simp), h.cell (j := 8) (by simp)⟩
theorem frozen9 {w : World} {g : Nat} {e : TypeId} {cs : List Value} (h : Row w g e cs) :
    w.frozen? ⟨g, 0, none⟩ = false ∧ w.frozen? ⟨g, 1, none⟩ = false ∧ w.frozen? ⟨g, 2, none⟩ = false ∧ w.frozen? ⟨g, 3, none⟩ = false ∧ w.frozen? ⟨g, 4, none⟩ = false ∧ w.frozen? ⟨g, 5, none⟩ = false ∧
      w.frozen? ⟨g, 6, none⟩ = false ∧ w.frozen? ⟨g, 7, none⟩ = false ∧ w.frozen? ⟨g, 8, none⟩ = false :=
  ⟨h.frozen _, h.frozen _, h.frozen _, h.frozen _, h.frozen _, h.frozen _, h.frozen _, h.frozen _, h.frozen _⟩
theorem row2 {w : World} {g : Nat} {e : TypeId} {v0 v1 : Value} (h : Row w g e [v0, v1]) : w.cell? ⟨g, 0, none⟩ = some v0 ∧ w.cell? ⟨g, 1, none⟩ = some v1 :=
  ⟨h.cell (j := 0) (by simp), h.cell (j := 1) (by simp)⟩
def intV (x : Int) : Value := .int .i64 x
theorem Row.make {w : World} {n : Nat} {e : TypeId} : Row (w.alloc (.cells (Array.replicate n (intV 0)) e)) w.heap.size e ((List.replicate n 0).map intV) := by
  have := Row.new (w := w) (e := e) (cs := (List.replicate n 0).map intV) rfl
  simpa using this
def rowV (r : Nat) (row : List Int) : Value := .slice (some ⟨r, 0, none⟩) row.length row.length

/-- Rows of ints, each in a block of its own, gathered in a slice of the call's own. -/
def RowsInv (w : World) (B TR TI : Nat) (out : Value) (rows : List (List Int)) (rs : List Nat) : Prop :=
  w.ownsRow B TR 1 out rows.length (List.zipWith rowV rs rows) ∧ rs.length = rows.length ∧ (∀ i (h : i < rs.length) (h' : i < rows.length), Row w rs[i] TI (rows[i].map intV)) ∧ rs.Nodup ∧ ∀ b ∈ rs, B ≤ b ∧ b < w.heap.size

theorem RowsInv.nil (w : World) (B TR TI : Nat) : RowsInv w B TR TI (.slice none 0 0) [] [] :=
  ⟨World.ownsRow_nil _ _ _ _, rfl, fun _ h => absurd h (Nat.not_lt_zero _), List.nodup_nil, fun _ h => by cases h⟩

theorem ownBlock_row {w : World} {B T n k : Nat} {v : Value} {xs : List Value} (h : w.ownsRow B T k v n xs) {g : Nat} (hg : v.ownBlock = some g) : ∃ cs, Row w g T cs := by
  obtain ⟨h1, h2⟩ := h
  rcases h2 with ⟨rfl, _⟩ | ⟨g', cap, cur, rfl, hg', hh, _⟩
  · cases hg
  · simp only [Value.ownBlock, Option.some.injEq] at hg
    subst hg
    exact ⟨cur.toList, cur, [], hh, by simp⟩

theorem RowsInv.push {w w1 w2 : World} {B TR TI r : Nat} {out v' : Value} {rows : List (List Int)} {rs : List Nat} {row : List Int} {o : Obj} (h : RowsInv w B TR TI out rows rs) (hne : TR ≠ TI)
    (hb : Below w.heap.size w w1) (hr : Row w1 r TI (row.map intV)) (hrw : w.heap.size ≤ r) (hB : B ≤ w.heap.size)
    (hown : w2.ownsRow B TR 1 v' (rows.length + 1) (List.zipWith rowV rs rows ++ [rowV r row])) (hg : (w1.alloc o).grownBy w2 out.ownBlock) : RowsInv w2 B TR TI v' (rows ++ [row]) (rs ++ [r]) := by
  obtain ⟨h1, h2, h3, h4, h5⟩ := h
  have hob : ∀ {b : Nat} {cs : List Value}, Row w1 b TI cs → Row w2 b TI cs := fun {b cs} hR => by
    refine (hR.alloc o).keep (hg.block b (hR.alloc o).lt ?_)
    intro e
    obtain ⟨cs', hc'⟩ := ownBlock_row h1 e.symm
    exact (hc'.below hb).ne hR hne rfl
  refine ⟨?_, by simp [h2], ?_, ?_, ?_⟩
  · rw [List.length_append, List.length_singleton, List.zipWith_append h2]
    exact hown
  · intro i hi hi'
    by_cases hl : i < rows.length
    · rw [List.getElem_append_left (by omega), List.getElem_append_left hl]
      exact hob ((h3 i (by omega) hl).below hb)
    · have : i = rows.length := by simp at hi'; omega
      subst this
      rw [List.getElem_append_right (by omega), List.getElem_append_right (Nat.le_refl _)]
      simp only [h2, Nat.sub_self, List.getElem_cons_zero]
      exact hob hr
  · rw [List.nodup_append]
    refine ⟨h4, by simp, fun a ha b hb' => ?_⟩
    simp only [List.mem_singleton] at hb'
    have := (h5 a ha).2
    omega
  · intro b hb'
    have hs : w.heap.size ≤ w2.heap.size := Nat.le_trans hb.size (Nat.le_trans (by simp) hg.size)
    have hr2 : r < w2.heap.size := Nat.lt_of_lt_of_le hr.lt (Nat.le_trans (by simp) hg.size)
    rcases List.mem_append.1 hb' with hb' | hb'
    · have := h5 b hb'; omega
    · simp only [List.mem_singleton] at hb'; omega

/-- Rows of ints that may be written: the outer block, the rows' own blocks, all apart. -/
def RowsOwn (w : World) (B TR TI : Nat) (v : Value) (rows : List (List Int)) (g : Nat) (rs : List Nat) : Prop :=
  ∃ c, v = .slice (some ⟨g, 0, none⟩) rows.length c ∧ rows.length ≤ c ∧ c ≤ maxLen ∧ B ≤ g ∧ Row w g TR (List.zipWith rowV rs rows) ∧ rs.length = rows.length ∧
    (∀ i (h : i < rs.length) (h' : i < rows.length), Row w rs[i] TI (rows[i].map intV)) ∧ rs.Nodup ∧ ∀ b ∈ rs, B ≤ b
theorem RowsInv.own {w : World} {B TR TI : Nat} {out : Value} {rows : List (List Int)} {rs : List Nat} (h : RowsInv w B TR TI out rows rs) (hn : 0 < rows.length) : ∃ g, RowsOwn w B TR TI out rows g rs := by
  obtain ⟨h1, h2, h3, h4, h5⟩ := h
  obtain ⟨g, c, hv, hc, hm, hg, hr⟩ := Row.of_owns h1 hn
  exact ⟨g, c, hv, hc, hm, hg, hr, h2, h3, h4, fun b hb => (h5 b hb).1⟩
theorem RowsOwn.below {w w' : World} {B TR TI : Nat} {v : Value} {rows : List (List Int)} {g : Nat} {rs : List Nat} (h : RowsOwn w B TR TI v rows g rs) (hb : Below w.heap.size w w') : RowsOwn w' B TR TI v rows g rs := by
  obtain ⟨c, h0, h1, h2, h3, h4, h5, h6, h7, h8⟩ := h
  exact ⟨c, h0, h1, h2, h3, h4.below hb, h5, fun i h h' => (h6 i h h').below hb, h7, h8⟩
end Go.Proofs.Ytafhjfkdlmijdaa
