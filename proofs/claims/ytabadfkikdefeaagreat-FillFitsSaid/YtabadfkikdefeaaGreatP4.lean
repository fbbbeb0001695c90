/- Texts of the proof, joined: Apart, One, Awake17, Awake22, LoadAll, CodeD, Whole, FitsLaw, LoadsU, MakeOk, HaulErrors, HaulOrders, HaulTrucks, HaulWholes. -/
import Derived.BigRegion
import Derived.Deep.DeepCutAuto
import Derived.Test.YtabadfkikdefeaaGreatMake
import Derived.Test.YtabadfkikdefeaaGreatDraft
import Derived.Test.YtabadfkikdefeaaGreatSpoilt
set_option linter.all false
set_option maxRecDepth 100000
set_option maxHeartbeats 6400000
namespace Go.Proofs.YtabadfkikdefeaaGreat
open Go.RowKit
structure MatW (w : World) (B gd n m : Nat) (rs cp : Nat → Nat) (D : Nat → Nat → Int) : Prop where
 row : Row w gd 78 ((List.range n).map fun i => if i < m then .slice (some ⟨rs i, 0, none⟩) n (cp i) else .slice none 0 0)
 rows : ∀ i, i < m → Row w (rs i) 2 ((List.range n).map fun k => .int .i64 (D i k))
 ge : ∀ i, i < m → B ≤ rs i
 inj : ∀ i j, i < m → j < m → rs i = rs j → i = j
 gdB : B ≤ gd
 cap : ∀ i, i < m → n ≤ cp i ∧ cp i ≤ maxLen
section
variable {w w' : World} {B gd n m : Nat} {rs cp : Nat → Nat} {D : Nat → Nat → Int}
theorem MatW.below (h : MatW w B gd n m rs cp D) (hb : Below w.heap.size w w') : MatW w' B gd n m rs cp D := ⟨h.row.below hb, fun i hi => (h.rows i hi).below hb, h.ge, h.inj, h.gdB, h.cap⟩
theorem MatW.d (h : MatW w B gd n m rs cp D) {i : Nat} (hi : i < n) (him : i < m) : w.cell? ⟨gd, i, none⟩ = some (.slice (some ⟨rs i, 0, none⟩) n (cp i)) := by
 have := h.row.cell (j := i) (by simpa using hi)
 simpa [him] using this
theorem MatW.e (h : MatW w B gd n m rs cp D) {i k : Nat} (him : i < m) (hk : k < n) : w.cell? ⟨rs i, k, none⟩ = some (.int .i64 (D i k)) := by
 have := (h.rows i him).cell (j := k) (by simpa using hk)
 simpa using this
theorem MatW.f (h : MatW w B gd n m rs cp D) {i : Nat} (him : i < m) (k : Nat) : w.frozen? ⟨rs i, k, none⟩ = false := (h.rows i him).frozen k
theorem map_set_range {n k : Nat} (hk : k < n) (f : Nat → Value) (v : Value) : ((List.range n).map f).set k v = (List.range n).map fun b => if b = k then v else f b := by
 apply List.ext_getElem
 ·simp
 ·intro i h1 h2
  simp only [List.getElem_set, List.getElem_map, List.getElem_range]
  by_cases e : k = i
  ·subst e; simp
  ·rw [if_neg e, if_neg (fun h => e h.symm)]
theorem MatW.set (h : MatW w B gd n m rs cp D) {i k : Nat} (him : i < m) (hk : k < n) (v : Int) : MatW (w.setCell ⟨rs i, k, none⟩ (.int .i64 v)) B gd n m rs cp (updD D i k v) := by
 refine ⟨h.row.setApart (h.rows i him) (by decide) _ _, fun a ha => ?_, h.ge, h.inj, h.gdB, h.cap⟩
 by_cases e : a = i
 ·subst e
  have := (h.rows a him).set (j := k) (by simpa using hk) (.int .i64 v)
  rw [map_set_range hk] at this
  have he : (fun b => if b = k then Value.int .i64 v else .int .i64 (D a b)) = fun b => .int .i64 (updD D a k v a b) := by
   funext b
   unfold updD
   by_cases e2 : b = k
   ·rw [if_pos e2, if_pos ⟨rfl, e2⟩]
   ·rw [if_neg e2, if_neg (fun h => e2 h.2)]
  rw [he] at this
  exact this
 ·have he : (fun b => Value.int .i64 (updD D i k v a b)) = fun b => .int .i64 (D a b) := by
   funext b
   unfold updD
   rw [if_neg (fun h => e h.1)]
  rw [he]
  exact (h.rows a ha).setOther (by show rs a ≠ rs i; exact fun h2 => e (h.inj a i ha him h2)) _
theorem MatW.push (h : MatW w B gd n m rs cp D) (hm : m < n) {w2 : World} (hb : Below w.heap.size w w2) {g c : Nat} {D' : Nat → Nat → Int} (hR : Row w2 g 2 ((List.range n).map fun k => .int .i64 (D' m k))) (hg : w.heap.size ≤ g) (hB : B ≤ w.heap.size) (hD : ∀ a, a < m → ∀ b, D' a b = D a b) (hc : n ≤ c ∧ c ≤ maxLen) :
  MatW (w2.setCell ⟨gd, m, none⟩ (.slice (some ⟨g, 0, none⟩) n c)) B gd n (m + 1) (fun a => if a = m then g else rs a) (fun a => if a = m then c else cp a) D' := by
 have hlt : ∀ a, a < m → rs a < w.heap.size := fun a ha => (h.rows a ha).lt
 have hr2 := h.row.below hb
 refine ⟨?_, fun a ha => ?_, fun a ha => ?_, fun a b ha hb2 e => ?_, h.gdB, fun a ha => ?_⟩
 ·have := hr2.set (j := m) (by simpa using hm) (.slice (some ⟨g, 0, none⟩) n c)
  rw [map_set_range hm] at this
  have he : (fun i => if i = m then Value.slice (some ⟨g, 0, none⟩) n c else if i < m then .slice (some ⟨rs i, 0, none⟩) n (cp i) else .slice none 0 0) = fun i => if i < m + 1 then .slice (some ⟨if i = m then g else rs i, 0, none⟩) n (if i = m then c else cp i) else .slice none 0 0 := by
   funext i
   by_cases e : i = m
   ·rw [if_pos e, if_pos (by omega), if_pos e, if_pos e]
   ·rw [if_neg e, if_neg e, if_neg e]
    by_cases e2 : i < m
    ·rw [if_pos e2, if_pos (by omega)]
    ·rw [if_neg e2, if_neg (by omega)]
  rw [he] at this
  exact this
 ·by_cases e : a = m
  ·subst e
   simp only [if_true]
   exact hR.setApart hr2 (by decide) _ _
  ·simp only [if_neg e]
   have he : (fun k => Value.int .i64 (D' a k)) = fun k => .int .i64 (D a k) := by funext k; rw [hD a (by omega)]
   rw [he]
   exact ((h.rows a (by omega)).below hb).setApart hr2 (by decide) _ _
 ·by_cases e : a = m
  ·subst e; simp only [if_true]; omega
  ·simp only [if_neg e]; exact h.ge a (by omega)
 ·by_cases e1 : a = m
  ·by_cases e2 : b = m
   ·omega
   ·simp only [if_pos e1, if_neg e2] at e
    have := hlt b (by omega); omega
  ·by_cases e2 : b = m
   ·simp only [if_neg e1, if_pos e2] at e
    have := hlt a (by omega); omega
   ·simp only [if_neg e1, if_neg e2] at e
    exact h.inj a b (by omega) (by omega) e
 ·by_cases e : a = m
  ·simp only [if_pos e]; exact hc
  ·simp only [if_neg e]; exact h.cap a (by omega)
theorem MatW.congr {D' : Nat → Nat → Int} (h : MatW w B gd n m rs cp D) (he : ∀ a, a < m → ∀ b, b < n → D' a b = D a b) : MatW w B gd n m rs cp D' := by
 refine ⟨h.row, fun i hi => ?_, h.ge, h.inj, h.gdB, h.cap⟩
 have : ((List.range n).map fun k => Value.int .i64 (D' i k)) = (List.range n).map fun k => .int .i64 (D i k) := List.map_congr_left fun k hk => by rw [he i hi k (List.mem_range.1 hk)]
 rw [this]; exact h.rows i hi
theorem MatW.start {gd : Nat} (hB : B ≤ gd) (h : Row w gd 78 (List.replicate n (.slice none 0 0))) (rs cp : Nat → Nat) (D : Nat → Nat → Int) : MatW w B gd n 0 rs cp D := by
 refine ⟨?_, fun i hi => absurd hi (Nat.not_lt_zero _), fun i hi => absurd hi (Nat.not_lt_zero _), fun i j hi => absurd hi (Nat.not_lt_zero _), hB, fun i hi => absurd hi (Nat.not_lt_zero _)⟩
 have : ((List.range n).map fun i => if i < 0 then Value.slice (some ⟨rs i, 0, none⟩) n (cp i) else .slice none 0 0) = List.replicate n (.slice none 0 0) := by
  apply List.ext_getElem
  ·simp
  ·intro i h1 h2; simp
 rw [this]; exact h
end
def tAt (T : List (List Int)) (i k : Nat) : Int := (T.getD i []).getD k 0
def okN' (n : Nat) (inn : List Bool) (i : Nat) : Prop := i < n ∧ inn.getD i false = true
def firstD (T : List (List Int)) (inn : List Bool) (i k : Nat) : Int := if i = k then 0 else if inn.getD i false = true ∧ inn.getD k false = true then tAt T i k else 1152921504606846976
def rowK (T : List (List Int)) (inn : List Bool) (i k b : Nat) : Int := if b < k ∧ ¬ (inn.getD i false = true ∧ inn.getD b false = true) then 1152921504606846976 else tAt T i b
structure ApartOf (n : Nat) (T : List (List Int)) (st : List Int) (inn : List Bool) (D : Nat → Nat → Int) : Prop where
 dist : ∀ i k, okN' n inn i → okN' n inn k → i ≠ k → IsDist (fun a b => tAt T a b + st.getD a 0) (okN' n inn) i k (st.getD i 0 + D i k)
 bnd : ∀ i k, i < n → k < n → 0 ≤ D i k ∧ D i k ≤ 1152921504606846976
structure TabOk (n : Nat) (T : List (List Int)) (inn : List Bool) (D : Nat → Nat → Int) : Prop where
 bnd : ∀ i k, i < n → k < n → 0 ≤ D i k ∧ D i k ≤ 1152921504606846976
 ini : ∀ i k, okN' n inn i → okN' n inn k → i ≠ k → D i k ≤ tAt T i k
theorem TabOk.upd {n : Nat} {T : List (List Int)} {inn : List Bool} {D : Nat → Nat → Int} (h : TabOk n T inn D) {i k j : Nat} {s : Int} (hi : i < n) (hk : k < n) (hj : j < n) (hs : 0 ≤ s) : TabOk n T inn (updD D i k (min (D i k) (D i j + s + D j k))) := by
 have hle : min (D i k) (D i j + s + D j k) ≤ D i k := Int.min_le_left _ _
 refine ⟨fun a b ha hb => ?_, fun a b ha hb hne => Int.le_trans (updD_le hle a b) (h.ini a b ha hb hne)⟩
 have h0 := h.bnd a b ha hb
 unfold updD
 split
 ·have h1 := h.bnd i k hi hk
  have h2 := h.bnd i j hi hj
  have h3 := h.bnd j k hj hk
  refine ⟨?_, by omega⟩
  exact Int.le_min.2 ⟨h1.1, by omega⟩
 ·exact h0
theorem make_rows {P : Program} {t e : TypeId} {i : TypeInfo} (ht : P.underlying t = some (.slice e)) (hi : P.info? e = some i) (hz : i.zero = some (.slice none 0 0)) (hs : i.size = 1) (hb : i.bytes = 24) {n : Nat} (hn : n ≤ 1000000) :
  ∀ w, (Instr.makeSlice t (.int .i64 (n : Int)) (.int .i64 (n : Int))).run P w = .ok (.slice (some ⟨w.heap.size, 0, none⟩) n n) (w.alloc (.cells (Array.replicate n (.slice none 0 0)) e)) := by
 intro w
 have h := run_make (P := P) w t e i (.slice none 0 0) ht hi hz .i64 .i64 n n (by omega) (by omega) (by rw [hb]; omega) (by omega)
 rw [h, hs]
 have hm : (madeCells (Value.slice none 0 0).cells ((n : Int).toNat * 1)) = Array.replicate n (.slice none 0 0) := by
  apply Array.ext'
  rw [Nat.mul_one, Int.toNat_natCast, show (Value.slice none 0 0).cells = #[.slice none 0 0] from rfl, toList_madeCells_one]
  simp
 rw [hm, Int.toNat_natCast]
theorem sz_bool' : ∀ w, (sizeOf 4).run Tryz.prog w = .ok 1 w := fun w => by kernel_rfl
theorem sz_row' : ∀ w, (sizeOf 78).run Tryz.prog w = .ok 1 w := fun w => by kernel_rfl
def midD (T : List (List Int)) (inn : List Bool) (i k a b : Nat) : Int := if a = i then rowK T inn i k b else firstD T inn a b
theorem midD_zero (T : List (List Int)) (inn : List Bool) (i b : Nat) : midD T inn i 0 i b = tAt T i b := by
 unfold midD rowK
 rw [if_pos rfl, if_neg (by omega)]
theorem midD_ok {T : List (List Int)} {inn : List Bool} {i k : Nat} (h1 : inn.getD i false = true) (h2 : inn.getD k false = true) (a b : Nat) : midD T inn i (k + 1) a b = midD T inn i k a b := by
 unfold midD
 split
 ·unfold rowK
  by_cases e : b = k
  ·subst e
   rw [if_neg (fun h => h.2 ⟨h1, h2⟩), if_neg (fun h => h.2 ⟨h1, h2⟩)]
  ·by_cases e2 : b < k
   ·simp only [show b < k + 1 by omega, e2, true_and]
   ·rw [if_neg (fun h => by omega), if_neg (fun h => by omega)]
 ·rfl
theorem midD_no {T : List (List Int)} {inn : List Bool} {i k : Nat} (h : ¬ (inn.getD i false = true ∧ inn.getD k false = true)) (a b : Nat) : midD T inn i (k + 1) a b = updD (midD T inn i k) i k 1152921504606846976 a b := by
 unfold updD
 split
 ·rename_i e
  rw [e.1, e.2]
  unfold midD rowK
  rw [if_pos rfl, if_pos ⟨by omega, h⟩]
 ·rename_i e
  unfold midD
  split
  ·rename_i e1
   have e2 : b ≠ k := fun h => e ⟨e1, h⟩
   unfold rowK
   by_cases e3 : b < k
   ·simp only [show b < k + 1 by omega, e3, true_and]
   ·rw [if_neg (fun h => by omega), if_neg (fun h => by omega)]
  ·rfl
theorem midD_end {T : List (List Int)} {inn : List Bool} {n i : Nat} (a : Nat) (b : Nat) (hb : b < n) : firstD T inn a b = updD (midD T inn i n) i i 0 a b := by
 unfold updD
 split
 ·rename_i e
  rw [e.1, e.2]
  unfold firstD
  rw [if_pos rfl]
 ·rename_i e
  unfold midD
  split
  ·rename_i e1
   subst e1
   have e2 : ¬ a = b := fun h => e ⟨rfl, h.symm⟩
   unfold firstD rowK
   rw [if_neg e2]
   by_cases h : inn.getD a false = true ∧ inn.getD b false = true
   ·rw [if_pos h, if_neg (fun k => k.2 h)]
   ·rw [if_neg h, if_pos ⟨hb, h⟩]
  ·rfl
theorem row_tab {T : List (List Int)} {n i : Nat} (hq : T.length = n ∧ ∀ r ∈ T, r.length = n) (hi : i < T.length) : T[i].map intV = (List.range n).map fun k => .int .i64 (tAt T i k) := by
 have hl := hq.2 _ (List.getElem_mem hi)
 apply List.ext_getElem
 ·simp [hl]
 ·intro k h1 h2
  have hk : k < T[i].length := by simpa using h1
  simp only [List.getElem_map, List.getElem_range, tAt, List.getD_eq_getElem?_getD, List.getElem?_eq_getElem hi, Option.getD_some, List.getElem?_eq_getElem hk]
  rfl
theorem wrapIn {x : Int} (h1 : -9223372036854775808 ≤ x) (h2 : x ≤ 9223372036854775807) : wrap64 x = x := by unfold wrap64; omega
theorem Sweep.weaken' {n : Nat} {inn : List Bool} {time : Nat → Nat → Int} {stay : Nat → Int} {D0 D : Nat → Nat → Int} {seen seen' : Nat → Nat → Nat → Prop} (h : Sweep time stay (okN' n inn) D0 D seen) (hs : ∀ a b c, okN' n inn a → okN' n inn b → okN' n inn c → seen' a b c → seen a b c) : Sweep time stay (okN' n inn) D0 D seen' :=
 ⟨h.at_, h.mono, fun a b c hsn ha hb hc => h.done a b c (hs a b c ha hb hc hsn) ha hb hc⟩
theorem TabOk.first {n : Nat} {T : List (List Int)} {inn : List Bool} (hT : ∀ i k, 0 ≤ tAt T i k ∧ tAt T i k ≤ 1099511627776) : TabOk n T inn (firstD T inn) := by
 refine ⟨fun i k _ _ => ?_, fun i k hi hk hne => ?_⟩
 ·have := hT i k
  unfold firstD
  split
  ·omega
  ·split
   ·omega
   ·omega
 ·unfold firstD
  rw [if_neg hne, if_pos ⟨hi.2, hk.2⟩]
  exact Int.le_refl _
theorem apart_c {w : World} {F G : Nat → Prop} {n : Nat} {T : List (List Int)} {st : List Int} {inn : List Bool} {v v1 : Value} {b2 o2 c2 : Nat} (hT : rowsS.rep w F T [v]) (hs : (sliceS intS).rep w G st [v1]) (hi : ∀ k, k < n → w.cell? ⟨b2, o2 + k, none⟩ = some (.bool (inn.getD k false)))
  (hq : T.length = n ∧ ∀ r ∈ T, r.length = n) (hsl : st.length = n) (hn : 0 < n ∧ n ≤ 100) (hTb : ∀ i k, 0 ≤ tAt T i k ∧ tAt T i k ≤ 1099511627776) (hsb : ∀ i, 0 ≤ st.getD i 0 ∧ st.getD i 0 ≤ 1099511627776) :
  Calls Tryz.prog 101 #[v, v1, .slice (some ⟨b2, o2, none⟩) n c2] w fun e w' => ∃ (gd : Nat) (rs cp : Nat → Nat) (D : Nat → Nat → Int), e = .returned (.slice (some ⟨gd, 0, none⟩) n n) ∧ MatW w' w.heap.size gd n n rs cp D ∧ ApartOf n T st inn D ∧ Below w.heap.size w w' := by
 obtain ⟨a7, b7, off7, c7, hs7, hl7, hc7, ha7, -, hcell7⟩ := rows_open hT
 obtain rfl := List.cons.inj hs7 |>.1
 obtain ⟨a8, b8, off8, c8, hs8, hl8, hc8, ha8, -, hcell8, -⟩ := ints_open hs
 obtain rfl := List.cons.inj hs8 |>.1
 clear hs7 hs8
 have hTl : T.length = n := hq.1
 have HC7 := hid hcell7
 have HC8 := hid hcell8
 have HI := hid hi
 have HQ := hid hq
 have HTB := hid hTb
 have HSB := hid hsb
 obtain ⟨i0, hj, hz0, hz1, hz2⟩ := info_parts info_row
 have hmk := make_rows Tryz.underlying38 hj hz0 hz1 hz2 (n := n) (by omega)
 clear hj hz0 hz1 hz2 i0 hcell7 hcell8 hi hq hTb hsb
 rw [hTl] at ha7 ⊢
 rw [hsl] at ha8 ⊢
 have hn1 : (0 : Int) < (n : Int) := by omega
 have hn2 : (n : Int) ≤ 100 := by omega
 go_enter Tryz.func101, Tryz.ntmps101
 go_upto_region 3 with fail
 have R0 := Row.new (w := w) (g := w.heap.size) (e := 78) (cs := List.replicate n (.slice none 0 0)) rfl
 rw [show (List.replicate n (Value.slice none 0 0)).toArray = Array.replicate n (.slice none 0 0) by simp] at R0
 obtain ⟨gd, hgd⟩ : ∃ gd, gd = w.heap.size := ⟨_, rfl⟩
 rw [← hgd] at R0 ⊢
 have hgw : w.heap.size ≤ gd := by omega
 have HM0 := hid (MatW.start hgw R0 (fun _ => 0) (fun _ => 0) (firstD T inn))
 have HB0 := hid ((Below.refl _ w).alloc (Nat.le_refl _) (.cells (Array.replicate n (.slice none 0 0)) 78))
 clear R0 hmk
 generalize w.alloc (.cells (Array.replicate n (.slice none 0 0)) 78) = w1 at HM0 HB0 ⊢
 clear hgd
 go_wp2
 go_loopw [20] (fun iv wr => ∃ (i : Nat) (rs cp : Nat → Nat), iv = .int .i64 i ∧ i ≤ n ∧ Hid (MatW wr w.heap.size gd n i rs cp (firstD T inn)) ∧ Hid (Below w.heap.size w wr)) (fun iv _ => n - (intOf iv).toNat)
 case atStart => exact ⟨0, _, _, rfl, Nat.zero_le _, HM0, HB0⟩
 case round =>
  clear HM0 HB0
  obtain ⟨i, rs, cp, rfl, hin, HM, HB⟩ := hrel
  obtain ⟨wq, rfl⟩ : ∃ wq : World, wq = wr := ⟨_, rfl⟩
  have hwq : w.heap.size ≤ wq.heap.size := HB.out.size
  by_cases hlt : i < n
  ·as_aux_lemma =>
    have hx := idx_at1 (c := c7) Tryz.underlying38 sz_row' (ha7 hn.1) hlt
    have hx2 := idx_at1 (c := n) Tryz.underlying38 sz_row' (a := some ⟨gd, 0, none⟩) rfl hlt
    rw [Nat.zero_add] at hx2
    have hiT : i < T.length := by omega
    obtain ⟨u, hu, hur⟩ := HC7.out i hiT
    have hTi : T[i].length = n := HQ.out.2 _ (List.getElem_mem hiT)
    have pu := below_cell HB.out hu
    have hur2 := (sliceS intS).below hur HB.out
    obtain ⟨a9, b9, off9, c9, hs9, -, -, -, -, -, -⟩ := ints_open hur
    obtain rfl := List.cons.inj hs9 |>.1
    have HCL := hid (cloneI64_c hur2 (by omega))
    have HTI := hid hTi
    have HROW := hid (row_tab HQ.out hiT)
    clear hu hur hur2 hs9 hTi
    go_wp2_with fail
    refine HCL.out.mono ?_
    rintro e w2 ⟨u2, rfl, hO2, hb2⟩
    rw [HTI.out] at hO2
    obtain ⟨g, c, rfl, hc1, hc2, hg, hR⟩ := Row.of_owns hO2 hn.1
    rw [HROW.out] at hR
    have hr2 := HM.out.row.below hb2
    have hic : i < ((List.range n).map fun j => if j < i then Value.slice (some ⟨rs j, 0, none⟩) n (cp j) else .slice none 0 0).length := by simpa using hlt
    have k0 := hr2.cell hic
    have f0 := hr2.frozen i
    have HM3 := hid (HM.out.push hlt hb2 (c := c) (D' := midD T inn i 0) (g := g) (by
     rw [show (fun k => Value.int .i64 (midD T inn i 0 i k)) = fun k => .int .i64 (tAt T i k) from funext fun k => by rw [midD_zero]]
     exact hR) hg hwq (fun a ha b => by unfold midD; rw [if_neg (by omega)]) ⟨hc1, hc2⟩)
    have HB3 := hid ((below_step HB.out hb2).setCell (p := ⟨gd, i, none⟩) (by show w.heap.size ≤ gd; exact hgw) (.slice (some ⟨g, 0, none⟩) n c))
    clear hO2 hb2 hR hr2 HCL HM HB pu hg hc1 hc2
    go_upto_region 7 with fail
    generalize w2.setCell ⟨gd, i, none⟩ (.slice (some ⟨g, 0, none⟩) n c) = w3 at HM3 HB3 ⊢
    generalize (fun a => if a = i then g else rs a) = rs1 at HM3 ⊢
    generalize (fun a => if a = i then c else cp a) = cp1 at HM3 ⊢
    clear k0 f0 hx
    have d0 := HM3.out.d hlt (Nat.lt_succ_self i)
    go_wp2
    go_loopw [36] (fun kv wr => ∃ (k : Nat), kv = .int .i64 k ∧ k ≤ n ∧ Hid (MatW wr w.heap.size gd n (i + 1) rs1 cp1 (midD T inn i k)) ∧ Hid (Below w.heap.size w wr)) (fun kv _ => n - (intOf kv).toNat)
    case atStart => exact ⟨0, rfl, Nat.zero_le _, HM3, HB3⟩
    case round =>
     clear HM3 HB3 d0
     obtain ⟨k, rfl, hkn, HM, HB⟩ := hrel
     obtain ⟨wi, rfl⟩ : ∃ wi : World, wi = wr := ⟨_, rfl⟩
     have d0 := HM.out.d hlt (Nat.lt_succ_self i)
     by_cases hk : k < n
     ·have y1 := idx_at1 (c := c2) Tryz.underlying195 sz_bool' (a := some ⟨b2, o2, none⟩) rfl hlt
      have y2 := idx_at1 (c := c2) Tryz.underlying195 sz_bool' (a := some ⟨b2, o2, none⟩) rfl hk
      have y3 := idx_at1 (c := cp1 i) Tryz.underlying78 sz_i64 (a := some ⟨rs1 i, 0, none⟩) rfl hk
      rw [Nat.zero_add] at y3
      have z1 := below_cell HB.out (HI.out i hlt)
      have z2 := below_cell HB.out (HI.out k hk)
      have e0 := HM.out.e (Nat.lt_succ_self i) hk
      have f0 := HM.out.f (Nat.lt_succ_self i) k
      have hge := HM.out.ge i (Nat.lt_succ_self i)
      obtain ⟨bi, hbi⟩ : ∃ b, b = inn.getD i false := ⟨_, rfl⟩
      obtain ⟨bk, hbk⟩ : ∃ b, b = inn.getD k false := ⟨_, rfl⟩
      rw [← hbi] at z1
      rw [← hbk] at z2
      have HBI := hid hbi
      have HBK := hid hbk
      clear hbi hbk
      have HSET := hid (HM.out.set (Nat.lt_succ_self i) hk 1152921504606846976)
      have HBS := hid (HB.out.setCell (p := ⟨rs1 i, k, none⟩) hge (.int .i64 1152921504606846976))
      cases bi
      ·have HN := hid (HSET.out.congr (D' := midD T inn i (k + 1)) fun a _ b _ => midD_no (fun h => by rw [← HBI.out] at h; exact absurd h.1 (by decide)) a b)
       clear HSET
       go_wp2
       go_roundw
       case rel => exact ⟨k + 1, by go_num, by omega, HN, HBS⟩
       case measure => simp [intOf]; omega
      ·cases bk
       ·have HN := hid (HSET.out.congr (D' := midD T inn i (k + 1)) fun a _ b _ => midD_no (fun h => by rw [← HBK.out] at h; exact absurd h.2 (by decide)) a b)
        clear HSET
        go_wp2
        go_roundw
        case rel => exact ⟨k + 1, by go_num, by omega, HN, HBS⟩
        case measure => simp [intOf]; omega
       ·have HN := hid (HM.out.congr (D' := midD T inn i (k + 1)) fun a _ b _ => midD_ok HBI.out.symm HBK.out.symm a b)
        clear HSET HBS
        go_wp2
        go_roundw
        case rel => exact ⟨k + 1, by go_num, by omega, HN, HB⟩
        case measure => simp [intOf]; omega
     ·have hke : k = n := by omega
      subst hke
      have y3 := idx_at1 (c := cp1 i) Tryz.underlying78 sz_i64 (a := some ⟨rs1 i, 0, none⟩) rfl hlt
      rw [Nat.zero_add] at y3
      have e0 := HM.out.e (Nat.lt_succ_self i) hlt
      have f0 := HM.out.f (Nat.lt_succ_self i) i
      have hge := HM.out.ge i (Nat.lt_succ_self i)
      have HN := hid ((HM.out.set (Nat.lt_succ_self i) hlt 0).congr (D' := firstD T inn) fun a _ b hb => midD_end a b hb)
      have HBS := hid (HB.out.setCell (p := ⟨rs1 i, i, none⟩) hge (.int .i64 0))
      go_wp2
      go_roundw
      case rel => exact ⟨i + 1, rs1, cp1, by go_num, by omega, HN, HBS⟩
      case measure => simp [intOf]; omega
  ·have hie : n = i := by omega
   subst hie
   clear hlt hwq
   have HS1 := hid (Swept.first (n := n) (time := tAt T) (stay := fun a => st.getD a 0) (ok := okN' n inn) (D := firstD T inn) fun i k hi hk hne => by unfold firstD; rw [if_neg hne, if_pos ⟨hi.2, hk.2⟩])
   have HT1 := hid (TabOk.first (n := n) (inn := inn) HTB.out)
   clear HC7
   go_wp2
   go_loopw [66] (fun rv wr => ∃ (r : Nat) (D : Nat → Nat → Int), rv = .int .i64 r ∧ r ≤ n ∧ Hid (MatW wr w.heap.size gd n n rs cp D) ∧ Hid (Swept n r (tAt T) (fun a => st.getD a 0) (okN' n inn) D) ∧ Hid (TabOk n T inn D) ∧ Hid (Below w.heap.size w wr)) (fun rv _ => n - (intOf rv).toNat)
   case atStart => exact ⟨0, _, rfl, Nat.zero_le _, HM, HS1, HT1, HB⟩
   case round =>
    clear HM HB HS1 HT1
    obtain ⟨r, D0, rfl, hrn, HM0, HS0, HT0, HB0⟩ := hrel
    obtain ⟨w5, rfl⟩ : ∃ wx : World, wx = wr := ⟨_, rfl⟩
    by_cases hr : r < n
    ·have HW0 := hid (HS0.out.begin.weaken' (seen' := seen3 0 0 0) fun a b c _ _ _ h => by unfold seen3 at h; omega)
     go_wp2
     go_loopw [69] (fun iv wr => ∃ (i : Nat) (D : Nat → Nat → Int), iv = .int .i64 i ∧ i ≤ n ∧ Hid (MatW wr w.heap.size gd n n rs cp D) ∧ Hid (Sweep (tAt T) (fun a => st.getD a 0) (okN' n inn) D0 D (seen3 i 0 0)) ∧ Hid (TabOk n T inn D) ∧ Hid (Below w.heap.size w wr)) (fun iv _ => n - (intOf iv).toNat)
     case atStart => exact ⟨0, _, rfl, Nat.zero_le _, HM0, HW0, HT0, HB0⟩
     case round =>
      clear HM0 HB0 HW0
      obtain ⟨i, D1, rfl, hin2, HM1, HW1, HT1, HB1⟩ := hrel
      obtain ⟨w6, rfl⟩ : ∃ wx : World, wx = wr := ⟨_, rfl⟩
      by_cases hi : i < n
      ·go_wp2
       go_loopw [73] (fun kv wr => ∃ (k : Nat) (D : Nat → Nat → Int), kv = .int .i64 k ∧ k ≤ n ∧ Hid (MatW wr w.heap.size gd n n rs cp D) ∧ Hid (Sweep (tAt T) (fun a => st.getD a 0) (okN' n inn) D0 D (seen3 i k 0)) ∧ Hid (TabOk n T inn D) ∧ Hid (Below w.heap.size w wr)) (fun kv _ => n - (intOf kv).toNat)
       case atStart => exact ⟨0, _, rfl, Nat.zero_le _, HM1, HW1, HT1, HB1⟩
       case round =>
        clear HM1 HB1 HW1 HT1
        obtain ⟨k, D2, rfl, hkn, HM2, HW2, HT2, HB2⟩ := hrel
        obtain ⟨w7, rfl⟩ : ∃ wx : World, wx = wr := ⟨_, rfl⟩
        by_cases hk : k < n
        ·go_wp2
         go_loopw [77] (fun jv wr => ∃ (j : Nat) (D : Nat → Nat → Int), jv = .int .i64 j ∧ j ≤ n ∧ Hid (MatW wr w.heap.size gd n n rs cp D) ∧ Hid (Sweep (tAt T) (fun a => st.getD a 0) (okN' n inn) D0 D (seen3 i k j)) ∧ Hid (TabOk n T inn D) ∧ Hid (Below w.heap.size w wr)) (fun jv _ => n - (intOf jv).toNat)
         case atStart => exact ⟨0, _, rfl, Nat.zero_le _, HM2, HW2, HT2, HB2⟩
         case round =>
          clear HM2 HB2 HW2 HT2
          obtain ⟨j, D, rfl, hjn, HM, HW, HT, HB⟩ := hrel
          obtain ⟨w8, rfl⟩ : ∃ wx : World, wx = wr := ⟨_, rfl⟩
          by_cases hj : j < n
          ·have y1 := idx_at1 (c := c2) Tryz.underlying195 sz_bool' (a := some ⟨b2, o2, none⟩) rfl hi
           have y2 := idx_at1 (c := c2) Tryz.underlying195 sz_bool' (a := some ⟨b2, o2, none⟩) rfl hk
           have y3 := idx_at1 (c := c2) Tryz.underlying195 sz_bool' (a := some ⟨b2, o2, none⟩) rfl hj
           have z1 := below_cell HB.out (HI.out i hi)
           have z2 := below_cell HB.out (HI.out k hk)
           have z3 := below_cell HB.out (HI.out j hj)
           obtain ⟨bi, hbi⟩ : ∃ b, b = inn.getD i false := ⟨_, rfl⟩
           obtain ⟨bk, hbk⟩ : ∃ b, b = inn.getD k false := ⟨_, rfl⟩
           obtain ⟨bj, hbj⟩ : ∃ b, b = inn.getD j false := ⟨_, rfl⟩
           rw [← hbi] at z1
           rw [← hbk] at z2
           rw [← hbj] at z3
           have HBI := hid hbi
           have HBK := hid hbk
           have HBJ := hid hbj
           clear hbi hbk hbj
           by_cases hall : i ≠ j ∧ j ≠ k ∧ bj = true ∧ bi = true ∧ bk = true
           ·obtain ⟨hij, hjk, rfl, rfl, rfl⟩ := hall
            have p1 : (i : Int) ≠ (j : Int) := by omega
            have p2 : (j : Int) ≠ (k : Int) := by omega
            have x1 := idx_at1 (c := n) Tryz.underlying38 sz_row' (a := some ⟨gd, 0, none⟩) rfl hi
            have x2 := idx_at1 (c := n) Tryz.underlying38 sz_row' (a := some ⟨gd, 0, none⟩) rfl hj
            have x3 := idx_at1 (c := cp i) Tryz.underlying78 sz_i64 (a := some ⟨rs i, 0, none⟩) rfl hk
            have x4 := idx_at1 (c := cp i) Tryz.underlying78 sz_i64 (a := some ⟨rs i, 0, none⟩) rfl hj
            have x5 := idx_at1 (c := cp j) Tryz.underlying78 sz_i64 (a := some ⟨rs j, 0, none⟩) rfl hk
            have x6 := idx_at1 (c := c8) Tryz.underlying78 sz_i64 (ha8 hn.1) hj
            rw [Nat.zero_add] at x1 x2 x3 x4 x5
            have d1 := HM.out.d hi hi
            have d2 := HM.out.d hj hj
            have e1 := HM.out.e hi hk
            have e2 := HM.out.e hi hj
            have e3 := HM.out.e hj hk
            have e4 := HC8.out j (show j < st.length by rw [hsl]; exact hj)
            have e4 := below_cell HB.out e4
            have hst : st[j]'(by rw [hsl]; exact hj) = st.getD j 0 := by rw [List.getD_eq_getElem?_getD, List.getElem?_eq_getElem (by rw [hsl]; exact hj), Option.getD_some]
            rw [hst] at e4
            clear hst
            have q4 := HSB.out j
            obtain ⟨sj, hsj⟩ : ∃ sj, sj = st.getD j 0 := ⟨_, rfl⟩
            rw [← hsj] at e4 q4
            have hw64 : wrap64 (wrap64 (D i j + sj) + D j k) = D i j + sj + D j k := by
             have q2 := HT.out.bnd i j hi hj
             have q3 := HT.out.bnd j k hj hk
             rw [wrapIn (x := D i j + sj) (by omega) (by omega), wrapIn (by omega) (by omega)]
            have f0 := HM.out.f hi k
            have hge := HM.out.ge i hi
            have HTU := hid (HT.out.upd hi hk hj q4.1)
            have HMU := hid (HM.out.set hi hk (min (D i k) (D i j + sj + D j k)))
            have HBU := hid (HB.out.setCell (p := ⟨rs i, k, none⟩) hge (.int .i64 (min (D i k) (D i j + sj + D j k))))
            have HWU := hid (show Sweep (tAt T) (fun a => st.getD a 0) (okN' n inn) D0 (updD D i k (min (D i k) (D i j + sj + D j k))) (seen3 i k (j + 1)) from by
             rw [hsj]
             exact HW.out.step (i := i) (k := k) (j := j) ⟨hi, HBI.out.symm⟩ ⟨hk, HBK.out.symm⟩ ⟨hj, HBJ.out.symm⟩ hij hjk fun a b c h => by unfold seen3 at h ⊢; omega)
            clear q4 hsj
            clear HM HW HT HB
            go_upto_region 27 with fail
            rotate_left
            ·rename_i hx
             exfalso
             rcases hx with hx | hx
             ·exact p1 (by simpa using hx)
             ·exact p2 (by simpa using hx)
            try clear hs
            try clear hT
            try clear HI
            try clear HC8
            try clear HTB
            try clear HSB
            try clear HQ
            try clear HS0
            try clear HT0
            try clear y1
            try clear y2
            try clear y3
            try clear z1
            try clear z2
            try clear z3
            try clear HBI
            try clear HBK
            try clear HBJ
            try clear p1
            try clear p2
            try clear hij
            try clear hjk
            try clear hge
            try clear hl7
            try clear hc7
            try clear hl8
            try clear hc8
            try clear ha7
            try clear hTl
            try clear hn1
            try clear hn2
            try clear hr
            try clear hi
            try clear hk
            try clear hall
            as_aux_lemma =>
             go_region
             rw [hw64]
             have HM9 := hid (HMU.out.below (Below.drew (Below.refl _ _)))
             have HB9 := hid (below_step HBU.out (Below.drew (Below.refl _ _)))
             generalize (w8.setCell ⟨rs i, k, none⟩ (.int .i64 (min (D i k) (D i j + sj + D j k)))).drew = w9 at HM9 HB9 ⊢
             clear HMU HBU
             go_wp2
             go_roundw
             case rel => exact ⟨j + 1, _, by go_num, by omega, HM9, HWU, HTU, HB9⟩
             case measure => simp [intOf]; omega
           ·have HW3 := hid (HW.out.skip (seen' := seen3 i k (j + 1)) (i := i) (k := k) (j := j) (fun h => hall ⟨h.1, h.2.1, HBJ.out.trans h.2.2.1.2, HBI.out.trans h.2.2.2.1.2, HBK.out.trans h.2.2.2.2.2⟩) fun a b c h => by unfold seen3 at h ⊢; omega)
            clear HW
            by_cases p1 : (i : Int) = (j : Int)
            ·go_wp2
             go_roundw
             case rel => exact ⟨j + 1, D, by go_num, by omega, HM, HW3, HT, HB⟩
             case measure => simp [intOf]; omega
            ·by_cases p2 : (j : Int) = (k : Int)
             ·go_wp2
              go_roundw
              case rel => exact ⟨j + 1, D, by go_num, by omega, HM, HW3, HT, HB⟩
              case measure => simp [intOf]; omega
             ·cases bj
              ·go_wp2
               go_roundw
               case rel => exact ⟨j + 1, D, by go_num, by omega, HM, HW3, HT, HB⟩
               case measure => simp [intOf]; omega
              ·cases bi
               ·go_wp2
                go_roundw
                case rel => exact ⟨j + 1, D, by go_num, by omega, HM, HW3, HT, HB⟩
                case measure => simp [intOf]; omega
               ·cases bk
                ·go_wp2
                 go_roundw
                 case rel => exact ⟨j + 1, D, by go_num, by omega, HM, HW3, HT, HB⟩
                 case measure => simp [intOf]; omega
                ·exact absurd ⟨by omega, by omega, rfl, rfl, rfl⟩ hall
          ·have hje : n = j := by omega
           subst hje
           have HW3 := hid (HW.out.weaken' (seen' := seen3 i (k + 1) 0) fun a b c ha hb hc h => by have := hc.1; unfold seen3 at h ⊢; omega)
           clear HW
           go_wp2
           go_roundw
           case rel => exact ⟨k + 1, D, by go_num, by omega, HM, HW3, HT, HB⟩
           case measure => simp [intOf]; omega
        ·have hke : n = k := by omega
         subst hke
         have HW3 := hid (HW2.out.weaken' (seen' := seen3 (i + 1) 0 0) fun a b c ha hb hc h => by have := hb.1; unfold seen3 at h ⊢; omega)
         clear HW2
         go_wp2
         go_roundw
         case rel => exact ⟨i + 1, D2, by go_num, by omega, HM2, HW3, HT2, HB2⟩
         case measure => simp [intOf]; omega
      ·have hie : n = i := by omega
       subst hie
       have HS3 := hid (swept_last HS0.out HW1.out (fun a b c ha _ _ => Or.inl ha) (fun a h => h.1) HT0.out.ini)
       clear HW1
       go_wp2
       go_roundw
       case rel => exact ⟨r + 1, D1, by go_num, by omega, HM1, HS3, HT1, HB1⟩
       case measure => simp [intOf]; omega
    ·have hre : n = r := by omega
     subst hre
     go_wp2
     go_ret
     refine ⟨gd, rs, cp, D0, rfl, HM0.out, ⟨fun i k hi hk hne => ?_, HT0.out.bnd⟩, HB0.out⟩
     exact swept_dist HS0.out (by omega) (fun a h => h.1) (fun a b _ _ => by have := HTB.out a b; have := HSB.out a; show 0 ≤ tAt T a b + st.getD a 0; omega) hi hk hne
end Go.Proofs.YtabadfkikdefeaaGreat




namespace Go.Proofs.YtabadfkikdefeaaGreat
open Go.RowKit
def SeenS (m : Nat) (pre : List StopD) : Prop := (∀ o ∈ pre, 0 ≤ o.sat) ∧ ∀ i, m.testBit i = pre.any (fun o => o.sat.toNat == i)
theorem SeenS.nil : SeenS 0 [] := ⟨fun _ h => (List.not_mem_nil h).elim, fun i => by simp⟩
theorem SeenS.push {m : Nat} {pre : List StopD} {s : StopD} (h : SeenS m pre) (hs : 0 ≤ s.sat) : SeenS (m ||| 2 ^ s.sat.toNat) (pre ++ [s]) := by
 refine ⟨fun o ho => ?_, fun i => ?_⟩
 ·rcases List.mem_append.1 ho with ho | ho
  ·exact h.1 o ho
  ·rw [List.mem_singleton.1 ho]; exact hs
 ·rw [Nat.testBit_or, Nat.testBit_two_pow, h.2 i, List.any_append, List.any_cons, List.any_nil, Bool.or_false]
  congr 1
def thereB (x : InstD) (s : Int) : Bool := decide (0 ≤ s) && decide (s < x.sats.length)
def codeStop (x : InstD) (pre : List StopD) (s : StopD) : Bool := ((thereB x s.sat && decide (1 ≤ s.load)) && decide (s.load ≤ 1000000000)) && pre.all (fun o => o.sat != s.sat)
theorem codeStop_bad {x : InstD} {m : Nat} {pre : List StopD} {s : StopD} (h : SeenS m pre) : codeStop x pre s = !stopBad x m s := by
 by_cases h0 : 0 ≤ s.sat
 ·have e : m.testBit s.sat.toNat = !pre.all (fun o => o.sat != s.sat) := by
   rw [h.2, List.not_all_eq_any_not]
   rw [Bool.eq_iff_iff, List.any_eq_true, List.any_eq_true]
   constructor
   ·rintro ⟨o, ho, e⟩
    refine ⟨o, ho, ?_⟩
    have := h.1 o ho
    simp at e ⊢; omega
   ·rintro ⟨o, ho, e⟩
    refine ⟨o, ho, ?_⟩
    have := h.1 o ho
    simp at e ⊢; omega
  unfold codeStop stopBad thereB
  rw [e, Bool.eq_iff_iff]
  simp only [Bool.and_eq_true, decide_eq_true_eq, Bool.not_eq_true', Bool.or_eq_false_iff, decide_eq_false_iff_not, Bool.not_eq_false']
  constructor
  ·rintro ⟨⟨⟨h1, h2⟩, h3⟩, h4⟩
   exact ⟨⟨⟨⟨by omega, by omega⟩, h4⟩, by omega⟩, by omega⟩
  ·rintro ⟨⟨⟨⟨h1, h2⟩, h4⟩, h3⟩, h5⟩
   exact ⟨⟨⟨⟨by omega, by omega⟩, by omega⟩, by omega⟩, h4⟩
 ·unfold codeStop stopBad thereB
  rw [decide_eq_false h0, decide_eq_true (show s.sat < 0 by omega)]; simp
theorem codeStop_ok {x : InstD} {pre : List StopD} {s : StopD} (h : codeStop x pre s = true) : StopOk x s := by
 simp only [codeStop, thereB, Bool.and_eq_true, decide_eq_true_eq] at h
 exact ⟨h.1.1.1, h.1.1.2, h.1.2⟩
theorem truckGo_false (x : InstD) : ∀ (l : List (List StopD)) (ld : Bool), (truckGo x l false ld).1 = false
 | [], _ => rfl
 | t :: ts, ld => by
  unfold truckGo
  cases truckSt x t with
  | none => rfl
  | some p => rw [Bool.false_and]; exact truckGo_false x ts _
def zerosD (n : Nat) : List Int := List.replicate n 0
structure TInv (x : InstD) (l : List (List StopD)) (k : Nat) (r ld : Bool) (out : List Int) : Prop where
 len : out.length = x.sats.length
 yes : r = true → trucksB x l = truckGo x (l.drop k) true ld ∧ out = (l.take k).foldl addTruck (List.replicate x.sats.length 0) ∧ Small9 out (tstopsUp l k)
 no : r = false → (trucksB x l).1 = false
theorem TInv.start (x : InstD) (l : List (List StopD)) : TInv x l 0 true true (zerosD x.sats.length) :=
 ⟨by simp [zerosD], fun _ => ⟨rfl, rfl, Small9.zero _⟩, fun h => by cases h⟩
structure SInv (x : InstD) (l : List (List StopD)) (k : Nat) (t : List StopD) (j : Nat) (r ld : Bool) (sum : Int) (out : List Int) : Prop where
 len : out.length = x.sats.length
 sumB : 0 ≤ sum ∧ sum ≤ 1000000000 * (j : Int)
 yes : r = true → (∃ m, SeenS m (t.take j) ∧ truckSt x t = (t.drop j).foldl (stopSt x) (some (m, x.troom - sum))) ∧ trucksB x l = truckGo x (l.drop k) true ld ∧ 0 < t.length ∧
  out = (t.take j).foldl addStop ((l.take k).foldl addTruck (List.replicate x.sats.length 0)) ∧ Small9 out (tstopsUp l k + j)
 no : r = false → (trucksB x l).1 = false
theorem SInv.start {x : InstD} {l : List (List StopD)} {k : Nat} {r ld : Bool} {out : List Int} (h : TInv x l k r ld out) (hk : k < l.length) : SInv x l k l[k] 0 (r && decide (0 < l[k].length)) ld 0 out := by
 refine ⟨h.len, by decide, fun hr => ?_, fun hr => ?_⟩
 ·simp only [Bool.and_eq_true, decide_eq_true_eq] at hr
  obtain ⟨h1, h2, h3⟩ := h.yes hr.1
  exact ⟨⟨0, SeenS.nil, by simp only [truckSt, List.drop_zero, Int.sub_zero]⟩, h1, hr.2, h2, h3⟩
 ·cases r with
  | false => exact h.no rfl
  | true =>
   have h0 : l[k].length = 0 := by simpa using hr
   rw [(h.yes rfl).1, List.drop_eq_getElem_cons hk, List.eq_nil_of_length_eq_zero h0, truckGo_ok (m := 0) (left := x.troom) rfl]
   exact truckGo_false x _ _
theorem SInv.step {x : InstD} {l : List (List StopD)} {k : Nat} {t : List StopD} {j : Nat} {r ld : Bool} {sum : Int} {out : List Int} (h : SInv x l k t j r ld sum out) (hj : j < t.length)
  (hr : (r && codeStop x (t.take j) t[j]) = true) : SInv x l k t (j + 1) true ld (sum + t[j].load) (addStop out t[j]) := by
 simp only [Bool.and_eq_true] at hr
 have ho := codeStop_ok hr.2
 obtain ⟨⟨m, hm, ht⟩, h1, h2, h3, h4⟩ := h.yes hr.1
 have hb := codeStop_bad (x := x) (s := t[j]) hm
 rw [hr.2] at hb
 have hb2 : stopBad x m t[j] = false := by simpa using hb.symm
 have hl := ho.2
 have hs := h.sumB
 refine ⟨by rw [addStop_len]; exact h.len, by push_cast; omega, fun _ => ⟨⟨m ||| 2 ^ t[j].sat.toNat, ?_, ?_⟩, h1, h2, ?_, ?_⟩, fun h => by cases h⟩
 ·rw [List.take_succ_eq_append_getElem hj]; exact hm.push ho.1.1
 ·rw [ht, List.drop_eq_getElem_cons hj, List.foldl_cons, stopSt_ok hb2, show x.troom - sum - t[j].load = x.troom - (sum + t[j].load) by omega]
 ·rw [foldl_take_succ _ _ _ _ hj, ← h3]
 ·unfold addStop
  refine h4.add ?_ ⟨by omega, hl.2⟩
  have hlt : t[j].sat.toNat < out.length := by have := ho.1; rw [h.len]; omega
  rw [List.getD_eq_getElem?_getD, List.getElem?_eq_getElem hlt]
  exact h4.get hlt
theorem truckGo_none {x : InstD} {l : List (List StopD)} {k : Nat} (hk : k < l.length) {ld : Bool} (h : truckSt x l[k] = none) : (truckGo x (l.drop k) true ld).1 = false := by
 rw [List.drop_eq_getElem_cons hk, truckGo_bad h]
theorem SInv.stop {x : InstD} {l : List (List StopD)} {k : Nat} (hk : k < l.length) {j : Nat} {r ld : Bool} {sum : Int} {out : List Int} (h : SInv x l k l[k] j r ld sum out) (hj : j < l[k].length)
  (hr : (r && codeStop x (l[k].take j) (l[k])[j]) = false) : SInv x l k l[k] (j + 1) false ld sum out := by
 refine ⟨h.len, (by have := h.sumB; push_cast; omega), (fun h => by cases h), fun _ => ?_⟩
 cases r with
 | false => exact h.no rfl
 | true =>
  rw [Bool.true_and] at hr
  obtain ⟨⟨m, hm, ht⟩, h1, -, -, -⟩ := h.yes rfl
  have hb := codeStop_bad (x := x) (s := (l[k])[j]) hm
  rw [hr] at hb
  have hb2 : stopBad x m (l[k])[j] = true := by simpa using hb.symm
  rw [h1]
  refine truckGo_none hk ?_
  rw [ht, List.drop_eq_getElem_cons hj, List.foldl_cons, stopSt_bad hb2, stops_none]
theorem SInv.done {x : InstD} {l : List (List StopD)} {k : Nat} (hk : k < l.length) {r ld : Bool} {sum : Int} {out : List Int} (h : SInv x l k l[k] l[k].length r ld sum out) : TInv x l (k + 1) r (ld && decide (sum ≤ x.troom)) out := by
 refine ⟨h.len, fun hr => ?_, h.no⟩
 obtain ⟨⟨m, hm, ht⟩, h1, h2, h3, h4⟩ := h.yes hr
 rw [List.drop_length, List.foldl_nil] at ht
 rw [List.take_length] at h3
 refine ⟨?_, ?_, ?_⟩
 ·rw [h1, List.drop_eq_getElem_cons hk, truckGo_ok ht, decide_eq_true h2, Bool.and_true]
  congr 2
  rw [Bool.eq_iff_iff]; simp
 ·rw [foldl_take_succ _ _ _ _ hk, h3]; rfl
 ·rw [tstopsUp_succ hk]; exact h4
theorem SInv.stop2 {x : InstD} {l : List (List StopD)} {k : Nat} (hk : k < l.length) {t : List StopD} (ht : t = l[k]) {j : Nat} {r ld : Bool} {sum : Int} {out : List Int} (h : SInv x l k t j r ld sum out) (hj : j < t.length)
  (hr : (r && codeStop x (t.take j) t[j]) = false) : SInv x l k t (j + 1) false ld sum out := by
 subst ht; exact h.stop hk hj hr
theorem TInv.done {x : InstD} {l : List (List StopD)} {r ld : Bool} {out : List Int} (h : TInv x l l.length r ld out) : (r = true → trucksB x l = (true, ld) ∧ out = dropsD x l) ∧ (r = false → (trucksB x l).1 = false) :=
 ⟨fun hr => by
  obtain ⟨h1, h2, -⟩ := h.yes hr
  rw [List.drop_length] at h1
  rw [List.take_length] at h2
  exact ⟨h1, h2⟩, h.no⟩
/-! Bikes. -/
def bitsL (m n : Nat) : List Int := (List.range n).map fun i => if m.testBit i then 1 else 0
theorem bitsL_len (m n : Nat) : (bitsL m n).length = n := by simp [bitsL]
theorem bitsL_get (m n i : Nat) (h : i < (bitsL m n).length) : (bitsL m n)[i] = if m.testBit i then 1 else 0 := by simp [bitsL]
theorem bitsL_set (m n i : Nat) (v : Int) (hv : v = 1) : (bitsL m n).set i v = bitsL (m ||| 2 ^ i) n := by
 subst hv
 refine List.ext_getElem (by simp [bitsL]) fun j h1 h2 => ?_
 rw [List.getElem_set]
 simp only [bitsL, List.getElem_map, List.getElem_range, Nat.testBit_or, Nat.testBit_two_pow]
 by_cases e : i = j <;> simp [e]
theorem bitsL_zero (n : Nat) : bitsL 0 n = zerosD n := by
 refine List.ext_getElem (by simp [bitsL, zerosD]) fun j h1 h2 => ?_
 simp [bitsL, zerosD]
def codeCust (x : InstD) (m : Nat) (c : Int) : Bool := ((decide (0 ≤ c)) && decide (c < x.custs.length)) && !m.testBit c.toNat
theorem codeCust_bad (x : InstD) (m : Nat) (c : Int) : codeCust x m c = !custBad x m c := by
 unfold codeCust custBad
 rw [Bool.eq_iff_iff]
 simp only [Bool.and_eq_true, decide_eq_true_eq, Bool.not_eq_true', Bool.or_eq_false_iff, decide_eq_false_iff_not]
 constructor
 ·rintro ⟨⟨h1, h2⟩, h3⟩
  exact ⟨⟨by omega, by omega⟩, h3⟩
 ·rintro ⟨⟨h1, h2⟩, h3⟩
  exact ⟨⟨by omega, by omega⟩, h3⟩
structure BInv (x : InstD) (l : List BikeD) (tr lt : Bool) (k : Nat) (r ld : Bool) (sv out : List Int) : Prop where
 len : out.length = x.sats.length
 svL : sv.length = x.custs.length
 yes : r = true → tr = true ∧ (∃ (m : Nat) (lb : Bool), bikesB x l = bikeGo x (l.drop k) m lb ∧ ld = (lt && lb) ∧ sv = bitsL m x.custs.length ∧ m < 2 ^ x.custs.length) ∧ out = (l.take k).foldl (addBike x) (List.replicate x.sats.length 0) ∧ Small9 out (stopsUp l k)
 no : r = false → tr = false ∨ (bikesB x l).1 = false
theorem BInv.start (x : InstD) (l : List BikeD) (tr lt : Bool) : BInv x l tr lt 0 tr lt (zerosD x.custs.length) (zerosD x.sats.length) :=
 ⟨by simp [zerosD], by simp [zerosD], fun h => ⟨h, ⟨0, true, rfl, by simp, (bitsL_zero _).symm, Nat.two_pow_pos _⟩, rfl, Small9.zero _⟩, fun h => .inl h⟩
structure CInv (x : InstD) (l : List BikeD) (tr lt : Bool) (k : Nat) (b : BikeD) (j : Nat) (r ld : Bool) (sum : Int) (sv out : List Int) : Prop where
 len : out.length = x.sats.length
 svL : sv.length = x.custs.length
 sumB : 0 ≤ sum ∧ sum ≤ 1000000000 * (j : Int)
 yes : r = true → tr = true ∧ (∃ (m0 m : Nat) (lb : Bool), bikesB x l = bikeGo x (l.drop k) m0 lb ∧ ld = (lt && lb) ∧ bikeBad x b = false ∧ bikeSt x m0 b.stops = (b.stops.drop j).foldl (custSt x) (some (m, x.broom - sum)) ∧
  sv = bitsL m x.custs.length ∧ m < 2 ^ x.custs.length) ∧ out = (b.stops.take j).foldl (addLoad x b.sat) ((l.take k).foldl (addBike x) (List.replicate x.sats.length 0)) ∧ Small9 out (stopsUp l k + j)
 no : r = false → tr = false ∨ (bikesB x l).1 = false
theorem bikeBad_iff (x : InstD) (b : BikeD) : bikeBad x b = !(decide (0 < b.stops.length) && thereB x b.sat) := by
 unfold bikeBad thereB
 rw [Bool.eq_iff_iff]
 simp only [Bool.or_eq_true, decide_eq_true_eq, Bool.not_eq_true', Bool.and_eq_false_iff, decide_eq_false_iff_not]
 omega
theorem CInv.start {x : InstD} {l : List BikeD} {tr lt : Bool} {k : Nat} {r ld : Bool} {sv out : List Int} (h : BInv x l tr lt k r ld sv out) (hk : k < l.length) :
  CInv x l tr lt k l[k] 0 ((r && decide (0 < l[k].stops.length)) && thereB x l[k].sat) ld 0 sv out := by
 refine ⟨h.len, h.svL, by decide, fun hr => ?_, fun hr => ?_⟩
 ·rw [Bool.and_assoc, Bool.and_eq_true] at hr
  obtain ⟨h0, ⟨m, lb, h1, h2, h3, h4⟩, h5, h6⟩ := h.yes hr.1
  exact ⟨h0, ⟨m, m, lb, h1, h2, by rw [bikeBad_iff, hr.2]; rfl, by simp only [bikeSt, List.drop_zero, Int.sub_zero], h3, h4⟩, h5, h6⟩
 ·cases r with
  | false => exact h.no rfl
  | true =>
   rw [Bool.true_and] at hr
   obtain ⟨h0, ⟨m, lb, h1, h2, h3, h4⟩, h5, h6⟩ := h.yes rfl
   refine .inr ?_
   rw [h1, List.drop_eq_getElem_cons hk, bikeGo_bad (by rw [bikeBad_iff, hr]; rfl)]
theorem CInv.addLoad_eq {x : InstD} {sat : Int} {out : List Int} {c : Int} (hs : thereB x sat = true) (hl : out.length = x.sats.length) (hc : 0 ≤ c ∧ c < x.custs.length) :
  addLoad x sat out c = out.set sat.toNat (out.getD sat.toNat 0 + (x.custs.getD c.toNat ⟨0, 0, 0, 0⟩).load) := by
 simp only [thereB, Bool.and_eq_true, decide_eq_true_eq] at hs
 unfold addLoad
 rw [if_pos (by rw [hl]; omega)]
theorem CInv.step {x : InstD} {l : List BikeD} {tr lt : Bool} {k : Nat} {b : BikeD} {j : Nat} {ld : Bool} {sum : Int} {sv out : List Int} (h : CInv x l tr lt k b j true ld sum sv out) (hj : j < b.stops.length)
  (hcu : ∀ c ∈ x.custs, 0 ≤ c.load ∧ c.load ≤ 1000000000) (hc : 0 ≤ b.stops[j] ∧ b.stops[j] < x.custs.length) (h0 : sv.getD (b.stops[j]).toNat 0 = 0) :
  CInv x l tr lt k b (j + 1) true ld (sum + (x.custs.getD (b.stops[j]).toNat ⟨0, 0, 0, 0⟩).load) (sv.set (b.stops[j]).toNat 1) (addLoad x b.sat out b.stops[j]) := by
 obtain ⟨t0, ⟨m0, m, lb, h1, h2, h3, h4, h5, h6⟩, h7, h8⟩ := h.yes rfl
 obtain ⟨c, hce⟩ : ∃ c, c = b.stops[j] := ⟨_, rfl⟩
 rw [← hce] at hc h0 ⊢
 have hcl : c.toNat < x.custs.length := by omega
 have hld := hcu _ (List.getElem_mem hcl)
 have hcd : (x.custs.getD c.toNat ⟨0, 0, 0, 0⟩) = x.custs[c.toNat] := by rw [List.getD_eq_getElem?_getD, List.getElem?_eq_getElem hcl]; rfl
 have hsb := h.sumB
 have htb : m.testBit c.toNat = false := by
  rw [h5, List.getD_eq_getElem?_getD, List.getElem?_eq_getElem (by rw [bitsL_len]; exact hcl), Option.getD_some, bitsL_get] at h0
  cases e : m.testBit c.toNat with
  | false => rfl
  | true => rw [e] at h0; cases h0
 have hcb : custBad x m c = false := by
  have := codeCust_bad x m c
  unfold codeCust at this
  rw [decide_eq_true hc.1, decide_eq_true hc.2, htb] at this
  simpa using this.symm
 have hth : thereB x b.sat = true := by
  rw [bikeBad_iff] at h3
  have : (decide (0 < b.stops.length) && thereB x b.sat) = true := by simpa using h3
  exact (Bool.and_eq_true_iff.1 this).2
 refine ⟨by rw [addLoad_len]; exact h.len, by rw [List.length_set]; exact h.svL, by rw [hcd]; push_cast; omega, fun _ => ⟨t0, ⟨m0, m ||| 2 ^ c.toNat, lb, h1, h2, h3, ?_, ?_, ?_⟩, ?_, ?_⟩, fun h => by cases h⟩
 ·rw [h4, List.drop_eq_getElem_cons hj, List.foldl_cons, ← hce, custSt_ok hcb]
  show List.foldl (custSt x) (some (m ||| 2 ^ c.toNat, x.broom - sum - (x.custs.getD c.toNat ⟨0, 0, 0, 0⟩).load)) _ = _
  rw [Int.sub_sub]
 ·rw [h5, bitsL_set _ _ _ _ rfl]
 ·exact Nat.or_lt_two_pow h6 (Nat.pow_lt_pow_right (by decide) hcl)
 ·rw [foldl_take_succ _ _ _ _ hj, ← h7, ← hce]
 ·rw [CInv.addLoad_eq hth h.len hc, ← Nat.add_assoc]
  have hs2 : b.sat.toNat < out.length := by
   simp only [thereB, Bool.and_eq_true, decide_eq_true_eq] at hth
   rw [h.len]; omega
  refine h8.add ?_ (by rw [hcd]; exact hld)
  rw [List.getD_eq_getElem?_getD, List.getElem?_eq_getElem hs2]
  exact h8.get hs2
theorem CInv.twice {x : InstD} {l : List BikeD} {tr lt : Bool} {k : Nat} (hk : k < l.length) {j : Nat} {r ld : Bool} {sum : Int} {sv out : List Int} (h : CInv x l tr lt k l[k] j r ld sum sv out) (hj : j < l[k].stops.length)
  (hr : r = true → ¬ ((0 ≤ (l[k]).stops[j] ∧ (l[k]).stops[j] < x.custs.length) ∧ sv.getD ((l[k]).stops[j]).toNat 0 = 0)) : r = true → (bikesB x l).1 = false := by
 intro hrt
 obtain ⟨t0, ⟨m0, m, lb, h1, h2, h3, h4, h5, h6⟩, h7, h8⟩ := h.yes hrt
 have hr := hr hrt
 obtain ⟨c, hce⟩ : ∃ c, c = (l[k]).stops[j] := ⟨_, rfl⟩
 rw [← hce] at hr
 have hcb : custBad x m c = true := by
  have := codeCust_bad x m c
  cases e : custBad x m c with
  | true => rfl
  | false =>
   rw [e] at this
   simp only [codeCust, Bool.and_eq_true, decide_eq_true_eq, Bool.not_eq_true', Bool.not_false] at this
   refine absurd ⟨this.1, ?_⟩ hr
   rw [h5, List.getD_eq_getElem?_getD, List.getElem?_eq_getElem (by rw [bitsL_len]; omega), Option.getD_some, bitsL_get, this.2]; rfl
 rw [h1, List.drop_eq_getElem_cons hk, bikeGo_none (by rw [h4, List.drop_eq_getElem_cons hj, List.foldl_cons, ← hce, custSt_bad hcb, custs_none])]
theorem CInv.stop {x : InstD} {l : List BikeD} {tr lt : Bool} {k : Nat} (hk : k < l.length) {j : Nat} {r ld : Bool} {sum sum' : Int} {sv out sv' out' : List Int} (h : CInv x l tr lt k l[k] j r ld sum sv out) (hj : j < l[k].stops.length)
  (hr : r = true → ¬ ((0 ≤ (l[k]).stops[j] ∧ (l[k]).stops[j] < x.custs.length) ∧ sv.getD ((l[k]).stops[j]).toNat 0 = 0)) (hl : out'.length = x.sats.length) (hs : sv'.length = x.custs.length) (hb : 0 ≤ sum' ∧ sum' ≤ 1000000000 * ((j + 1 : Nat) : Int)) :
  CInv x l tr lt k l[k] (j + 1) false ld sum' sv' out' :=
 ⟨hl, hs, hb, (fun h => by cases h), fun _ => (by
  rcases Bool.eq_false_or_eq_true r with e | e
  ·exact .inr (h.twice hk hj hr e)
  ·exact h.no e)⟩
theorem CInv.done {x : InstD} {l : List BikeD} {tr lt : Bool} {k : Nat} (hk : k < l.length) {r ld : Bool} {sum : Int} {sv out : List Int} (h : CInv x l tr lt k l[k] l[k].stops.length r ld sum sv out) :
  BInv x l tr lt (k + 1) r (ld && decide (sum ≤ x.broom)) sv out := by
 refine ⟨h.len, h.svL, fun hr => ?_, h.no⟩
 obtain ⟨t0, ⟨m0, m, lb, h1, h2, h3, h4, h5, h6⟩, h7, h8⟩ := h.yes hr
 rw [List.drop_length, List.foldl_nil] at h4
 rw [List.take_length] at h7
 refine ⟨t0, ⟨m, lb && decide (0 ≤ x.broom - sum), ?_, ?_, h5, h6⟩, ?_, ?_⟩
 ·rw [h1, List.drop_eq_getElem_cons hk, bikeGo_ok h3 h4]
 ·rw [h2, Bool.and_assoc]
  congr 2
  rw [Bool.eq_iff_iff]; simp
 ·rw [foldl_take_succ _ _ _ _ hk, h7]; rfl
 ·rw [stopsUp_succ hk]; exact h8
theorem CInv.stop2 {x : InstD} {l : List BikeD} {tr lt : Bool} {k : Nat} (hk : k < l.length) {b : BikeD} (hbe : b = l[k]) {j : Nat} {r ld : Bool} {sum sum' : Int} {sv out sv' out' : List Int} (h : CInv x l tr lt k b j r ld sum sv out) (hj : j < b.stops.length)
  (hr : r = true → ¬ ((0 ≤ b.stops[j] ∧ b.stops[j] < x.custs.length) ∧ sv.getD (b.stops[j]).toNat 0 = 0)) (hl : out'.length = x.sats.length) (hs : sv'.length = x.custs.length) (hb : 0 ≤ sum' ∧ sum' ≤ 1000000000 * ((j + 1 : Nat) : Int)) :
  CInv x l tr lt k b (j + 1) false ld sum' sv' out' := by
 subst hbe; exact h.stop hk hj hr hl hs hb
theorem CInv.facts {x : InstD} {l : List BikeD} {tr lt : Bool} {k : Nat} {b : BikeD} {j : Nat} {ld : Bool} {sum : Int} {sv out : List Int} (h : CInv x l tr lt k b j true ld sum sv out) (c : Nat) :
  (0 ≤ b.sat ∧ b.sat < x.sats.length) ∧ (0 ≤ sv.getD c 0 ∧ sv.getD c 0 ≤ 1) ∧ Small9 out (stopsUp l k + j) := by
 obtain ⟨t0, ⟨m0, m, lb, h1, h2, h3, h4, h5, h6⟩, h7, h8⟩ := h.yes rfl
 refine ⟨?_, ?_, h8⟩
 ·rw [bikeBad_iff] at h3
  have : (decide (0 < b.stops.length) && thereB x b.sat) = true := by simpa using h3
  have := (Bool.and_eq_true_iff.1 this).2
  simpa [thereB] using this
 ·rw [h5, List.getD_eq_getElem?_getD]
  by_cases hc : c < (bitsL m x.custs.length).length
  ·rw [List.getElem?_eq_getElem hc, Option.getD_some, bitsL_get]; split <;> decide
  ·rw [List.getElem?_eq_none (by omega)]; decide
theorem CInv.go {x : InstD} {l : List BikeD} {tr lt : Bool} {k : Nat} (hk : k < l.length) {b : BikeD} (hbe : b = l[k]) {j : Nat} {ld : Bool} {sum : Int} {sv out : List Int} (h : CInv x l tr lt k b j true ld sum sv out) (hj : j < b.stops.length)
  (hcu : ∀ c ∈ x.custs, 0 ≤ c.load ∧ c.load ≤ 1000000000) {c : Int} (hce : c = b.stops[j]) (hc : 0 ≤ c ∧ c < x.custs.length) {v ov lo : Int} (hv : sv.getD c.toNat 0 = v) (hov : out.getD b.sat.toNat 0 = ov) (hlo : (x.custs.getD c.toNat ⟨0, 0, 0, 0⟩).load = lo) :
  CInv x l tr lt k b (j + 1) (v + 1 == 1) ld (sum + lo) (sv.set c.toNat (v + 1)) (out.set b.sat.toNat (ov + lo)) := by
 subst hce hv hov hlo
 have hf := h.facts 0
 have hcl : (b.stops[j]).toNat < x.custs.length := by omega
 have hld := hcu _ (List.getElem_mem hcl)
 have hcd : (x.custs.getD (b.stops[j]).toNat ⟨0, 0, 0, 0⟩) = x.custs[(b.stops[j]).toNat] := by rw [List.getD_eq_getElem?_getD, List.getElem?_eq_getElem hcl]; rfl
 by_cases h0 : sv.getD (b.stops[j]).toNat 0 = 0
 ·have := h.step hj hcu hc h0
  rw [CInv.addLoad_eq (by simp [thereB, hf.1]) h.len hc] at this
  rw [h0]
  exact this
 ·have e : (sv.getD (b.stops[j]).toNat 0 + 1 == 1) = false := by rw [beq_eq_false_iff_ne]; omega
  rw [e]
  have hs := h.sumB
  exact h.stop2 hk hbe hj (fun _ hn => h0 hn.2) (by rw [List.length_set]; exact h.len) (by rw [List.length_set]; exact h.svL) (by rw [hcd]; push_cast; omega)
end Go.Proofs.YtabadfkikdefeaaGreat

namespace Go.Proofs.YtabadfkikdefeaaGreat
open Go.RowKit
/-! Sums. -/
theorem sum_set : ∀ (l : List Int) (k : Nat) (h : k < l.length) (v : Int), (l.set k v).sum = l.sum + (v - l[k])
 | a :: l, 0, _, v => by simp; omega
 | a :: l, k + 1, h, v => by
  rw [List.set_cons_succ, List.sum_cons, List.sum_cons, sum_set l k (Nat.lt_of_succ_lt_succ h) v, List.getElem_cons_succ]; omega
def bump (l : List Int) (k : Nat) (v : Int) : List Int := l.set k (l.getD k 0 + v)
theorem bump_sum {l : List Int} {k : Nat} (h : k < l.length) (v : Int) : (bump l k v).sum = l.sum + v := by
 unfold bump
 rw [sum_set l k h, List.getD_eq_getElem?_getD, List.getElem?_eq_getElem h, Option.getD_some]; omega
/-! Trucks that may go. -/
def loadSum (t : List StopD) : Int := (t.map StopD.load).sum
theorem loadSum_snoc (t : List StopD) (s : StopD) : loadSum (t ++ [s]) = loadSum t + s.load := by
 unfold loadSum; rw [List.map_append, List.sum_append]; simp
structure TruckFit (x : InstD) (t : List StopD) : Prop where
 pos : 0 < t.length
 ok : ∀ o ∈ t, StopOk x o
 nodup : (t.map StopD.sat).Nodup
 room : loadSum t ≤ x.troom
theorem addLast_snoc (l : List (List StopD)) (t : List StopD) (s : StopD) : addLast (l ++ [t]) s = l ++ [t ++ [s]] := by
 unfold addLast
 rw [List.length_append, List.length_singleton, Nat.add_sub_cancel, List.getD_eq_getElem?_getD, List.getElem?_append_right (Nat.le_refl _), Nat.sub_self, List.set_append_right _ _ (Nat.le_refl _), Nat.sub_self]; rfl
theorem lastT_snoc (l : List (List StopD)) (t : List StopD) : lastT (l ++ [t]) = t := by
 unfold lastT
 rw [List.length_append, List.length_singleton, Nat.add_sub_cancel, List.getD_eq_getElem?_getD, List.getElem?_append_right (Nat.le_refl _), Nat.sub_self]; rfl
theorem snoc_of_pos {α : Type} {l : List α} (h : 0 < l.length) : ∃ l' a, l = l' ++ [a] := ⟨l.dropLast, l.getLast (List.ne_nil_of_length_pos h), (List.dropLast_concat_getLast _).symm⟩
structure Fit (x : InstD) (D : Nat → Prop) (dr : List Int) (out : List (List StopD)) (left : Int) : Prop where
 drop : out.foldl addTruck (zerosD x.sats.length) = dr
 many : (out.length : Int) ≤ x.tmany
 leftB : 0 ≤ left ∧ left < x.troom
 sum : dr.sum = x.troom * (out.length : Int) - left
 cnt : (((out.map List.length).sum : Nat) : Int) ≤ dr.sum
 trucks : ∀ t ∈ out, TruckFit x t
 last : 0 < left → 0 < out.length ∧ loadSum (lastT out) = x.troom - left
 sats : ∀ t ∈ out, ∀ o ∈ t, D o.sat.toNat
theorem Fit.len {x : InstD} {D : Nat → Prop} {dr : List Int} {out : List (List StopD)} {left : Int} (h : Fit x D dr out left) : dr.length = x.sats.length := by
 rw [← h.drop, addTrucks_len]; simp [zerosD]
theorem Fit.nil {x : InstD} {D : Nat → Prop} (hr : 1 ≤ x.troom) (hm : 0 ≤ x.tmany) : Fit x D (zerosD x.sats.length) [] 0 :=
 ⟨rfl, hm, by omega, by simp [zerosD], by simp [zerosD], (fun _ h => by cases h), fun h => absurd h (by decide), fun _ h => by cases h⟩
theorem Fit.imp {x : InstD} {D D' : Nat → Prop} {dr : List Int} {out : List (List StopD)} {left : Int} (h : Fit x D dr out left) (hd : ∀ s, D s → D' s) : Fit x D' dr out left :=
 ⟨h.drop, h.many, h.leftB, h.sum, h.cnt, h.trucks, h.last, fun t ht o ho => hd _ (h.sats t ht o ho)⟩
theorem Fit.stop {x : InstD} {D : Nat → Prop} {dr : List Int} {out : List (List StopD)} {left k : Int} {s : Nat} (h : Fit x D dr out left) (hl : 0 < left) (hs : s < x.sats.length) (hD : D s) (hns : ∀ o ∈ lastT out, o.sat ≠ s) (hk : 1 ≤ k ∧ k ≤ left) (hr : x.troom ≤ 1000000000) :
  Fit x D (bump dr s k) (addLast out ⟨s, k⟩) (left - k) := by
 obtain ⟨h1, h2⟩ := h.last hl
 obtain ⟨l, t, rfl⟩ := snoc_of_pos h1
 rw [lastT_snoc] at h2 hns
 have hb := h.leftB
 have hsum := h.sum
 have hcnt := h.cnt
 have hsl : s < dr.length := by rw [h.len]; exact hs
 have ht := h.trucks t (by simp)
 rw [addLast_snoc]
 refine ⟨?_, ?_, by omega, ?_, ?_, fun t' ht' => ?_, fun _ => ⟨by simp, ?_⟩, fun t' ht' o ho => ?_⟩
 ·have hd := h.drop
  rw [List.foldl_append, List.foldl_cons, List.foldl_nil] at hd ⊢
  unfold addTruck at hd ⊢
  rw [List.foldl_append, hd]; rfl
 ·have := h.many; simp only [List.length_append, List.length_singleton] at this ⊢; exact this
 ·rw [bump_sum hsl, hsum]; simp only [List.length_append, List.length_singleton]; omega
 ·rw [bump_sum hsl]
  simp only [List.map_append, List.sum_append, List.map_cons, List.map_nil, List.sum_cons, List.sum_nil, List.length_append, List.length_singleton, Nat.add_zero] at hcnt ⊢
  push_cast at hcnt ⊢; omega
 ·rcases List.mem_append.1 ht' with ht' | ht'
  ·exact h.trucks t' (List.mem_append_left _ ht')
  ·obtain rfl := List.mem_singleton.1 ht'
   refine ⟨by simp, fun o ho => ?_, ?_, by rw [loadSum_snoc]; show _ + k ≤ _; omega⟩
   ·rcases List.mem_append.1 ho with ho | ho
    ·exact ht.ok o ho
    ·obtain rfl := List.mem_singleton.1 ho
     exact ⟨⟨Int.natCast_nonneg _, by show ((s : Nat) : Int) < _; omega⟩, by show 1 ≤ k; omega, by show k ≤ _; omega⟩
   ·rw [List.map_append, List.nodup_append]
    refine ⟨ht.nodup, by simp, fun a ha b hb e => ?_⟩
    obtain ⟨o, ho, rfl⟩ := List.mem_map.1 ha
    simp only [List.map_cons, List.map_nil, List.mem_singleton] at hb
    exact hns o ho (e.trans hb)
 ·rw [lastT_snoc, loadSum_snoc, h2]; show _ + k = _; omega
 ·rcases List.mem_append.1 ht' with ht' | ht'
  ·exact h.sats t' (List.mem_append_left _ ht') o ho
  ·obtain rfl := List.mem_singleton.1 ht'
   rcases List.mem_append.1 ho with ho | ho
   ·exact h.sats t (by simp) o ho
   ·obtain rfl := List.mem_singleton.1 ho
    show D ((s : Int)).toNat
    rw [Int.toNat_natCast]; exact hD
theorem Fit.push {x : InstD} {D : Nat → Prop} {dr : List Int} {out : List (List StopD)} {k : Int} {s : Nat} (h : Fit x D dr out 0) (hm : (out.length : Int) ≠ x.tmany) (hs : s < x.sats.length) (hD : D s) (hk : 1 ≤ k ∧ k ≤ x.troom) (hr : x.troom ≤ 1000000000) :
  Fit x D (bump dr s k) (addLast (out ++ [[]]) ⟨s, k⟩) (x.troom - k) := by
 have hb := h.leftB
 have hsum := h.sum
 have hcnt := h.cnt
 have hsl : s < dr.length := by rw [h.len]; exact hs
 have hmm := h.many
 rw [addLast_snoc, List.nil_append]
 refine ⟨?_, ?_, by omega, ?_, ?_, fun t' ht' => ?_, fun _ => ⟨by simp, ?_⟩, fun t' ht' o ho => ?_⟩
 ·rw [List.foldl_append, h.drop]; rfl
 ·simp only [List.length_append, List.length_singleton]; push_cast; omega
 ·rw [bump_sum hsl, hsum]; simp only [List.length_append, List.length_singleton]; push_cast; rw [Int.mul_add]; omega
 ·rw [bump_sum hsl]
  simp only [List.map_append, List.sum_append, List.map_cons, List.map_nil, List.sum_cons, List.sum_nil, List.length_singleton, Nat.add_zero] at hcnt ⊢
  push_cast at hcnt ⊢; omega
 ·rcases List.mem_append.1 ht' with ht' | ht'
  ·exact h.trucks t' ht'
  ·obtain rfl := List.mem_singleton.1 ht'
   refine ⟨by simp, fun o ho => ?_, by simp, by show (List.map StopD.load [⟨(s : Int), k⟩]).sum ≤ _; simp; omega⟩
   obtain rfl := List.mem_singleton.1 ho
   exact ⟨⟨Int.natCast_nonneg _, by show ((s : Nat) : Int) < _; omega⟩, by show 1 ≤ k; omega, by show k ≤ _; omega⟩
 ·rw [lastT_snoc]; show (List.map StopD.load [⟨(s : Int), k⟩]).sum = _; simp; omega
 ·rcases List.mem_append.1 ht' with ht' | ht'
  ·exact h.sats t' ht' o ho
  ·obtain rfl := List.mem_singleton.1 ht'
   obtain rfl := List.mem_singleton.1 ho
   show D ((s : Int)).toNat
   rw [Int.toNat_natCast]; exact hD
/-! The loads of a draft's bikes, all together. -/
end Go.Proofs.YtabadfkikdefeaaGreat

namespace Go.Proofs.YtabadfkikdefeaaGreat
open Go.RowKit
structure SmallWf (x : SmallD) : Prop where
 fin : wf8 x.fin
 trucks : wf8 x.trucks
 troom : wf8 x.troom
 bikes : wf8 x.bikes
 broom : wf8 x.broom
 sats : ∀ s ∈ x.sats, wf8 s.room ∧ wf8 s.hold
 custs : ∀ c ∈ x.custs, wf8 c.load ∧ wf8 c.opn ∧ wf8 c.wide ∧ wf8 c.stay
theorem small_wf {w : World} {F : Nat → Prop} {x : SmallD} {cs : List Value} (h : smallS.rep w F x cs) : SmallWf x := by
 obtain ⟨_, _, _, _, rfl, h0, h1, h2, -, -⟩ := h
 obtain ⟨_, _, _, _, -, -, -, -, -, -, hs⟩ := lsats_open h1
 obtain ⟨_, _, _, _, -, -, -, -, -, -, hc⟩ := lwhos_open h2
 exact ⟨h0.1, h0.2.1, h0.2.2.1, h0.2.2.2.1, h0.2.2.2.2, hs, hc⟩
theorem wide_bd (x : SmallD) : wideOf x = 1 ∨ wideOf x = 9 := by unfold wideOf; split <;> simp
theorem rowSt_cell (l : List Int) (n i k0 : Nat) : ∀ m j : Nat, 0 ≤ (rowSt l n i k0 m).1.getD j 0 ∧ (rowSt l n i k0 m).1.getD j 0 ≤ 29 ∧ (i = j → (rowSt l n i k0 m).1.getD j 0 = 0)
 | 0, j => by
  have : (List.replicate n (0 : Int)).getD j 0 = 0 := by rw [List.getD_eq_getElem?_getD, List.getElem?_replicate]; split <;> rfl
  show 0 ≤ (List.replicate n (0 : Int)).getD j 0 ∧ (List.replicate n (0 : Int)).getD j 0 ≤ 29 ∧ (i = j → (List.replicate n (0 : Int)).getD j 0 = 0)
  rw [this]; simp
 | m + 1, j => by
  have ih := rowSt_cell l n i k0 m j
  simp only [rowSt]
  split
  ·rename_i hc
   simp only [List.getD_eq_getElem?_getD, List.getElem?_set] at ih ⊢
   split
   ·rename_i e
    split
    ·simp only [Option.getD_some]
     refine ⟨by omega, by omega, fun h => absurd (h.trans e.symm) hc.1⟩
    ·simp
   ·exact ih
  ·exact ih
theorem sqSt_row (l : List Int) (n : Nat) : ∀ i j (h : j < (sqSt l n i).1.length), ((sqSt l n i).1[j]).length = n ∧ ∀ k, 0 ≤ ((sqSt l n i).1[j]).getD k 0 ∧ ((sqSt l n i).1[j]).getD k 0 ≤ 29 ∧ (j = k → ((sqSt l n i).1[j]).getD k 0 = 0)
 | 0, j, h => by simp [sqSt] at h
 | i + 1, j, h => by
  have hl := sqSt_len l n i
  by_cases hj : j < i
  ·have e : (sqSt l n (i + 1)).1[j] = (sqSt l n i).1[j]'(by omega) := by
    simp only [sqSt]; rw [List.getElem_append_left (by omega)]
   rw [e]; exact sqSt_row l n i j _
  ·have hji : j = i := by rw [sqSt_len] at h; omega
   subst hji
   have e : (sqSt l n (j + 1)).1[j] = (rowSt l n j (sqSt l n j).2 n).1 := by
    simp only [sqSt]; rw [List.getElem_append_right (by omega)]; simp [hl]
   rw [e]
   exact ⟨rowSt_len _ _ _ _ _, fun k => rowSt_cell l n j _ n k⟩
theorem square_good (l : List Int) (n : Nat) : squareB (square11 l n) (n : Int) = true ∧ matB (square11 l n) (square11 l n).length = true := by
 have hl : (square11 l n).length = n := by unfold square11; exact sqSt_len l n n
 refine ⟨?_, ?_⟩
 ·simp only [squareB, Bool.and_eq_true, beq_iff_eq, Bool.not_eq_true', List.any_eq_false, bne_iff_ne, ne_eq, Decidable.not_not]
  refine ⟨by rw [hl], fun r hr => ?_⟩
  obtain ⟨j, hj, rfl⟩ := List.getElem_of_mem hr
  rw [show ((square11 l n)[j]).length = n from (sqSt_row l n n j hj).1]
 ·simp only [matB, List.all_eq_true, List.mem_range]
  intro i hi
  rw [List.getD_eq_getElem?_getD, List.getElem?_eq_getElem hi]
  simp only [rowB, Option.getD_some, List.all_eq_true, List.mem_range]
  intro k _
  have h := (sqSt_row l n n i hi).2 k
  simp only [cellB, mayB, Bool.and_eq_true, decide_eq_true_eq, Bool.or_eq_true, bne_iff_ne, ne_eq, beq_iff_eq]
  refine ⟨⟨h.1, by have := h.2.1; show ((sqSt l n n).1[i]).getD k 0 ≤ _; omega⟩, ?_⟩
  by_cases e : i = k
  ·exact .inr (h.2.2 e)
  ·left; omega
theorem sat_may {x : SmallD} (h : SmallWf x) : ∀ s ∈ satsOf x, (0 ≤ s.room ∧ s.room ≤ 1000) ∧ 0 ≤ s.hold ∧ s.hold ≤ 1000 := by
 intro s hs
 have hw := wide_bd x
 unfold satsOf at hs
 split at hs
 ·simp at hs; subst hs; simp
 ·unfold satsUp at hs
  obtain ⟨t, ht, rfl⟩ := List.mem_map.1 hs
  have := h.sats t (List.mem_of_mem_take (List.mem_of_mem_take ht))
  unfold wf8 at this
  unfold satOf
  rcases hw with e | e <;> rw [e] <;> simp only [] <;> omega
theorem cust_may {x : SmallD} (h : SmallWf x) : ∀ c ∈ custsOf x, (1 ≤ c.load ∧ c.load ≤ 1000) ∧ (0 ≤ c.opn ∧ c.opn ≤ 1000) ∧ (c.opn ≤ c.cls ∧ c.cls ≤ 10000) ∧ 0 ≤ c.stay ∧ c.stay ≤ 1000 := by
 intro s hs
 have hw := wide_bd x
 unfold custsOf at hs
 split at hs
 ·simp at hs; subst hs; simp
 ·unfold custsUp at hs
  obtain ⟨t, ht, rfl⟩ := List.mem_map.1 hs
  have := h.custs t (List.mem_of_mem_take (List.mem_of_mem_take ht))
  unfold wf8 at this
  unfold custOf loadOf
  rcases hw with e | e <;> rw [e] <;> simp only [] <;> split <;> omega
theorem may_of {n l : Int} (h : l ≤ n) (h2 : n ≤ 1000000000) : mayB n l = true := by simp [mayB, h, h2]
theorem make_check {x : SmallD} (h : SmallWf x) : check (makeD x) = 0 := by
 have hw := wide_bd x
 have h0 := h.fin
 have h1 := h.trucks
 have h2 := h.troom
 have h3 := h.bikes
 have h4 := h.broom
 unfold wf8 at h0 h1 h2 h3 h4
 have hs := satsOf_len x
 have hc := custsOf_len x
 have hcount : countB (makeD x) = true := by
  show (manyB (1 + x.trucks % 4) 60 && manyB (1 + x.bikes % 6) 60 && manyB (satsOf x).length 12 && manyB (custsOf x).length 48) = true
  simp only [manyB, Bool.and_eq_true, decide_eq_true_eq]; omega
 have hsize : sizeB (makeD x) = true := by
  have e : nodes (makeD x) = nodesOf x := rfl
  simp only [sizeB, e, Bool.and_eq_true]
  exact ⟨(square_good _ _).1, (square_good _ _).1⟩
 have hnum : numbersB (makeD x) = true := by
  simp only [numbersB, headB, Bool.and_eq_true, List.all_eq_true]
  refine ⟨⟨⟨⟨⟨⟨?_, ?_⟩, ?_⟩, fun s hs => ?_⟩, fun c hc => ?_⟩, (square_good _ _).2⟩, (square_good _ _).2⟩
  ·refine may_of ?_ ?_ <;> simp only [makeD] <;> rcases hw with e | e <;> rw [e] <;> omega
  ·refine may_of ?_ ?_ <;> simp only [makeD] <;> rcases hw with e | e <;> rw [e] <;> omega
  ·refine may_of ?_ ?_ <;> simp only [makeD] <;> rcases hw with e | e <;> rw [e] <;> omega
  ·have := sat_may h s hs
   simp only [satB, Bool.and_eq_true]; exact ⟨may_of (by omega) (by omega), may_of (by omega) (by omega)⟩
  ·have := cust_may h c hc
   simp only [custB, Bool.and_eq_true]; exact ⟨⟨⟨may_of (by omega) (by omega), may_of (by omega) (by omega)⟩, may_of (by omega) (by omega)⟩, may_of (by omega) (by omega)⟩
 unfold check
 rw [hcount, hsize, hnum]; rfl
theorem make_wf {x : SmallD} (h : SmallWf x) : InstWf (makeD x) := by
 have g := good_of (make_check h)
 have hn := nodesOf_le x
 have e : nodes (makeD x) = nodesOf x := rfl
 refine ⟨?_, fun s hs => ?_, fun c hc => ?_, fun r hr => ?_, fun r hr => ?_⟩
 ·have h1 := g.fin; have h2 := g.tmany; have h3 := g.troom; have h4 := g.bmany; have h5 := g.broom
  unfold wf64; omega
 ·have := g.sat s hs; unfold wf64; omega
 ·have := g.cust c hc; unfold wf64; omega
 ·exact ⟨by rw [g.costR r hr]; unfold maxLen; omega, fun v hv => by have := g.cost r hr v hv; unfold wf64; omega⟩
 ·exact ⟨by rw [g.timeR r hr]; unfold maxLen; omega, fun v hv => by have := g.time r hr v hv; unfold wf64; omega⟩
end Go.Proofs.YtabadfkikdefeaaGreat


namespace Go.Proofs.YtabadfkikdefeaaGreat
open Go.RowKit
theorem make_troom {x : SmallD} (h : SmallWf x) : 1 ≤ (makeD x).troom := by
 have := h.troom
 have hw := wide_bd x
 unfold wf8 at this
 show 1 ≤ 5 + wideOf x * (x.troom % 40)
 rcases hw with e | e <;> rw [e] <;> omega
structure PlanFew (p : PlanD) : Prop where
 tl : p.trucks.length ≤ 100000
 bl : p.bikes.length ≤ 100
 ts : ∀ t ∈ p.trucks, t.length ≤ 100000 ∧ ∀ s ∈ t, (-1000000000 ≤ s.sat ∧ s.sat ≤ 1000000000) ∧ -1000000000 ≤ s.load ∧ s.load ≤ 1000000000
 bs : ∀ b ∈ p.bikes, (-1000000000 ≤ b.sat ∧ b.sat ≤ 1000000000) ∧ b.stops.length ≤ 100 ∧ ∀ c ∈ b.stops, -1000000000 ≤ c ∧ c ≤ 1000000000
theorem dOne_ok {many room : Int} {q : Bool} {s : Nat} (hr : 1 ≤ room) (hs : s ≤ 1000) : ∀ (f : Nat) (n : Int) (cnt : Nat) (out : List (List StopD)) (left : Int), UnitOk room cnt out left → UnitOk room (cnt + n.toNat) (dOne many room q s f n (out, left)).1 (dOne many room q s f n (out, left)).2
 | 0, n, cnt, out, left, h => ⟨h.leftB, by have := h.lenB; show out.length ≤ _; omega, h.someB, fun t ht => by have := h.stB t ht; exact ⟨by omega, fun u hu => by have := this.2 u hu; omega⟩⟩
 | f + 1, n, cnt, out, left, h => by
  by_cases hn : n ≤ 0
  ·rw [dOne_done hn]
   exact ⟨h.leftB, by have := h.lenB; show out.length ≤ _; omega, h.someB, fun t ht => by have := h.stB t ht; exact ⟨by omega, fun u hu => by have := this.2 u hu; omega⟩⟩
  ·obtain ⟨o, l, hrd, h1, h2, h3, h4, h5⟩ := h.readyQ (many := many) (q := q) hr
   have hb := UnitOk.batch (room := room) (l := l) (much := min n l) (s := s) ⟨h1, h2⟩ ⟨h3, h4⟩ h5 (by omega) hs
   have ih := dOne_ok (many := many) (q := q) hr hs f (n - min n l) _ _ _ hb
   have e : dOne many room q s (f + 1) n (out, left) = dOne many room q s f (n - min n l) (addLast o ⟨s, min n l⟩, l - min n l) := by
    show (if n ≤ 0 then _ else _) = _
    rw [if_neg hn, hrd]
   rw [e]
   have ec : cnt + (min n l).toNat + (n - min n l).toNat = cnt + n.toNat := by omega
   rw [ec] at ih
   exact ih
theorem dUp_ok {x : InstD} {w : WishD} {lo : List Int} (hr : 1 ≤ x.troom) (hl : ∀ s, 0 ≤ lo.getD s 0 ∧ lo.getD s 0 ≤ 6000) : ∀ s, s ≤ 1000 → UnitOk x.troom (6000 * s) (dUp x w lo s).1 (dUp x w lo s).2
 | 0, _ => UnitOk.nil (by omega)
 | s + 1, hs => by
  have ih := dUp_ok (w := w) hr hl s (by omega)
  have h := dOne_ok (many := x.tmany) (q := cutQ w s) (s := s) hr (by omega) (lo.getD s 0).toNat (lo.getD s 0) (6000 * s) (dUp x w lo s).1 (dUp x w lo s).2 ih
  have := hl s
  refine ⟨h.leftB, ?_, h.someB, fun t ht => ?_⟩
  ·have hL : (dOne x.tmany x.troom (cutQ w s) s (lo.getD s 0).toNat (lo.getD s 0) (dUp x w lo s)).1.length ≤ 6000 * s + (lo.getD s 0).toNat := h.lenB
   show (dOne x.tmany x.troom (cutQ w s) s (lo.getD s 0).toNat (lo.getD s 0) (dUp x w lo s)).1.length ≤ 6000 * (s + 1)
   omega
  ·have := h.stB t ht; exact ⟨by omega, fun u hu => by have := this.2 u hu; omega⟩
theorem draft_small {x : InstD} (w : WishD) (hns : 1 ≤ x.sats.length ∧ x.sats.length ≤ 3) (hnc : 1 ≤ x.custs.length ∧ x.custs.length ≤ 6) (hcl : ∀ c ∈ x.custs, 1 ≤ c.load ∧ c.load ≤ 1000) (htr : 1 ≤ x.troom) : PlanFew (draftD x w) := by
 have hol : (draftOrd x w).length = x.custs.length := orderUp_len _ _
 have hk := draftUp_ok (x := x) w (os := draftOrd x w) (fun c hc => by have := hcl c hc; omega) (by omega) (orderUp_lt _ _) (draftOrd x w).length (Nat.le_refl _)
 have hlv : ∀ s, 0 ≤ (draftLB x w).1.getD s 0 ∧ (draftLB x w).1.getD s 0 ≤ 6000 := fun s => by
  rw [List.getD_eq_getElem?_getD]
  by_cases hs : s < (draftLB x w).1.length
  ·rw [List.getElem?_eq_getElem hs]
   have := hk.loB _ (List.getElem_mem hs)
   exact ⟨this.1, Int.le_trans this.2 (by rw [hol]; omega)⟩
  ·rw [List.getElem?_eq_none (by omega)]; simp
 have hd := dUp_ok (x := x) (w := w) htr hlv (draftLB x w).1.length (by unfold draftLB; rw [hk.loL]; omega)
 have hll : (draftLB x w).1.length ≤ 3 := by unfold draftLB; rw [hk.loL]; omega
 refine ⟨?_, ?_, fun t ht => ?_, fun b hb => ?_⟩
 ·have := hd.lenB; show (dUp x w (draftLB x w).1 (draftLB x w).1.length).1.length ≤ _; omega
 ·have := hk.bsL; show (draftLB x w).2.length ≤ _; unfold draftLB; omega
 ·have := hd.stB t ht; exact ⟨by omega, fun u hu => by have := this.2 u hu; omega⟩
 ·have := hk.bsB b hb; exact ⟨by omega, by omega, fun c hc => by have := this.2.2 c hc; omega⟩
theorem spoil_bikes {p : PlanD} (h : PlanFew p) (what at_ : Nat) {by_ : Int} (hby : -128 ≤ by_ ∧ by_ ≤ 127) : (spoiltD p what at_ by_).bikes.length ≤ 200 ∧ ∀ b ∈ (spoiltD p what at_ by_).bikes, wf64 b.sat ∧ b.stops.length ≤ 200 ∧ ∀ c ∈ b.stops, wf64 c := by
 have hbl := h.bl
 have base : p.bikes.length ≤ 200 ∧ ∀ b ∈ p.bikes, wf64 b.sat ∧ b.stops.length ≤ 200 ∧ ∀ c ∈ b.stops, wf64 c := ⟨by omega, fun b hb => by
  have h1 := h.bs b hb
  exact ⟨by unfold wf64; omega, by omega, fun c hc => by have := h1.2.2 c hc; unfold wf64; omega⟩⟩
 have hget : ∀ B, (-1000000000 ≤ (p.bikes.getD B ⟨0, []⟩).sat ∧ (p.bikes.getD B ⟨0, []⟩).sat ≤ 1000000000) ∧ (p.bikes.getD B ⟨0, []⟩).stops.length ≤ 100 ∧ ∀ c ∈ (p.bikes.getD B ⟨0, []⟩).stops, -1000000000 ≤ c ∧ c ≤ 1000000000 := fun B => by
  rw [List.getD_eq_getElem?_getD]
  by_cases hB : B < p.bikes.length
  ·rw [List.getElem?_eq_getElem hB]; exact h.bs _ (List.getElem_mem hB)
  ·rw [List.getElem?_eq_none (by omega)]; exact ⟨by simp, by simp, fun c hc => by cases hc⟩
 have hset : ∀ (B : Nat) (b : BikeD), (wf64 b.sat ∧ b.stops.length ≤ 200 ∧ ∀ c ∈ b.stops, wf64 c) → (p.bikes.set B b).length ≤ 200 ∧ ∀ b' ∈ p.bikes.set B b, wf64 b'.sat ∧ b'.stops.length ≤ 200 ∧ ∀ c ∈ b'.stops, wf64 c := fun B b hb => by
  refine ⟨by rw [List.length_set]; omega, fun b' hb' => ?_⟩
  rcases List.mem_or_eq_of_mem_set hb' with h' | rfl
  ·exact base.2 b' h'
  ·exact hb
 unfold spoiltD
 split
 ·exact base
 ·show (spoilB p _ _ _ (at_ : Int) by_).length ≤ 200 ∧ ∀ b ∈ spoilB p _ _ _ (at_ : Int) by_, wf64 b.sat ∧ b.stops.length ≤ 200 ∧ ∀ c ∈ b.stops, wf64 c
  generalize at_ % p.bikes.length = B
  have hg := hget B
  have hgI : ∀ (l : List Int), (∀ c ∈ l, -1000000000 ≤ c ∧ c ≤ 1000000000) → ∀ I, -1000000000 ≤ l.getD I 0 ∧ l.getD I 0 ≤ 1000000000 := fun l hl I => by
   rw [List.getD_eq_getElem?_getD]
   by_cases hI : I < l.length
   ·rw [List.getElem?_eq_getElem hI]; exact hl _ (List.getElem_mem hI)
   ·rw [List.getElem?_eq_none (by omega)]; simp
  generalize (at_ / 3) % _ = I
  have hI := hgI _ hg.2.2 I
  unfold spoilB
  generalize p.bikes.getD B ⟨0, []⟩ = bk at *
  have hsw : wf64 bk.sat := by unfold wf64; omega
  have hcw : ∀ c ∈ bk.stops, wf64 c := fun c hc => by have := hg.2.2 c hc; unfold wf64; omega
  split
  ·exact hset _ _ ⟨hsw, by have := List.length_eraseIdx_le bk.stops I; show (bk.stops.eraseIdx I).length ≤ 200; omega, fun c hc => hcw c (List.mem_of_mem_eraseIdx hc)⟩
  ·exact hset _ _ ⟨hsw, by show (bk.stops ++ [_]).length ≤ 200; rw [List.length_append, List.length_singleton]; omega, fun c hc => by
    rcases List.mem_append.1 hc with hc | hc
    ·exact hcw c hc
    ·obtain rfl := List.mem_singleton.1 hc; unfold wf64; omega⟩
  ·exact hset _ _ ⟨hsw, by show (bk.stops.set I _).length ≤ 200; rw [List.length_set]; omega, fun c hc => by
    rcases List.mem_or_eq_of_mem_set hc with hc | rfl
    ·exact hcw c hc
    ·unfold wf64; omega⟩
  ·exact hset _ _ ⟨by show wf64 (bk.sat + by_); unfold wf64; omega, by show bk.stops.length ≤ 200; omega, hcw⟩
  ·refine ⟨by rw [List.length_append, List.length_singleton]; omega, fun b hb => ?_⟩
   rcases List.mem_append.1 hb with hb | hb
   ·exact base.2 b hb
   ·obtain rfl := List.mem_singleton.1 hb
    exact ⟨by show wf64 by_; unfold wf64; omega, by simp, fun c hc => by cases hc⟩
  ·exact base
theorem stopsUp_bd {l : List BikeD} {m : Nat} (h : ∀ b ∈ l, b.stops.length ≤ m) : ∀ k, k ≤ l.length → stopsUp l k ≤ m * k
 | 0, _ => by unfold stopsUp; simp
 | k + 1, hk => by
  have ih := stopsUp_bd h k (by omega)
  have := h _ (List.getElem_mem (show k < l.length by omega))
  rw [stopsUp_succ (show k < l.length by omega), Nat.mul_add, Nat.mul_one]
  omega
end Go.Proofs.YtabadfkikdefeaaGreat
