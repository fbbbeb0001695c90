/- What an input reads as: from the reading to the shapes. -/
import Derived.Test.YtafhjfkdlmijdaaGb
import Derived.Test.YtafhjfkdlmijdaaProg
import Derived.Deep.Slices
import Derived.OpenShut
namespace Go.Proofs.Ytafhjfkdlmijdaa
open Go.RowKit

/-- Whatever reads as data at a type has a shape. -/
def Opens {α : Type} (P : Program) (t : TypeId) (S : Shape α) : Prop :=
  ∀ (H : Type) (enc : TypeId × Value → H) (w : World) (base : Nat) (spare : Nat → Bool) (held : Bool) (fuel : Nat) (cs : List Value) (x : DataW H × List MemPlace), DataW.trod enc P w base spare held fuel t cs = some x → ∃ y, S.rep w (fun _ => True) y cs

theorem opens_i64 {P : Program} {t : TypeId} (ht : P.underlying t = some (.int .i64)) : Opens P t intS := by
  intro H enc w base spare held fuel cs x h
  cases fuel with
  | zero => simp [DataW.trod] at h
  | succ n =>
    unfold DataW.trod at h
    rw [ht] at h
    split at h <;> simp_all
    rename_i k2 m e
    obtain ⟨⟨_, hw⟩, -⟩ := h
    subst e
    refine ⟨m, rfl, ?_⟩
    simpa [Lit.wf, IntKind.min, IntKind.max, IntKind.signed, IntKind.bits, wf64] using hw
theorem opens_u8 {P : Program} {t : TypeId} (ht : P.underlying t = some (.int .u8)) : Opens P t u8S := by
  intro H enc w base spare held fuel cs x h
  cases fuel with
  | zero => simp [DataW.trod] at h
  | succ n =>
    unfold DataW.trod at h
    rw [ht] at h
    split at h <;> simp_all
    rename_i k2 m e
    obtain ⟨⟨_, hw⟩, -⟩ := h
    subst e
    refine ⟨m, rfl, ?_⟩
    simpa [Lit.wf, IntKind.min, IntKind.max, IntKind.signed, IntKind.bits, wf64] using hw
def boolS : Shape Bool := plainS 1 (fun x cs => cs = [.bool x]) (by rintro x cs rfl; rfl)
theorem opens_bool {P : Program} {t : TypeId} (ht : P.underlying t = some .bool) : Opens P t boolS := by
  intro H enc w base spare held fuel cs x h
  cases fuel with
  | zero => simp [DataW.trod] at h
  | succ n =>
    unfold DataW.trod at h
    rw [ht] at h
    split at h
    all_goals first | exact ⟨_, rfl⟩ | simp_all
theorem list_of {α : Type} {p : Nat → α → Prop} : ∀ (n : Nat), (∀ i, i < n → ∃ x, p i x) → ∃ xs : List α, xs.length = n ∧ ∀ i (h : i < xs.length), p i xs[i]
  | 0, _ => ⟨[], rfl, fun _ h => absurd h (Nat.not_lt_zero _)⟩
  | n + 1, h => by
    obtain ⟨xs, hl, hx⟩ := list_of n fun i hi => h i (by omega)
    obtain ⟨x, hp⟩ := h n (by omega)
    refine ⟨xs ++ [x], by simp [hl], fun i hi => ?_⟩
    by_cases hlt : i < xs.length
    · rw [List.getElem_append_left hlt]; exact hx i hlt
    · have : i = n := by simp at hi; omega
      subst this
      rw [List.getElem_append_right (by omega)]
      simpa [hl] using hp
theorem spot_none {w : World} {a : Addr} {v : Value} (h : w.cell? a = some v) : a.spot = none := by
  unfold World.cell? at h
  split at h
  · split at h
    · cases h
    · rename_i hs; simpa using hs
  · cases h
theorem opens_slice {α : Type} {P : Program} {t e : TypeId} {S : Shape α} {h0 : 0 < S.sz} (ht : P.underlying t = some (.slice e)) (hc : P.cellsOf e = S.sz) (he : Opens P e S) : Opens P t (sliceS S h0) := by
  intro H enc w base spare held fuel cs x h
  rcases Deep.open_slice ht h with ⟨rfl, -⟩ | ⟨a, len, cap, m, n, D, Pl, rfl, -, hl, hm, hmm, -, hx⟩
  · exact ⟨[], none, 0, 0, 0, rfl, Nat.le_refl _, Nat.zero_le _, fun h => absurd h (Nat.not_lt_zero _), fun i h => absurd h (Nat.not_lt_zero _)⟩
  · have hlm : len ≤ m := by rw [hmm]; split <;> omega
    obtain ⟨xs, hxl, hxs⟩ := list_of (p := fun i y => ∃ es, S.rep w (fun _ => True) y es ∧ ∀ j, j < S.sz → w.cell? ((a.add (i * S.sz)).add j) = es[j]?) len (fun i hi => by
      obtain ⟨cs', h1, h2⟩ := hx i (by omega)
      obtain ⟨y, hy⟩ := he _ _ _ _ _ _ _ _ _ h2
      rw [hc] at h1
      obtain ⟨_, _, h3⟩ := World.cells?_some h1
      exact ⟨y, cs', hy, h3⟩)
    obtain ⟨b, off, spot⟩ := a
    subst hxl
    have hsp : 0 < xs.length → spot = none := fun hpos => by
      obtain ⟨es, hr, hce⟩ := hxs 0 hpos
      have hle := S.len hr
      have := hce 0 h0
      rw [List.getElem?_eq_getElem (by omega), Nat.zero_mul] at this
      simpa [Addr.add] using spot_none this
    refine ⟨xs, some ⟨b, off, spot⟩, b, off, cap, rfl, hl, hm, fun hpos => ⟨by rw [hsp hpos], trivial⟩, fun i hi => ?_⟩
    obtain rfl := hsp (by omega)
    obtain ⟨es, hr, hce⟩ := hxs i hi
    refine ⟨es, hr, fun j hj => ?_⟩
    rw [← hce j hj]
    congr 1
    by_cases e1 : i * S.sz = 0 <;> by_cases e2 : j = 0 <;> simp [Addr.add, e1, e2]
theorem trod_at {P : Program} {t : TypeId} {fs : Array Field} {H : Type} {enc : TypeId × Value → H} {w : World} {base : Nat} {spare : Nat → Bool} {held : Bool} {fuel : Nat} {cs : List Value} {x : DataW H × List MemPlace}
    (ht : P.underlying t = some (.struct fs)) (h : DataW.trod enc P w base spare held fuel t cs = some x) (i ft o k : Nat) (hf : (fs[i]?).map (fun f => (f.type, f.offset)) = some (ft, o)) (hk : P.cellsOf ft = k) :
    ∃ n y, DataW.trod enc P w base spare held n ft ((cs.drop o).take k) = some y := by
  obtain ⟨xs, n, -, -, -, hl, hx⟩ := DataW.trod_struct ht h
  obtain ⟨f, hf1, hf2⟩ := Option.map_eq_some_iff.1 hf
  simp only [Prod.mk.injEq] at hf2
  obtain ⟨rfl, rfl⟩ := hf2
  have h1 := hx i f hf1
  have hi : i < xs.length := by
    rw [hl]
    exact (Array.getElem?_eq_some_iff.1 hf1).1
  rw [List.getElem?_eq_getElem hi, hk] at h1
  exact ⟨n, _, h1⟩
theorem trod_len {P : Program} {t : TypeId} {fs : Array Field} {H : Type} {enc : TypeId × Value → H} {w : World} {base : Nat} {spare : Nat → Bool} {held : Bool} {fuel : Nat} {cs : List Value} {x : DataW H × List MemPlace}
    (ht : P.underlying t = some (.struct fs)) (h : DataW.trod enc P w base spare held fuel t cs = some x) : cs.length = P.cellsOf t := by
  obtain ⟨xs, n, -, -, hl, -⟩ := DataW.trod_struct ht h
  exact hl

theorem co_u8 : Try.prog.cellsOf 5 = 1 := by kernel_rfl
theorem co_int : Try.prog.cellsOf 3 = 1 := by kernel_rfl
theorem co_i64 : Try.prog.cellsOf 2 = 1 := by kernel_rfl
theorem co_bool : Try.prog.cellsOf 4 = 1 := by kernel_rfl
theorem op_u8 : Opens Try.prog 5 u8S := opens_u8 Try.underlying5
theorem op_i64 : Opens Try.prog 2 intS := opens_i64 Try.underlying2
theorem op_int : Opens Try.prog 3 intS := opens_i64 Try.underlying3
theorem op_bool : Opens Try.prog 4 boolS := opens_bool Try.underlying4
theorem op_bytes : Opens Try.prog 24 bytesS := opens_slice (S := u8S) Try.underlying24 co_u8 op_u8
theorem op_ints64 : Opens Try.prog 34 (sliceS intS) := opens_slice (S := intS) Try.underlying34 co_i64 op_i64
theorem op_ints : Opens Try.prog 49 (sliceS intS) := opens_slice (S := intS) Try.underlying49 co_int op_int
theorem op_rows : Opens Try.prog 31 rowsS := opens_slice (S := sliceS intS) Try.underlying31 (by kernel_rfl) op_ints64
theorem op_lsat : Opens Try.prog 103 lsatS := by
  intro H enc w base spare held fuel cs x h
  have hl : cs.length = 2 := (trod_len Try.underlying103 h).trans (by kernel_rfl)
  match cs, hl with
  | [v0, v1], _ =>
    obtain ⟨n0, y0, f0⟩ := trod_at Try.underlying103 h 0 5 0 1 rfl co_u8
    obtain ⟨n1, y1, f1⟩ := trod_at Try.underlying103 h 1 5 1 1 rfl co_u8
    obtain ⟨a0, e0, w0⟩ := op_u8 _ _ _ _ _ _ _ _ _ f0
    obtain ⟨a1, e1, w1⟩ := op_u8 _ _ _ _ _ _ _ _ _ f1
    simp at e0 e1
    subst e0; subst e1
    exact ⟨⟨a0, a1⟩, rfl, w0, w1⟩
theorem op_lwho : Opens Try.prog 110 lwhoS := by
  intro H enc w base spare held fuel cs x h
  have hl : cs.length = 4 := (trod_len Try.underlying110 h).trans (by kernel_rfl)
  match cs, hl with
  | [v0, v1, v2, v3], _ =>
    obtain ⟨n0, y0, f0⟩ := trod_at Try.underlying110 h 0 5 0 1 rfl co_u8
    obtain ⟨n1, y1, f1⟩ := trod_at Try.underlying110 h 1 5 1 1 rfl co_u8
    obtain ⟨n2, y2, f2⟩ := trod_at Try.underlying110 h 2 5 2 1 rfl co_u8
    obtain ⟨n3, y3, f3⟩ := trod_at Try.underlying110 h 3 5 3 1 rfl co_u8
    obtain ⟨a0, e0, w0⟩ := op_u8 _ _ _ _ _ _ _ _ _ f0
    obtain ⟨a1, e1, w1⟩ := op_u8 _ _ _ _ _ _ _ _ _ f1
    obtain ⟨a2, e2, w2⟩ := op_u8 _ _ _ _ _ _ _ _ _ f2
    obtain ⟨a3, e3, w3⟩ := op_u8 _ _ _ _ _ _ _ _ _ f3
    simp at e0 e1 e2 e3
    subst e0; subst e1; subst e2; subst e3
    exact ⟨⟨a0, a1, a2, a3⟩, rfl, w0, w1, w2, w3⟩
theorem op_lsats : Opens Try.prog 22 lsatsS := opens_slice (S := lsatS) Try.underlying22 (by kernel_rfl) op_lsat
theorem op_lwhos : Opens Try.prog 23 lwhosS := opens_slice (S := lwhoS) Try.underlying23 (by kernel_rfl) op_lwho
theorem op_small : Opens Try.prog 26 smallS := by
  intro H enc w base spare held fuel cs x h
  have hl : cs.length = 11 := (trod_len Try.underlying26 h).trans (by kernel_rfl)
  match cs, hl with
  | [v0, v1, v2, v3, v4, v5, v6, v7, v8, v9, v10], _ =>
    obtain ⟨_, _, f0⟩ := trod_at Try.underlying26 h 0 5 0 1 rfl co_u8
    obtain ⟨_, _, f1⟩ := trod_at Try.underlying26 h 1 5 1 1 rfl co_u8
    obtain ⟨_, _, f2⟩ := trod_at Try.underlying26 h 2 5 2 1 rfl co_u8
    obtain ⟨_, _, f3⟩ := trod_at Try.underlying26 h 3 5 3 1 rfl co_u8
    obtain ⟨_, _, f4⟩ := trod_at Try.underlying26 h 4 5 4 1 rfl co_u8
    obtain ⟨_, _, f5⟩ := trod_at Try.underlying26 h 5 22 5 1 rfl (by kernel_rfl)
    obtain ⟨_, _, f6⟩ := trod_at Try.underlying26 h 6 23 6 1 rfl (by kernel_rfl)
    obtain ⟨_, _, f7⟩ := trod_at Try.underlying26 h 7 24 7 1 rfl (by kernel_rfl)
    obtain ⟨_, _, f8⟩ := trod_at Try.underlying26 h 8 24 8 1 rfl (by kernel_rfl)
    obtain ⟨_, _, f9⟩ := trod_at Try.underlying26 h 9 4 9 1 rfl co_bool
    obtain ⟨_, _, f10⟩ := trod_at Try.underlying26 h 10 4 10 1 rfl co_bool
    obtain ⟨a0, e0, w0⟩ := op_u8 _ _ _ _ _ _ _ _ _ f0
    obtain ⟨a1, e1, w1⟩ := op_u8 _ _ _ _ _ _ _ _ _ f1
    obtain ⟨a2, e2, w2⟩ := op_u8 _ _ _ _ _ _ _ _ _ f2
    obtain ⟨a3, e3, w3⟩ := op_u8 _ _ _ _ _ _ _ _ _ f3
    obtain ⟨a4, e4, w4⟩ := op_u8 _ _ _ _ _ _ _ _ _ f4
    obtain ⟨a5, r5⟩ := op_lsats _ _ _ _ _ _ _ _ _ f5
    obtain ⟨a6, r6⟩ := op_lwhos _ _ _ _ _ _ _ _ _ f6
    obtain ⟨a7, r7⟩ := op_bytes _ _ _ _ _ _ _ _ _ f7
    obtain ⟨a8, r8⟩ := op_bytes _ _ _ _ _ _ _ _ _ f8
    obtain ⟨a9, e9⟩ := op_bool _ _ _ _ _ _ _ _ _ f9
    obtain ⟨a10, e10⟩ := op_bool _ _ _ _ _ _ _ _ _ f10
    simp [boolS, plainS] at e0 e1 e2 e3 e4 e9 e10
    subst e0; subst e1; subst e2; subst e3; subst e4; subst e9; subst e10
    exact ⟨⟨a0, a1, a2, a3, a4, a5, a6, a7, a8, a9, a10⟩, v5, v6, v7, v8, rfl, ⟨w0, w1, w2, w3, w4⟩, r5, r6, r7, r8⟩
theorem op_fleet {H : Type} {enc : TypeId × Value → H} {w : World} {base : Nat} {spare : Nat → Bool} {held : Bool} {fuel : Nat} {v0 v1 : Value} {x : DataW H × List MemPlace} (h : DataW.trod enc Try.prog w base spare held fuel 28 [v0, v1] = some x) :
    ∃ a b : Int, v0 = .int .i64 a ∧ v1 = .int .i64 b ∧ wf64 a ∧ wf64 b := by
  obtain ⟨_, _, f0⟩ := trod_at Try.underlying28 h 0 3 0 1 rfl co_int
  obtain ⟨_, _, f1⟩ := trod_at Try.underlying28 h 1 2 1 1 rfl co_i64
  obtain ⟨a0, e0, w0⟩ := op_int _ _ _ _ _ _ _ _ _ f0
  obtain ⟨a1, e1, w1⟩ := op_i64 _ _ _ _ _ _ _ _ _ f1
  simp at e0 e1
  exact ⟨a0, a1, e0, e1, w0, w1⟩
theorem op_sat : Opens Try.prog 38 satS := by
  intro H enc w base spare held fuel cs x h
  have hl : cs.length = 2 := (trod_len Try.underlying38 h).trans (by kernel_rfl)
  match cs, hl with
  | [v0, v1], _ =>
    obtain ⟨_, _, f0⟩ := trod_at Try.underlying38 h 0 2 0 1 rfl co_i64
    obtain ⟨_, _, f1⟩ := trod_at Try.underlying38 h 1 2 1 1 rfl co_i64
    obtain ⟨a0, e0, w0⟩ := op_i64 _ _ _ _ _ _ _ _ _ f0
    obtain ⟨a1, e1, w1⟩ := op_i64 _ _ _ _ _ _ _ _ _ f1
    simp at e0 e1
    subst e0; subst e1
    exact ⟨⟨a0, a1⟩, rfl, w0, w1⟩
theorem op_cust : Opens Try.prog 112 custS := by
  intro H enc w base spare held fuel cs x h
  have hl : cs.length = 4 := (trod_len Try.underlying112 h).trans (by kernel_rfl)
  match cs, hl with
  | [v0, v1, v2, v3], _ =>
    obtain ⟨_, _, f0⟩ := trod_at Try.underlying112 h 0 2 0 1 rfl co_i64
    obtain ⟨_, _, f1⟩ := trod_at Try.underlying112 h 1 2 1 1 rfl co_i64
    obtain ⟨_, _, f2⟩ := trod_at Try.underlying112 h 2 2 2 1 rfl co_i64
    obtain ⟨_, _, f3⟩ := trod_at Try.underlying112 h 3 2 3 1 rfl co_i64
    obtain ⟨a0, e0, w0⟩ := op_i64 _ _ _ _ _ _ _ _ _ f0
    obtain ⟨a1, e1, w1⟩ := op_i64 _ _ _ _ _ _ _ _ _ f1
    obtain ⟨a2, e2, w2⟩ := op_i64 _ _ _ _ _ _ _ _ _ f2
    obtain ⟨a3, e3, w3⟩ := op_i64 _ _ _ _ _ _ _ _ _ f3
    simp at e0 e1 e2 e3
    subst e0; subst e1; subst e2; subst e3
    exact ⟨⟨a0, a1, a2, a3⟩, rfl, w0, w1, w2, w3⟩
theorem op_sats : Opens Try.prog 29 satsS := opens_slice (S := satS) Try.underlying29 (by kernel_rfl) op_sat
theorem op_custs : Opens Try.prog 30 custsS := opens_slice (S := custS) Try.underlying30 (by kernel_rfl) op_cust
theorem op_inst : Opens Try.prog 33 instS := by
  intro H enc w base spare held fuel cs x h
  have hl : cs.length = 9 := (trod_len Try.underlying33 h).trans (by kernel_rfl)
  match cs, hl with
  | [v0, v1, v2, v3, v4, v5, v6, v7, v8], _ =>
    obtain ⟨_, _, f0⟩ := trod_at Try.underlying33 h 0 2 0 1 rfl co_i64
    obtain ⟨_, _, f1⟩ := trod_at Try.underlying33 h 1 28 1 2 rfl (by kernel_rfl)
    obtain ⟨_, _, f2⟩ := trod_at Try.underlying33 h 2 28 3 2 rfl (by kernel_rfl)
    obtain ⟨_, _, f3⟩ := trod_at Try.underlying33 h 3 29 5 1 rfl (by kernel_rfl)
    obtain ⟨_, _, f4⟩ := trod_at Try.underlying33 h 4 30 6 1 rfl (by kernel_rfl)
    obtain ⟨_, _, f5⟩ := trod_at Try.underlying33 h 5 31 7 1 rfl (by kernel_rfl)
    obtain ⟨_, _, f6⟩ := trod_at Try.underlying33 h 6 31 8 1 rfl (by kernel_rfl)
    obtain ⟨a0, e0, w0⟩ := op_i64 _ _ _ _ _ _ _ _ _ f0
    obtain ⟨a1, b1, rfl, rfl, w1, u1⟩ := op_fleet f1
    obtain ⟨a2, b2, rfl, rfl, w2, u2⟩ := op_fleet f2
    obtain ⟨a3, r3⟩ := op_sats _ _ _ _ _ _ _ _ _ f3
    obtain ⟨a4, r4⟩ := op_custs _ _ _ _ _ _ _ _ _ f4
    obtain ⟨a5, r5⟩ := op_rows _ _ _ _ _ _ _ _ _ f5
    obtain ⟨a6, r6⟩ := op_rows _ _ _ _ _ _ _ _ _ f6
    simp at e0
    subst e0
    exact ⟨⟨a0, a1, b1, a2, b2, a3, a4, a5, a6⟩, v5, v6, v7, v8, rfl, ⟨w0, w1, u1, w2, u2⟩, r3, r4, r5, r6⟩
/-- An argument of a struct's type is its cells. -/
theorem arg_struct {P : Program} {w : World} {r : Reach} {base : Nat} {t : TypeId} {fs : Array Field} {v : Value} (ht : P.underlying t = some (.struct fs)) (h : Value.okWide P w r base t v) : ∃ cs : List Value, v = .agg cs.toArray ∧ v.cells.toList = cs := by
  unfold Value.okWide at h
  rw [ht] at h
  obtain ⟨cs, rfl, -⟩ := h
  exact ⟨cs.toList, by simp, by simp [Value.cells]⟩
/-- An argument of a slice's type is one cell. -/
theorem arg_slice {P : Program} {w : World} {r : Reach} {base : Nat} {t e : TypeId} {v : Value} (ht : P.underlying t = some (.slice e)) (h : Value.okWide P w r base t v) : v.cells.toList = [v] := by
  unfold Value.okWide at h
  rw [ht] at h
  simp only [Cell.okWide, ht] at h
  cases v <;> simp_all [Value.cells, Cell.ok]
end Go.Proofs.Ytafhjfkdlmijdaa
