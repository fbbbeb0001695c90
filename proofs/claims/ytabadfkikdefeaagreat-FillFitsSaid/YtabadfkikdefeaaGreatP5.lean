/- Texts of the proof, joined: HaulFits, Open, Open2, Law. -/
import Derived.BigQuiet
import Derived.Test.YtabadfkikdefeaaGreatProg
import Derived.Deep.Slices
import Derived.OpenShut
import Derived.Test.YtabadfkikdefeaaGreatRows
import Derived.ProofKit
import Derived.Test.YtabadfkikdefeaaGreatCode
set_option linter.all false
set_option maxRecDepth 100000
set_option maxHeartbeats 6400000
namespace Go.Proofs.YtabadfkikdefeaaGreat
open Go.RowKit
theorem tst_addLast (out : List (List StopD)) (s : StopD) : ((addLast out s).map List.length).sum ≤ (out.map List.length).sum + 1 := by
 by_cases h : 0 < out.length
 ·obtain ⟨l, a, rfl⟩ := snoc_of_pos h
  rw [addLast_snoc]
  simp
  omega
 ·obtain rfl := List.eq_nil_of_length_eq_zero (by omega : out.length = 0)
  simp [addLast]
theorem tst_ready (many room : Int) (q : Bool) (st : List (List StopD) × Int) : ((readyQ many room q st).1.map List.length).sum = (st.1.map List.length).sum := by
 unfold readyQ
 split
 ·simp
 ·rfl
theorem tst_dOne (many room : Int) (q : Bool) (s : Nat) : ∀ (f : Nat) (n : Int) (st : List (List StopD) × Int), ((dOne many room q s f n st).1.map List.length).sum ≤ (st.1.map List.length).sum + f
 | 0, _, st => Nat.le_refl _
 | f + 1, n, st => by
  unfold dOne
  split
  ·omega
  ·have h1 := tst_dOne many room q s f (n - min n (readyQ many room q st).2) (addLast (readyQ many room q st).1 ⟨s, min n (readyQ many room q st).2⟩, (readyQ many room q st).2 - min n (readyQ many room q st).2)
   have h2 := tst_addLast (readyQ many room q st).1 ⟨s, min n (readyQ many room q st).2⟩
   rw [tst_ready] at h2
   simp only [] at h1
   omega
theorem tst_dUp {x : InstD} {w : WishD} {lo : List Int} (hl : ∀ s, lo.getD s 0 ≤ 6000) : ∀ s, ((dUp x w lo s).1.map List.length).sum ≤ 6000 * s
 | 0 => by simp [dUp]
 | s + 1 => by
  have ih := tst_dUp (x := x) (w := w) hl s
  have h := tst_dOne x.tmany x.troom (cutQ w s) s (lo.getD s 0).toNat (lo.getD s 0) (dUp x w lo s)
  have := hl s
  show ((dOne x.tmany x.troom (cutQ w s) s (lo.getD s 0).toNat (lo.getD s 0) (dUp x w lo s)).1.map List.length).sum ≤ _
  omega
theorem draft_stops {x : InstD} (w : WishD) (hns : 1 ≤ x.sats.length ∧ x.sats.length ≤ 3) (hnc : 1 ≤ x.custs.length ∧ x.custs.length ≤ 6) (hcl : ∀ c ∈ x.custs, 1 ≤ c.load ∧ c.load ≤ 1000) (htr : 1 ≤ x.troom) : PlanSmall (draftD x w) := by
 have hol : (draftOrd x w).length = x.custs.length := orderUp_len _ _
 have hk := draftUp_ok (x := x) w (os := draftOrd x w) (fun c hc => by have := hcl c hc; omega) (by omega) (orderUp_lt _ _) (draftOrd x w).length (Nat.le_refl _)
 have hf := draft_small w hns hnc hcl htr
 have hlv : ∀ s, (draftLB x w).1.getD s 0 ≤ 6000 := fun s => by
  rw [List.getD_eq_getElem?_getD]
  by_cases hs : s < (draftLB x w).1.length
  ·rw [List.getElem?_eq_getElem hs]
   have := hk.loB _ (List.getElem_mem hs)
   exact Int.le_trans this.2 (by rw [hol]; omega)
  ·rw [List.getElem?_eq_none (by omega)]; simp
 have hd := tst_dUp (x := x) (w := w) hlv (draftLB x w).1.length
 have hll : (draftLB x w).1.length ≤ 3 := by unfold draftLB; rw [hk.loL]; omega
 refine ⟨?_, ?_⟩
 ·have h1 := stopsUp_bd (m := 100) (fun b hb => (hf.bs b hb).2.1) (draftD x w).bikes.length (Nat.le_refl _)
  have h2 := hf.bl
  have h3 : 100 * (draftD x w).bikes.length ≤ 100 * 100 := Nat.mul_le_mul_left _ h2
  omega
 ·unfold tstopsUp
  rw [List.take_length]
  have h3 : 6000 * (draftLB x w).1.length ≤ 6000 * 3 := Nat.mul_le_mul_left _ hll
  show ((dUp x w (draftLB x w).1 (draftLB x w).1.length).1.map List.length).sum ≤ _
  omega
def Opens {α : Type} (P : Program) (t : TypeId) (S : Shape α) : Prop :=
 ∀ (H : Type) (enc : TypeId × Value → H) (w : World) (base : Nat) (spare : Nat → Bool) (held : Bool) (fuel : Nat) (cs : List Value) (x : DataW H × List MemPlace), DataW.trod enc P w base spare held fuel t cs = some x → ∃ y, S.rep w (fun _ => True) y cs
theorem opens_i64 {P : Program} {t : TypeId} (ht : P.underlying t = some (.int .i64)) : Opens P t intS := by
 intro H enc w base spare held fuel cs x h
 cases fuel with
 | zero => simp [DataW.trod] at h
 | succ n =>
  unfold DataW.trod at h
  rw [ht] at h
  split at h <;> simp_all
  rename_i k2 m e
  obtain ⟨⟨_, hw⟩, -⟩ := h
  subst e
  refine ⟨m, rfl, ?_⟩
  simpa [Lit.wf, IntKind.min, IntKind.max, IntKind.signed, IntKind.bits, wf64] using hw
theorem opens_u8 {P : Program} {t : TypeId} (ht : P.underlying t = some (.int .u8)) : Opens P t u8S := by
 intro H enc w base spare held fuel cs x h
 cases fuel with
 | zero => simp [DataW.trod] at h
 | succ n =>
  unfold DataW.trod at h
  rw [ht] at h
  split at h <;> simp_all
  rename_i k2 m e
  obtain ⟨⟨_, hw⟩, -⟩ := h
  subst e
  refine ⟨m, rfl, ?_⟩
  simpa [Lit.wf, IntKind.min, IntKind.max, IntKind.signed, IntKind.bits, wf64] using hw
def boolS : Shape Bool := plainS 1 (fun x cs => cs = [.bool x]) (by rintro x cs rfl; rfl)
theorem opens_bool {P : Program} {t : TypeId} (ht : P.underlying t = some .bool) : Opens P t boolS := by
 intro H enc w base spare held fuel cs x h
 cases fuel with
 | zero => simp [DataW.trod] at h
 | succ n =>
  unfold DataW.trod at h
  rw [ht] at h
  split at h
  all_goals first | exact ⟨_, rfl⟩ | simp_all
theorem list_of {α : Type} {p : Nat → α → Prop} : ∀ (n : Nat), (∀ i, i < n → ∃ x, p i x) → ∃ xs : List α, xs.length = n ∧ ∀ i (h : i < xs.length), p i xs[i]
 | 0, _ => ⟨[], rfl, fun _ h => absurd h (Nat.not_lt_zero _)⟩
 | n + 1, h => by
  obtain ⟨xs, hl, hx⟩ := list_of n fun i hi => h i (by omega)
  obtain ⟨x, hp⟩ := h n (by omega)
  refine ⟨xs ++ [x], by simp [hl], fun i hi => ?_⟩
  by_cases hlt : i < xs.length
  ·rw [List.getElem_append_left hlt]; exact hx i hlt
  ·have : i = n := by simp at hi; omega
   subst this
   rw [List.getElem_append_right (by omega)]
   simpa [hl] using hp
theorem spot_none {w : World} {a : Addr} {v : Value} (h : w.cell? a = some v) : a.spot = none := by
 unfold World.cell? at h
 split at h
 ·split at h
  ·cases h
  ·rename_i hs; simpa using hs
 ·cases h
theorem opens_slice {α : Type} {P : Program} {t e : TypeId} {S : Shape α} {h0 : 0 < S.sz} (ht : P.underlying t = some (.slice e)) (hc : P.cellsOf e = S.sz) (he : Opens P e S) : Opens P t (sliceS S h0) := by
 intro H enc w base spare held fuel cs x h
 rcases Deep.open_slice ht h with ⟨rfl, -⟩ | ⟨a, len, cap, m, n, D, Pl, rfl, -, hl, hm, hmm, -, hx⟩
 ·exact ⟨[], none, 0, 0, 0, rfl, Nat.le_refl _, Nat.zero_le _, fun h => absurd h (Nat.not_lt_zero _), fun i h => absurd h (Nat.not_lt_zero _)⟩
 ·have hlm : len ≤ m := by rw [hmm]; split <;> omega
  obtain ⟨xs, hxl, hxs⟩ := list_of (p := fun i y => ∃ es, S.rep w (fun _ => True) y es ∧ ∀ j, j < S.sz → w.cell? ((a.add (i * S.sz)).add j) = es[j]?) len (fun i hi => by
   obtain ⟨cs', h1, h2⟩ := hx i (by omega)
   obtain ⟨y, hy⟩ := he _ _ _ _ _ _ _ _ _ h2
   rw [hc] at h1
   obtain ⟨_, _, h3⟩ := World.cells?_some h1
   exact ⟨y, cs', hy, h3⟩)
  obtain ⟨b, off, spot⟩ := a
  subst hxl
  have hsp : 0 < xs.length → spot = none := fun hpos => by
   obtain ⟨es, hr, hce⟩ := hxs 0 hpos
   have hle := S.len hr
   have := hce 0 h0
   rw [List.getElem?_eq_getElem (by omega), Nat.zero_mul] at this
   simpa [Addr.add] using spot_none this
  refine ⟨xs, some ⟨b, off, spot⟩, b, off, cap, rfl, hl, hm, fun hpos => ⟨by rw [hsp hpos], trivial⟩, fun i hi => ?_⟩
  obtain rfl := hsp (by omega)
  obtain ⟨es, hr, hce⟩ := hxs i hi
  refine ⟨es, hr, fun j hj => ?_⟩
  rw [← hce j hj]
  congr 1
  by_cases e1 : i * S.sz = 0 <;> by_cases e2 : j = 0 <;> simp [Addr.add, e1, e2]
theorem trod_at {P : Program} {t : TypeId} {fs : Array Field} {H : Type} {enc : TypeId × Value → H} {w : World} {base : Nat} {spare : Nat → Bool} {held : Bool} {fuel : Nat} {cs : List Value} {x : DataW H × List MemPlace}
  (ht : P.underlying t = some (.struct fs)) (h : DataW.trod enc P w base spare held fuel t cs = some x) (i ft o k : Nat) (hf : (fs[i]?).map (fun f => (f.type, f.offset)) = some (ft, o)) (hk : P.cellsOf ft = k) :
  ∃ n y, DataW.trod enc P w base spare held n ft ((cs.drop o).take k) = some y := by
 obtain ⟨xs, n, -, -, -, hl, hx⟩ := DataW.trod_struct ht h
 obtain ⟨f, hf1, hf2⟩ := Option.map_eq_some_iff.1 hf
 simp only [Prod.mk.injEq] at hf2
 obtain ⟨rfl, rfl⟩ := hf2
 have h1 := hx i f hf1
 have hi : i < xs.length := by
  rw [hl]
  exact (Array.getElem?_eq_some_iff.1 hf1).1
 rw [List.getElem?_eq_getElem hi, hk] at h1
 exact ⟨n, _, h1⟩
theorem trod_len {P : Program} {t : TypeId} {fs : Array Field} {H : Type} {enc : TypeId × Value → H} {w : World} {base : Nat} {spare : Nat → Bool} {held : Bool} {fuel : Nat} {cs : List Value} {x : DataW H × List MemPlace}
  (ht : P.underlying t = some (.struct fs)) (h : DataW.trod enc P w base spare held fuel t cs = some x) : cs.length = P.cellsOf t := by
 obtain ⟨xs, n, -, -, hl, -⟩ := DataW.trod_struct ht h
 exact hl
theorem co_u8 : Tryz.prog.cellsOf 5 = 1 := by kernel_rfl
theorem co_i64 : Tryz.prog.cellsOf 2 = 1 := by kernel_rfl
theorem co_bool : Tryz.prog.cellsOf 4 = 1 := by kernel_rfl
theorem op_u8 : Opens Tryz.prog 5 u8S := opens_u8 Tryz.underlying5
theorem op_i64 : Opens Tryz.prog 2 intS := opens_i64 Tryz.underlying2
theorem op_bool : Opens Tryz.prog 4 boolS := opens_bool Tryz.underlying4
theorem op_bytes : Opens Tryz.prog 24 bytesS := opens_slice (S := u8S) Tryz.underlying24 co_u8 op_u8
theorem op_ints64 : Opens Tryz.prog 78 (sliceS intS) := opens_slice (S := intS) Tryz.underlying78 co_i64 op_i64
theorem op_lsat : Opens Tryz.prog 163 lsatS := by
 intro H enc w base spare held fuel cs x h
 have hl : cs.length = 2 := (trod_len Tryz.underlying163 h).trans (by kernel_rfl)
 match cs, hl with
 | [v0, v1], _ =>
  obtain ⟨n0, y0, f0⟩ := trod_at Tryz.underlying163 h 0 5 0 1 rfl co_u8
  obtain ⟨n1, y1, f1⟩ := trod_at Tryz.underlying163 h 1 5 1 1 rfl co_u8
  obtain ⟨a0, e0, w0⟩ := op_u8 _ _ _ _ _ _ _ _ _ f0
  obtain ⟨a1, e1, w1⟩ := op_u8 _ _ _ _ _ _ _ _ _ f1
  simp at e0 e1
  subst e0; subst e1
  exact ⟨⟨a0, a1⟩, rfl, w0, w1⟩
theorem op_lwho : Opens Tryz.prog 165 lwhoS := by
 intro H enc w base spare held fuel cs x h
 have hl : cs.length = 4 := (trod_len Tryz.underlying165 h).trans (by kernel_rfl)
 match cs, hl with
 | [v0, v1, v2, v3], _ =>
  obtain ⟨n0, y0, f0⟩ := trod_at Tryz.underlying165 h 0 5 0 1 rfl co_u8
  obtain ⟨n1, y1, f1⟩ := trod_at Tryz.underlying165 h 1 5 1 1 rfl co_u8
  obtain ⟨n2, y2, f2⟩ := trod_at Tryz.underlying165 h 2 5 2 1 rfl co_u8
  obtain ⟨n3, y3, f3⟩ := trod_at Tryz.underlying165 h 3 5 3 1 rfl co_u8
  obtain ⟨a0, e0, w0⟩ := op_u8 _ _ _ _ _ _ _ _ _ f0
  obtain ⟨a1, e1, w1⟩ := op_u8 _ _ _ _ _ _ _ _ _ f1
  obtain ⟨a2, e2, w2⟩ := op_u8 _ _ _ _ _ _ _ _ _ f2
  obtain ⟨a3, e3, w3⟩ := op_u8 _ _ _ _ _ _ _ _ _ f3
  simp at e0 e1 e2 e3
  subst e0; subst e1; subst e2; subst e3
  exact ⟨⟨a0, a1, a2, a3⟩, rfl, w0, w1, w2, w3⟩
theorem op_lsats : Opens Tryz.prog 22 lsatsS := opens_slice (S := lsatS) Tryz.underlying22 (by kernel_rfl) op_lsat
theorem op_lwhos : Opens Tryz.prog 23 lwhosS := opens_slice (S := lwhoS) Tryz.underlying23 (by kernel_rfl) op_lwho
theorem op_small : Opens Tryz.prog 26 smallS := by
 intro H enc w base spare held fuel cs x h
 have hl : cs.length = 11 := (trod_len Tryz.underlying26 h).trans (by kernel_rfl)
 match cs, hl with
 | [v0, v1, v2, v3, v4, v5, v6, v7, v8, v9, v10], _ =>
  obtain ⟨_, _, f0⟩ := trod_at Tryz.underlying26 h 0 5 0 1 rfl co_u8
  obtain ⟨_, _, f1⟩ := trod_at Tryz.underlying26 h 1 5 1 1 rfl co_u8
  obtain ⟨_, _, f2⟩ := trod_at Tryz.underlying26 h 2 5 2 1 rfl co_u8
  obtain ⟨_, _, f3⟩ := trod_at Tryz.underlying26 h 3 5 3 1 rfl co_u8
  obtain ⟨_, _, f4⟩ := trod_at Tryz.underlying26 h 4 5 4 1 rfl co_u8
  obtain ⟨_, _, f5⟩ := trod_at Tryz.underlying26 h 5 22 5 1 rfl (by kernel_rfl)
  obtain ⟨_, _, f6⟩ := trod_at Tryz.underlying26 h 6 23 6 1 rfl (by kernel_rfl)
  obtain ⟨_, _, f7⟩ := trod_at Tryz.underlying26 h 7 24 7 1 rfl (by kernel_rfl)
  obtain ⟨_, _, f8⟩ := trod_at Tryz.underlying26 h 8 24 8 1 rfl (by kernel_rfl)
  obtain ⟨_, _, f9⟩ := trod_at Tryz.underlying26 h 9 4 9 1 rfl co_bool
  obtain ⟨_, _, f10⟩ := trod_at Tryz.underlying26 h 10 4 10 1 rfl co_bool
  obtain ⟨a0, e0, w0⟩ := op_u8 _ _ _ _ _ _ _ _ _ f0
  obtain ⟨a1, e1, w1⟩ := op_u8 _ _ _ _ _ _ _ _ _ f1
  obtain ⟨a2, e2, w2⟩ := op_u8 _ _ _ _ _ _ _ _ _ f2
  obtain ⟨a3, e3, w3⟩ := op_u8 _ _ _ _ _ _ _ _ _ f3
  obtain ⟨a4, e4, w4⟩ := op_u8 _ _ _ _ _ _ _ _ _ f4
  obtain ⟨a5, r5⟩ := op_lsats _ _ _ _ _ _ _ _ _ f5
  obtain ⟨a6, r6⟩ := op_lwhos _ _ _ _ _ _ _ _ _ f6
  obtain ⟨a7, r7⟩ := op_bytes _ _ _ _ _ _ _ _ _ f7
  obtain ⟨a8, r8⟩ := op_bytes _ _ _ _ _ _ _ _ _ f8
  obtain ⟨a9, e9⟩ := op_bool _ _ _ _ _ _ _ _ _ f9
  obtain ⟨a10, e10⟩ := op_bool _ _ _ _ _ _ _ _ _ f10
  simp [boolS, plainS] at e0 e1 e2 e3 e4 e9 e10
  subst e0; subst e1; subst e2; subst e3; subst e4; subst e9; subst e10
  exact ⟨⟨a0, a1, a2, a3, a4, a5, a6, a7, a8, a9, a10⟩, v5, v6, v7, v8, rfl, ⟨w0, w1, w2, w3, w4⟩, r5, r6, r7, r8⟩
theorem arg_struct {P : Program} {w : World} {r : Reach} {base : Nat} {t : TypeId} {fs : Array Field} {v : Value} (ht : P.underlying t = some (.struct fs)) (h : Value.okWide P w r base t v) : ∃ cs : List Value, v = .agg cs.toArray ∧ v.cells.toList = cs := by
 unfold Value.okWide at h
 rw [ht] at h
 obtain ⟨cs, rfl, -⟩ := h
 exact ⟨cs.toList, by simp, by simp [Value.cells]⟩
theorem arg_slice {P : Program} {w : World} {r : Reach} {base : Nat} {t e : TypeId} {v : Value} (ht : P.underlying t = some (.slice e)) (h : Value.okWide P w r base t v) : v.cells.toList = [v] := by
 unfold Value.okWide at h
 rw [ht] at h
 simp only [Cell.okWide, ht] at h
 cases v <;> simp_all [Value.cells, Cell.ok]
open Go.RowKit Go.ChangeShapes
def i8S : Shape Int := plainS 1 (fun x cs => cs = [.int .i8 x] ∧ (-128 ≤ x ∧ x ≤ 127)) (by rintro x cs ⟨rfl, _⟩; rfl)
theorem opens_i8 {P : Program} {t : TypeId} (ht : P.underlying t = some (.int .i8)) : Opens P t i8S := by
 intro H enc w base spare held fuel cs x h
 cases fuel with
 | zero => simp [DataW.trod] at h
 | succ n =>
  unfold DataW.trod at h
  rw [ht] at h
  split at h <;> simp_all
  rename_i k2 m e
  obtain ⟨⟨_, hw⟩, -⟩ := h
  subst e
  refine ⟨m, rfl, ?_⟩
  simpa [Lit.wf, IntKind.min, IntKind.max, IntKind.signed, IntKind.bits] using hw
theorem op_i8 : Opens Tryz.prog 29 i8S := opens_i8 Tryz.underlying29
theorem op_wish : Opens Tryz.prog 28 wishS := by
 intro H enc w base spare held fuel cs x h
 have hl : cs.length = 3 := (trod_len Tryz.underlying28 h).trans (by kernel_rfl)
 match cs, hl with
 | [v0, v1, v2], _ =>
  obtain ⟨_, _, f0⟩ := trod_at Tryz.underlying28 h 0 24 0 1 rfl (by kernel_rfl)
  obtain ⟨_, _, f1⟩ := trod_at Tryz.underlying28 h 1 24 1 1 rfl (by kernel_rfl)
  obtain ⟨_, _, f2⟩ := trod_at Tryz.underlying28 h 2 24 2 1 rfl (by kernel_rfl)
  obtain ⟨a0, r0⟩ := op_bytes _ _ _ _ _ _ _ _ _ f0
  obtain ⟨a1, r1⟩ := op_bytes _ _ _ _ _ _ _ _ _ f1
  obtain ⟨a2, r2⟩ := op_bytes _ _ _ _ _ _ _ _ _ f2
  exact ⟨⟨a0, a1, a2⟩, v0, v1, v2, rfl, r0, r1, r2⟩
theorem arg_int {P : Program} {w : World} {r : Reach} {base : Nat} {t : TypeId} {k : IntKind} {v : Value} (ht : P.underlying t = some (.int k)) (h : Value.okWide P w r base t v) : v.cells.toList = [v] := by
 unfold Value.okWide at h
 rw [ht] at h
 simp only [Cell.okWide, ht] at h
 cases v <;> simp_all [Value.cells, Cell.ok]
theorem arg_bool {P : Program} {w : World} {r : Reach} {base : Nat} {t : TypeId} {v : Value} (ht : P.underlying t = some .bool) (h : Value.okWide P w r base t v) : v.cells.toList = [v] := by
 unfold Value.okWide at h
 rw [ht] at h
 simp only [Cell.okWide, ht] at h
 cases v <;> simp_all [Value.cells, Cell.ok]
section
variable {H : Type} {enc : TypeId × Value → H} {P : Program} {w : World} {base : Nat} {spare : Nat → Bool} {held : Bool}
end
end Go.Proofs.YtabadfkikdefeaaGreat
namespace Go.Proofs.YtabadfkikdefeaaGreat
open Go.RowKit Go.WideShapes Go.ChangeShapes
theorem Tryz.own : ownKnob Tryz.prog.godebug = none := by kernel_rfl
theorem Tryz.laid : laidOutB Tryz.prog = true := by kernel_rfl
section
variable {H : Type} {enc : TypeId × Value → H} {P : Program}
theorem trodAll_stays (hl : laidOutB P = true) {W W' : World} (hb : Below W.heap.size W W') {sp : Nat → Bool} : ∀ (ts : List TypeId) (vs : List Value) (ds : List (DataW H)) (ps : List MemPlace), DataW.TrodAll enc P W 0 (fun _ => true) true ts vs ds ps →
  (∀ t ∈ ts, P.readableRec t = true ∧ t < P.types.size) → (∀ x ∈ ps, x.block < W.heap.size) → (∀ x ∈ ps, sp x.block = true) → DataW.TrodAll enc P W' 0 sp true ts vs ds ps
 | [], [], [], _, h, _, _, _ => h
 | t :: ts, v :: vs, d :: ds, ps, h, ht, hlt, hsp => by
  obtain ⟨p, q, h1, h2, rfl⟩ := h
  exact ⟨p, q, WideElems.Trod_stays hl (ht t (List.mem_cons_self ..)).1 (ht t (List.mem_cons_self ..)).2 h1 (fun x hx => hb.same (hlt x (List.mem_append_left _ hx))) (fun x hx => hsp x (List.mem_append_left _ hx)),
   trodAll_stays hl hb ts vs ds q h2 (fun t h => ht t (List.mem_cons_of_mem _ h)) (fun x hx => hlt x (List.mem_append_right _ hx)) (fun x hx => hsp x (List.mem_append_right _ hx)), rfl⟩
 | [], _ :: _, _, _, h, _, _, _ => h.elim
 | [], [], _ :: _, _, h, _, _, _ => h.elim
 | _ :: _, [], _, _, h, _, _, _ => h.elim
 | _ :: _, _ :: _, [], _, h, _, _, _ => h.elim
theorem law_post {f : Func} {s : ChangeSpec} {fresh handsOn again : Bool} {W W' : World} {args : Array Value} {ds gs : List (DataW H)} {before : List MemPlace} {bt : TypeId} (hl : laidOutB P = true)
  (hW : DataW.Whole enc P f.params.toList s.vars false W args.toList ds gs before) (hv : s.vars = []) (hs : s.fn H (ds ++ gs) = { results := [.lit (.bool true)], args := ds }) (hr : f.resultTypes = #[bt]) (hbt : P.underlying bt = some .bool)
  (ht : ∀ t ∈ f.params.toList, P.readableRec t = true ∧ t < P.types.size) (hb : Below W.heap.size W W') : s.post enc P f false fresh handsOn again W args (.bool true) W' := by
 have hlt : ∀ p ∈ before, p.block < W.heap.size := fun p hp => hW.lt p hp
 have hW2 := hW
 obtain ⟨pa, pv, hA, hV, rfl, hz, -⟩ := hW2
 have hpv : pv = [] := by
  rw [hv] at hV
  cases gs with
  | nil => exact hV
  | cons g gs => exact hV.elim
 have hgs : gs = [] := by
  rw [hv] at hV
  cases gs with
  | nil => rfl
  | cons g gs => exact hV.elim
 subst hpv
 have hres : ∀ (b : Nat) (sp : Nat → Bool) (hd : Bool), DataW.TrodAll enc P W' b sp hd f.resultTypes.toList ((Value.bool true).resultList f.resultTypes.size) (s.fn H (ds ++ gs)).results [] := fun b sp hd => by
  rw [hs, hr]
  exact trodAll_mk1 (shut_bool hbt _)
 have hargs : ∀ sp : Nat → Bool, (∀ p ∈ pa ++ [], sp p.block = true) → DataW.TrodAll enc P W' 0 sp true f.params.toList args.toList (s.fn H (ds ++ gs)).args pa := fun sp hsp => by
  rw [hs]
  exact trodAll_stays hl hb _ _ _ _ hA ht (fun x hx => hlt x (List.mem_append_left _ hx)) (fun x hx => hsp x (List.mem_append_left _ hx))
 have hvars : ∀ sp : Nat → Bool, DataW.TrodVars enc P W' sp s.vars (s.fn H (ds ++ gs)).vars [] := fun sp => by
  rw [hs, hv]; rfl
 refine ⟨ds, gs, pa ++ [], [], pa, [], hW, hres _ _ _, hargs _ (fun p hp => by simpa using hlt p hp), hvars _, World.keptBut_mono (fun p hp => ⟨hp, ?_⟩) (hb.frame (· ∈ pa ++ [])), fun _ => ?_⟩
 ·rw [List.append_nil] at hp
  exact Or.inr (.inl hp)
 ·refine ⟨ok_one hr rfl (okWide_bool_mk hbt _), _, _, ([] ++ pa) ++ [], ⟨[] ++ pa, [], trodAll_append (hargs _ (fun _ _ => rfl)) (hres _ _ _), hvars _, rfl, ?_, ?_⟩, ?_⟩
  ·intro b off hp
   have hin : MemPlace.cell b off ∈ pa ++ [] := by simpa using hp
   rw [hb.frozen (hlt _ hin)]
   exact hz b off hin
  ·intro ha; cases ha
  ·intro p hp _
   simpa using hp
end
end Go.Proofs.YtabadfkikdefeaaGreat
