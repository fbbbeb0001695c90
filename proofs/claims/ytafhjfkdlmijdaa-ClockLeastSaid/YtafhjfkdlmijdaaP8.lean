/- Texts of the proof, joined: HaulFits, More, Open, Open2, Law, LeastD. -/
import Derived.BigQuiet
import Derived.Deep.DeepCutAuto
import Derived.Test.YtafhjfkdlmijdaaProg
import Derived.Deep.Slices
import Derived.OpenShut
import Derived.Test.YtafhjfkdlmijdaaRows
import Derived.ProofKit
import Derived.Test.YtafhjfkdlmijdaaCode
set_option linter.all false
namespace Go.Proofs.Ytafhjfkdlmijdaa
open Go.RowKit
theorem tst_addLast (out : List (List StopD)) (s : StopD) : ((addLast out s).map List.length).sum ≤ (out.map List.length).sum + 1 := by
 by_cases h : 0 < out.length
 ·obtain ⟨l, a, rfl⟩ := snoc_of_pos h
  rw [addLast_snoc]
  simp
  omega
 ·obtain rfl := List.eq_nil_of_length_eq_zero (by omega : out.length = 0)
  simp [addLast]
theorem tst_ready (many room : Int) (q : Bool) (st : List (List StopD) × Int) : ((readyQ many room q st).1.map List.length).sum = (st.1.map List.length).sum := by
 unfold readyQ
 split
 ·simp
 ·rfl
theorem tst_dOne (many room : Int) (q : Bool) (s : Nat) : ∀ (f : Nat) (n : Int) (st : List (List StopD) × Int), ((dOne many room q s f n st).1.map List.length).sum ≤ (st.1.map List.length).sum + f
 | 0, _, st => Nat.le_refl _
 | f + 1, n, st => by
  unfold dOne
  split
  ·omega
  ·have h1 := tst_dOne many room q s f (n - min n (readyQ many room q st).2) (addLast (readyQ many room q st).1 ⟨s, min n (readyQ many room q st).2⟩, (readyQ many room q st).2 - min n (readyQ many room q st).2)
   have h2 := tst_addLast (readyQ many room q st).1 ⟨s, min n (readyQ many room q st).2⟩
   rw [tst_ready] at h2
   simp only [] at h1
   omega
theorem tst_dUp {x : InstD} {w : WishD} {lo : List Int} (hl : ∀ s, lo.getD s 0 ≤ 6000) : ∀ s, ((dUp x w lo s).1.map List.length).sum ≤ 6000 * s
 | 0 => by simp [dUp]
 | s + 1 => by
  have ih := tst_dUp (x := x) (w := w) hl s
  have h := tst_dOne x.tmany x.troom (cutQ w s) s (lo.getD s 0).toNat (lo.getD s 0) (dUp x w lo s)
  have := hl s
  show ((dOne x.tmany x.troom (cutQ w s) s (lo.getD s 0).toNat (lo.getD s 0) (dUp x w lo s)).1.map List.length).sum ≤ _
  omega
theorem draft_stops {x : InstD} (w : WishD) (hns : 1 ≤ x.sats.length ∧ x.sats.length ≤ 3) (hnc : 1 ≤ x.custs.length ∧ x.custs.length ≤ 6) (hcl : ∀ c ∈ x.custs, 1 ≤ c.load ∧ c.load ≤ 1000) (htr : 1 ≤ x.troom) : PlanSmall (draftD x w) := by
 have hol : (draftOrd x w).length = x.custs.length := orderUp_len _ _
 have hk := draftUp_ok (x := x) w (os := draftOrd x w) (fun c hc => by have := hcl c hc; omega) (by omega) (orderUp_lt _ _) (draftOrd x w).length (Nat.le_refl _)
 have hf := draft_small w hns hnc hcl htr
 have hlv : ∀ s, (draftLB x w).1.getD s 0 ≤ 6000 := fun s => by
  rw [List.getD_eq_getElem?_getD]
  by_cases hs : s < (draftLB x w).1.length
  ·rw [List.getElem?_eq_getElem hs]
   have := hk.loB _ (List.getElem_mem hs)
   exact Int.le_trans this.2 (by rw [hol]; omega)
  ·rw [List.getElem?_eq_none (by omega)]; simp
 have hd := tst_dUp (x := x) (w := w) hlv (draftLB x w).1.length
 have hll : (draftLB x w).1.length ≤ 3 := by unfold draftLB; rw [hk.loL]; omega
 refine ⟨?_, ?_⟩
 ·have h1 := stopsUp_bd (m := 100) (fun b hb => (hf.bs b hb).2.1) (draftD x w).bikes.length (Nat.le_refl _)
  have h2 := hf.bl
  have h3 : 100 * (draftD x w).bikes.length ≤ 100 * 100 := Nat.mul_le_mul_left _ h2
  omega
 ·unfold tstopsUp
  rw [List.take_length]
  have h3 : 6000 * (draftLB x w).1.length ≤ 6000 * 3 := Nat.mul_le_mul_left _ hll
  show ((dUp x w (draftLB x w).1 (draftLB x w).1.length).1.map List.length).sum ≤ _
  omega
end Go.Proofs.Ytafhjfkdlmijdaa
namespace Go.Proofs.Ytafhjfkdlmijdaa
open Go.RowKit
def addAt (l : List Int) (n : Int) : Int := if l.length = 0 then 0 else l.getD (n.toNat % l.length) 0
theorem sz_i8 : ∀ w, (sizeOf 77).run Try.prog w = .ok 1 w := fun w => by kernel_rfl
set_option maxRecDepth 100000 in
set_option maxHeartbeats 800000 in
theorem more_c {w : World} {gn gs b off c : Nat} {a : Option Addr} {x n : Int} {l : List Int} (R : Row w gn 3 [.int .i64 n]) (hs : w.cell? ⟨gs, 0, none⟩ = some (.slice a l.length c)) (hne : gs ≠ gn) (hbn : b ≠ gn) (ha : 0 < l.length → a = some ⟨b, off, none⟩)
  (hl : ∀ k (h : k < l.length), w.cell? ⟨b, off + k, none⟩ = some (.int .i8 l[k]) ∧ -128 ≤ l[k] ∧ l[k] ≤ 127) (hn : 0 ≤ n ∧ n ≤ 1000000000000) (hx : -10000000000000000 ≤ x ∧ x ≤ 10000000000000000) (hll : l.length ≤ 9223372036854775807) :
  Calls Try.prog 78 #[.int .i64 x, .pointer (some ⟨gn, 0, none⟩), .pointer (some ⟨gs, 0, none⟩)] w fun e w' => e = .returned (.int .i64 (x + addAt l n)) ∧ Below (w.setCell ⟨gn, 0, none⟩ (.int .i64 (n + 1))).heap.size (w.setCell ⟨gn, 0, none⟩ (.int .i64 (n + 1))) w' := by
 have c0 := R.cell (j := 0) (by simp)
 have f0 := R.frozen 0
 simp only [List.getElem_cons_zero] at c0
 have R1 := R.set (j := 0) (by simp) (.int .i64 (n + 1))
 have d0 := R1.cell (j := 0) (by simp)
 simp only [List.set_cons_zero, List.getElem_cons_zero] at d0
 have hs1 : (w.setCell ⟨gn, 0, none⟩ (.int .i64 (n + 1))).cell? ⟨gs, 0, none⟩ = some (.slice a l.length c) := by
  rw [World.cell?_of_block (Below.heap_setCell _ _ _ _ hne)]; exact hs
 have hl1 : ∀ k (h : k < l.length), (w.setCell ⟨gn, 0, none⟩ (.int .i64 (n + 1))).cell? ⟨b, off + k, none⟩ = some (.int .i8 l[k]) := fun k h => by
  rw [World.cell?_of_block (Below.heap_setCell _ _ _ _ hbn)]; exact (hl k h).1
 have HL := hid hl
 have HA := hid ha
 clear hl ha R R1 hs
 go_enter Try.func78, Try.ntmps78
 go_upto_region 2 with fail
 generalize hw1 : w.setCell ⟨gn, 0, none⟩ (.int .i64 (n + 1)) = w1 at d0 hs1 hl1 ⊢
 have HW := hid hw1
 clear hw1
 clear c0 f0
 by_cases hz : l.length = 0
 ·have HZ := hid hz
  have hb : decide ((l.length : Int) = 0) = true := decide_eq_true (by omega)
  go_wp2
  go_ret
  exact ⟨ret_int (by unfold addAt; rw [if_pos HZ.out, Int.add_zero]), by rw [HW.out]; exact Below.refl _ _⟩
 ·have hb : decide ((l.length : Int) = 0) = false := decide_eq_false (by omega)
  obtain ⟨k, hk⟩ : ∃ k, k = n.toNat % l.length := ⟨_, rfl⟩
  have hkl : k < l.length := by rw [hk]; exact Nat.mod_lt _ (by omega)
  have hrem : n % (l.length : Int) = (k : Int) := by
   obtain ⟨m, rfl⟩ := Int.eq_ofNat_of_zero_le hn.1
   rw [hk]; rfl
  have he := HA.out (by omega)
  subst he
  have ia : ∀ w, (Instr.indexAt 92 (.slice (some ⟨b, off, none⟩) l.length c) (.int .i64 (n % (l.length : Int)))).run Try.prog w = .ok (.pointer (some ⟨b, off + k, none⟩)) w := fun w => by rw [hrem]; exact idx_at1 (c := c) Try.underlying92 sz_i8 (a := some ⟨b, off, none⟩) rfl hkl w
  have hc := hl1 k hkl
  have hbd := (HL.out k hkl).2
  have HADD := hid (show addAt l n = l[k] from by unfold addAt; rw [if_neg hz, ← hk, List.getD_eq_getElem?_getD, List.getElem?_eq_getElem hkl]; rfl)
  generalize l[k] = q at hc hbd HADD
  clear hrem hk
  go_wp2_with fail
  have zd : ∀ e : At (Old w1), _ := fun e => e.cell d0
  have zs : ∀ e : At (Old w1), _ := fun e => e.cell hs1
  have zc : ∀ e : At (Old w1), _ := fun e => e.cell hc
  refine wp_region_mix (Old w1) [] [([0, 1, 2, 3, 4, 5, 6, 7, 8, 9, 10, 11, 12], 13, false)] (by kernel_rfl) (by kernel_rfl) (fun _ _ d _ _ h => by cases d <;> exact h) (Old.drew _) ?_
  simp only [mixOf, List.map_cons, List.map_nil, Array.getD_eq_getD_getElem?, List.getElem?_toArray, List.getElem?_cons_succ, List.getElem?_cons_zero, Option.getD_some, wpMix]
  repeat (go_big_quiet_step (fail))
  refine wpQuiet_nil ?_
  go_wp2_with fail
  refine ⟨Old.drew _, ?_⟩
  go_wp2
  go_ret
  exact ⟨ret_int (by rw [HADD.out]), by rw [HW.out]; exact Old.drew _⟩
end Go.Proofs.Ytafhjfkdlmijdaa
namespace Go.Proofs.Ytafhjfkdlmijdaa
open Go.RowKit
def Opens {α : Type} (P : Program) (t : TypeId) (S : Shape α) : Prop :=
 ∀ (H : Type) (enc : TypeId × Value → H) (w : World) (base : Nat) (spare : Nat → Bool) (held : Bool) (fuel : Nat) (cs : List Value) (x : DataW H × List MemPlace), DataW.trod enc P w base spare held fuel t cs = some x → ∃ y, S.rep w (fun _ => True) y cs
theorem opens_u8 {P : Program} {t : TypeId} (ht : P.underlying t = some (.int .u8)) : Opens P t u8S := by
 intro H enc w base spare held fuel cs x h
 cases fuel with
 | zero => simp [DataW.trod] at h
 | succ n =>
  unfold DataW.trod at h
  rw [ht] at h
  split at h <;> simp_all
  rename_i k2 m e
  obtain ⟨⟨_, hw⟩, -⟩ := h
  subst e
  refine ⟨m, rfl, ?_⟩
  simpa [Lit.wf, IntKind.min, IntKind.max, IntKind.signed, IntKind.bits, wf64] using hw
def boolS : Shape Bool := plainS 1 (fun x cs => cs = [.bool x]) (by rintro x cs rfl; rfl)
theorem opens_bool {P : Program} {t : TypeId} (ht : P.underlying t = some .bool) : Opens P t boolS := by
 intro H enc w base spare held fuel cs x h
 cases fuel with
 | zero => simp [DataW.trod] at h
 | succ n =>
  unfold DataW.trod at h
  rw [ht] at h
  split at h
  all_goals first | exact ⟨_, rfl⟩ | simp_all
theorem list_of {α : Type} {p : Nat → α → Prop} : ∀ (n : Nat), (∀ i, i < n → ∃ x, p i x) → ∃ xs : List α, xs.length = n ∧ ∀ i (h : i < xs.length), p i xs[i]
 | 0, _ => ⟨[], rfl, fun _ h => absurd h (Nat.not_lt_zero _)⟩
 | n + 1, h => by
  obtain ⟨xs, hl, hx⟩ := list_of n fun i hi => h i (by omega)
  obtain ⟨x, hp⟩ := h n (by omega)
  refine ⟨xs ++ [x], by simp [hl], fun i hi => ?_⟩
  by_cases hlt : i < xs.length
  ·rw [List.getElem_append_left hlt]; exact hx i hlt
  ·have : i = n := by simp at hi; omega
   subst this
   rw [List.getElem_append_right (by omega)]
   simpa [hl] using hp
theorem spot_none {w : World} {a : Addr} {v : Value} (h : w.cell? a = some v) : a.spot = none := by
 unfold World.cell? at h
 split at h
 ·split at h
  ·cases h
  ·rename_i hs; simpa using hs
 ·cases h
theorem opens_slice {α : Type} {P : Program} {t e : TypeId} {S : Shape α} {h0 : 0 < S.sz} (ht : P.underlying t = some (.slice e)) (hc : P.cellsOf e = S.sz) (he : Opens P e S) : Opens P t (sliceS S h0) := by
 intro H enc w base spare held fuel cs x h
 rcases Deep.open_slice ht h with ⟨rfl, -⟩ | ⟨a, len, cap, m, n, D, Pl, rfl, -, hl, hm, hmm, -, hx⟩
 ·exact ⟨[], none, 0, 0, 0, rfl, Nat.le_refl _, Nat.zero_le _, fun h => absurd h (Nat.not_lt_zero _), fun i h => absurd h (Nat.not_lt_zero _)⟩
 ·have hlm : len ≤ m := by rw [hmm]; split <;> omega
  obtain ⟨xs, hxl, hxs⟩ := list_of (p := fun i y => ∃ es, S.rep w (fun _ => True) y es ∧ ∀ j, j < S.sz → w.cell? ((a.add (i * S.sz)).add j) = es[j]?) len (fun i hi => by
   obtain ⟨cs', h1, h2⟩ := hx i (by omega)
   obtain ⟨y, hy⟩ := he _ _ _ _ _ _ _ _ _ h2
   rw [hc] at h1
   obtain ⟨_, _, h3⟩ := World.cells?_some h1
   exact ⟨y, cs', hy, h3⟩)
  obtain ⟨b, off, spot⟩ := a
  subst hxl
  have hsp : 0 < xs.length → spot = none := fun hpos => by
   obtain ⟨es, hr, hce⟩ := hxs 0 hpos
   have hle := S.len hr
   have := hce 0 h0
   rw [List.getElem?_eq_getElem (by omega), Nat.zero_mul] at this
   simpa [Addr.add] using spot_none this
  refine ⟨xs, some ⟨b, off, spot⟩, b, off, cap, rfl, hl, hm, fun hpos => ⟨by rw [hsp hpos], trivial⟩, fun i hi => ?_⟩
  obtain rfl := hsp (by omega)
  obtain ⟨es, hr, hce⟩ := hxs i hi
  refine ⟨es, hr, fun j hj => ?_⟩
  rw [← hce j hj]
  congr 1
  by_cases e1 : i * S.sz = 0 <;> by_cases e2 : j = 0 <;> simp [Addr.add, e1, e2]
theorem trod_at {P : Program} {t : TypeId} {fs : Array Field} {H : Type} {enc : TypeId × Value → H} {w : World} {base : Nat} {spare : Nat → Bool} {held : Bool} {fuel : Nat} {cs : List Value} {x : DataW H × List MemPlace}
  (ht : P.underlying t = some (.struct fs)) (h : DataW.trod enc P w base spare held fuel t cs = some x) (i ft o k : Nat) (hf : (fs[i]?).map (fun f => (f.type, f.offset)) = some (ft, o)) (hk : P.cellsOf ft = k) :
  ∃ n y, DataW.trod enc P w base spare held n ft ((cs.drop o).take k) = some y := by
 obtain ⟨xs, n, -, -, -, hl, hx⟩ := DataW.trod_struct ht h
 obtain ⟨f, hf1, hf2⟩ := Option.map_eq_some_iff.1 hf
 simp only [Prod.mk.injEq] at hf2
 obtain ⟨rfl, rfl⟩ := hf2
 have h1 := hx i f hf1
 have hi : i < xs.length := by
  rw [hl]
  exact (Array.getElem?_eq_some_iff.1 hf1).1
 rw [List.getElem?_eq_getElem hi, hk] at h1
 exact ⟨n, _, h1⟩
theorem trod_len {P : Program} {t : TypeId} {fs : Array Field} {H : Type} {enc : TypeId × Value → H} {w : World} {base : Nat} {spare : Nat → Bool} {held : Bool} {fuel : Nat} {cs : List Value} {x : DataW H × List MemPlace}
  (ht : P.underlying t = some (.struct fs)) (h : DataW.trod enc P w base spare held fuel t cs = some x) : cs.length = P.cellsOf t := by
 obtain ⟨xs, n, -, -, hl, -⟩ := DataW.trod_struct ht h
 exact hl
theorem co_u8 : Try.prog.cellsOf 5 = 1 := by kernel_rfl
theorem co_bool : Try.prog.cellsOf 4 = 1 := by kernel_rfl
theorem op_u8 : Opens Try.prog 5 u8S := opens_u8 Try.underlying5
theorem op_bool : Opens Try.prog 4 boolS := opens_bool Try.underlying4
theorem op_bytes : Opens Try.prog 24 bytesS := opens_slice (S := u8S) Try.underlying24 co_u8 op_u8
theorem op_lsat : Opens Try.prog 103 lsatS := by
 intro H enc w base spare held fuel cs x h
 have hl : cs.length = 2 := (trod_len Try.underlying103 h).trans (by kernel_rfl)
 match cs, hl with
 | [v0, v1], _ =>
  obtain ⟨n0, y0, f0⟩ := trod_at Try.underlying103 h 0 5 0 1 rfl co_u8
  obtain ⟨n1, y1, f1⟩ := trod_at Try.underlying103 h 1 5 1 1 rfl co_u8
  obtain ⟨a0, e0, w0⟩ := op_u8 _ _ _ _ _ _ _ _ _ f0
  obtain ⟨a1, e1, w1⟩ := op_u8 _ _ _ _ _ _ _ _ _ f1
  simp at e0 e1
  subst e0; subst e1
  exact ⟨⟨a0, a1⟩, rfl, w0, w1⟩
theorem op_lwho : Opens Try.prog 110 lwhoS := by
 intro H enc w base spare held fuel cs x h
 have hl : cs.length = 4 := (trod_len Try.underlying110 h).trans (by kernel_rfl)
 match cs, hl with
 | [v0, v1, v2, v3], _ =>
  obtain ⟨n0, y0, f0⟩ := trod_at Try.underlying110 h 0 5 0 1 rfl co_u8
  obtain ⟨n1, y1, f1⟩ := trod_at Try.underlying110 h 1 5 1 1 rfl co_u8
  obtain ⟨n2, y2, f2⟩ := trod_at Try.underlying110 h 2 5 2 1 rfl co_u8
  obtain ⟨n3, y3, f3⟩ := trod_at Try.underlying110 h 3 5 3 1 rfl co_u8
  obtain ⟨a0, e0, w0⟩ := op_u8 _ _ _ _ _ _ _ _ _ f0
  obtain ⟨a1, e1, w1⟩ := op_u8 _ _ _ _ _ _ _ _ _ f1
  obtain ⟨a2, e2, w2⟩ := op_u8 _ _ _ _ _ _ _ _ _ f2
  obtain ⟨a3, e3, w3⟩ := op_u8 _ _ _ _ _ _ _ _ _ f3
  simp at e0 e1 e2 e3
  subst e0; subst e1; subst e2; subst e3
  exact ⟨⟨a0, a1, a2, a3⟩, rfl, w0, w1, w2, w3⟩
theorem op_lsats : Opens Try.prog 22 lsatsS := opens_slice (S := lsatS) Try.underlying22 (by kernel_rfl) op_lsat
theorem op_lwhos : Opens Try.prog 23 lwhosS := opens_slice (S := lwhoS) Try.underlying23 (by kernel_rfl) op_lwho
theorem op_small : Opens Try.prog 26 smallS := by
 intro H enc w base spare held fuel cs x h
 have hl : cs.length = 11 := (trod_len Try.underlying26 h).trans (by kernel_rfl)
 match cs, hl with
 | [v0, v1, v2, v3, v4, v5, v6, v7, v8, v9, v10], _ =>
  obtain ⟨_, _, f0⟩ := trod_at Try.underlying26 h 0 5 0 1 rfl co_u8
  obtain ⟨_, _, f1⟩ := trod_at Try.underlying26 h 1 5 1 1 rfl co_u8
  obtain ⟨_, _, f2⟩ := trod_at Try.underlying26 h 2 5 2 1 rfl co_u8
  obtain ⟨_, _, f3⟩ := trod_at Try.underlying26 h 3 5 3 1 rfl co_u8
  obtain ⟨_, _, f4⟩ := trod_at Try.underlying26 h 4 5 4 1 rfl co_u8
  obtain ⟨_, _, f5⟩ := trod_at Try.underlying26 h 5 22 5 1 rfl (by kernel_rfl)
  obtain ⟨_, _, f6⟩ := trod_at Try.underlying26 h 6 23 6 1 rfl (by kernel_rfl)
  obtain ⟨_, _, f7⟩ := trod_at Try.underlying26 h 7 24 7 1 rfl (by kernel_rfl)
  obtain ⟨_, _, f8⟩ := trod_at Try.underlying26 h 8 24 8 1 rfl (by kernel_rfl)
  obtain ⟨_, _, f9⟩ := trod_at Try.underlying26 h 9 4 9 1 rfl co_bool
  obtain ⟨_, _, f10⟩ := trod_at Try.underlying26 h 10 4 10 1 rfl co_bool
  obtain ⟨a0, e0, w0⟩ := op_u8 _ _ _ _ _ _ _ _ _ f0
  obtain ⟨a1, e1, w1⟩ := op_u8 _ _ _ _ _ _ _ _ _ f1
  obtain ⟨a2, e2, w2⟩ := op_u8 _ _ _ _ _ _ _ _ _ f2
  obtain ⟨a3, e3, w3⟩ := op_u8 _ _ _ _ _ _ _ _ _ f3
  obtain ⟨a4, e4, w4⟩ := op_u8 _ _ _ _ _ _ _ _ _ f4
  obtain ⟨a5, r5⟩ := op_lsats _ _ _ _ _ _ _ _ _ f5
  obtain ⟨a6, r6⟩ := op_lwhos _ _ _ _ _ _ _ _ _ f6
  obtain ⟨a7, r7⟩ := op_bytes _ _ _ _ _ _ _ _ _ f7
  obtain ⟨a8, r8⟩ := op_bytes _ _ _ _ _ _ _ _ _ f8
  obtain ⟨a9, e9⟩ := op_bool _ _ _ _ _ _ _ _ _ f9
  obtain ⟨a10, e10⟩ := op_bool _ _ _ _ _ _ _ _ _ f10
  simp [boolS, plainS] at e0 e1 e2 e3 e4 e9 e10
  subst e0; subst e1; subst e2; subst e3; subst e4; subst e9; subst e10
  exact ⟨⟨a0, a1, a2, a3, a4, a5, a6, a7, a8, a9, a10⟩, v5, v6, v7, v8, rfl, ⟨w0, w1, w2, w3, w4⟩, r5, r6, r7, r8⟩
theorem arg_struct {P : Program} {w : World} {r : Reach} {base : Nat} {t : TypeId} {fs : Array Field} {v : Value} (ht : P.underlying t = some (.struct fs)) (h : Value.okWide P w r base t v) : ∃ cs : List Value, v = .agg cs.toArray ∧ v.cells.toList = cs := by
 unfold Value.okWide at h
 rw [ht] at h
 obtain ⟨cs, rfl, -⟩ := h
 exact ⟨cs.toList, by simp, by simp [Value.cells]⟩
end Go.Proofs.Ytafhjfkdlmijdaa
namespace Go.Proofs.Ytafhjfkdlmijdaa
open Go.RowKit Go.ChangeShapes
def i8S : Shape Int := plainS 1 (fun x cs => cs = [.int .i8 x] ∧ (-128 ≤ x ∧ x ≤ 127)) (by rintro x cs ⟨rfl, _⟩; rfl)
theorem opens_i8 {P : Program} {t : TypeId} (ht : P.underlying t = some (.int .i8)) : Opens P t i8S := by
 intro H enc w base spare held fuel cs x h
 cases fuel with
 | zero => simp [DataW.trod] at h
 | succ n =>
  unfold DataW.trod at h
  rw [ht] at h
  split at h <;> simp_all
  rename_i k2 m e
  obtain ⟨⟨_, hw⟩, -⟩ := h
  subst e
  refine ⟨m, rfl, ?_⟩
  simpa [Lit.wf, IntKind.min, IntKind.max, IntKind.signed, IntKind.bits] using hw
theorem op_i8 : Opens Try.prog 77 i8S := opens_i8 Try.underlying77
theorem op_wish : Opens Try.prog 72 wishS := by
 intro H enc w base spare held fuel cs x h
 have hl : cs.length = 3 := (trod_len Try.underlying72 h).trans (by kernel_rfl)
 match cs, hl with
 | [v0, v1, v2], _ =>
  obtain ⟨_, _, f0⟩ := trod_at Try.underlying72 h 0 24 0 1 rfl (by kernel_rfl)
  obtain ⟨_, _, f1⟩ := trod_at Try.underlying72 h 1 24 1 1 rfl (by kernel_rfl)
  obtain ⟨_, _, f2⟩ := trod_at Try.underlying72 h 2 24 2 1 rfl (by kernel_rfl)
  obtain ⟨a0, r0⟩ := op_bytes _ _ _ _ _ _ _ _ _ f0
  obtain ⟨a1, r1⟩ := op_bytes _ _ _ _ _ _ _ _ _ f1
  obtain ⟨a2, r2⟩ := op_bytes _ _ _ _ _ _ _ _ _ f2
  exact ⟨⟨a0, a1, a2⟩, v0, v1, v2, rfl, r0, r1, r2⟩
section
variable {H : Type} {enc : TypeId × Value → H} {P : Program} {w : World} {base : Nat} {spare : Nat → Bool} {held : Bool}
end
end Go.Proofs.Ytafhjfkdlmijdaa
namespace Go.Proofs.Ytafhjfkdlmijdaa
open Go.RowKit Go.WideShapes Go.ChangeShapes
theorem Try.own : ownKnob Try.prog.godebug = none := by kernel_rfl
theorem Try.laid : laidOutB Try.prog = true := by kernel_rfl
section
variable {H : Type} {enc : TypeId × Value → H} {P : Program}
theorem trodAll_stays (hl : laidOutB P = true) {W W' : World} (hb : Below W.heap.size W W') {sp : Nat → Bool} : ∀ (ts : List TypeId) (vs : List Value) (ds : List (DataW H)) (ps : List MemPlace), DataW.TrodAll enc P W 0 (fun _ => true) true ts vs ds ps →
  (∀ t ∈ ts, P.readableRec t = true ∧ t < P.types.size) → (∀ x ∈ ps, x.block < W.heap.size) → (∀ x ∈ ps, sp x.block = true) → DataW.TrodAll enc P W' 0 sp true ts vs ds ps
 | [], [], [], _, h, _, _, _ => h
 | t :: ts, v :: vs, d :: ds, ps, h, ht, hlt, hsp => by
  obtain ⟨p, q, h1, h2, rfl⟩ := h
  exact ⟨p, q, WideElems.Trod_stays hl (ht t (List.mem_cons_self ..)).1 (ht t (List.mem_cons_self ..)).2 h1 (fun x hx => hb.same (hlt x (List.mem_append_left _ hx))) (fun x hx => hsp x (List.mem_append_left _ hx)),
   trodAll_stays hl hb ts vs ds q h2 (fun t h => ht t (List.mem_cons_of_mem _ h)) (fun x hx => hlt x (List.mem_append_right _ hx)) (fun x hx => hsp x (List.mem_append_right _ hx)), rfl⟩
 | [], _ :: _, _, _, h, _, _, _ => h.elim
 | [], [], _ :: _, _, h, _, _, _ => h.elim
 | _ :: _, [], _, _, h, _, _, _ => h.elim
 | _ :: _, _ :: _, [], _, h, _, _, _ => h.elim
theorem law_post {f : Func} {s : ChangeSpec} {fresh handsOn again : Bool} {W W' : World} {args : Array Value} {ds gs : List (DataW H)} {before : List MemPlace} {bt : TypeId} (hl : laidOutB P = true)
  (hW : DataW.Whole enc P f.params.toList s.vars false W args.toList ds gs before) (hv : s.vars = []) (hs : s.fn H (ds ++ gs) = { results := [.lit (.bool true)], args := ds }) (hr : f.resultTypes = #[bt]) (hbt : P.underlying bt = some .bool)
  (ht : ∀ t ∈ f.params.toList, P.readableRec t = true ∧ t < P.types.size) (hb : Below W.heap.size W W') : s.post enc P f false fresh handsOn again W args (.bool true) W' := by
 have hlt : ∀ p ∈ before, p.block < W.heap.size := fun p hp => hW.lt p hp
 have hW2 := hW
 obtain ⟨pa, pv, hA, hV, rfl, hz, -⟩ := hW2
 have hpv : pv = [] := by
  rw [hv] at hV
  cases gs with
  | nil => exact hV
  | cons g gs => exact hV.elim
 have hgs : gs = [] := by
  rw [hv] at hV
  cases gs with
  | nil => rfl
  | cons g gs => exact hV.elim
 subst hpv
 have hres : ∀ (b : Nat) (sp : Nat → Bool) (hd : Bool), DataW.TrodAll enc P W' b sp hd f.resultTypes.toList ((Value.bool true).resultList f.resultTypes.size) (s.fn H (ds ++ gs)).results [] := fun b sp hd => by
  rw [hs, hr]
  exact trodAll_mk1 (shut_bool hbt _)
 have hargs : ∀ sp : Nat → Bool, (∀ p ∈ pa ++ [], sp p.block = true) → DataW.TrodAll enc P W' 0 sp true f.params.toList args.toList (s.fn H (ds ++ gs)).args pa := fun sp hsp => by
  rw [hs]
  exact trodAll_stays hl hb _ _ _ _ hA ht (fun x hx => hlt x (List.mem_append_left _ hx)) (fun x hx => hsp x (List.mem_append_left _ hx))
 have hvars : ∀ sp : Nat → Bool, DataW.TrodVars enc P W' sp s.vars (s.fn H (ds ++ gs)).vars [] := fun sp => by
  rw [hs, hv]; rfl
 refine ⟨ds, gs, pa ++ [], [], pa, [], hW, hres _ _ _, hargs _ (fun p hp => by simpa using hlt p hp), hvars _, World.keptBut_mono (fun p hp => ⟨hp, ?_⟩) (hb.frame (· ∈ pa ++ [])), fun _ => ?_⟩
 ·rw [List.append_nil] at hp
  exact Or.inr (.inl hp)
 ·refine ⟨ok_one hr rfl (okWide_bool_mk hbt _), _, _, ([] ++ pa) ++ [], ⟨[] ++ pa, [], trodAll_append (hargs _ (fun _ _ => rfl)) (hres _ _ _), hvars _, rfl, ?_, ?_⟩, ?_⟩
  ·intro b off hp
   have hin : MemPlace.cell b off ∈ pa ++ [] := by simpa using hp
   rw [hb.frozen (hlt _ hin)]
   exact hz b off hin
  ·intro ha; cases ha
  ·intro p hp _
   simpa using hp
end
end Go.Proofs.Ytafhjfkdlmijdaa
namespace Go.Proofs.Ytafhjfkdlmijdaa
open Go.RowKit
def LeL (a b : List Int) : Prop := a.length = b.length ∧ ∀ i, a.getD i 0 ≤ b.getD i 0
theorem LeL.refl (a : List Int) : LeL a a := ⟨rfl, fun _ => Int.le_refl _⟩
theorem getD_set0 (l : List Int) (k i : Nat) (v : Int) : (l.set k v).getD i 0 = if k = i ∧ i < l.length then v else l.getD i 0 := by
 simp only [List.getD_eq_getElem?_getD, List.getElem?_set]
 by_cases h : k = i
 ·subst h
  by_cases h2 : k < l.length
  ·simp [h2]
  ·simp [h2, List.getElem?_eq_none (Nat.le_of_not_lt h2)]
 ·simp [h]
theorem LeL.set {a b : List Int} (h : LeL a b) (k : Nat) {u v : Int} (hu : u ≤ v) : LeL (a.set k (max (a.getD k 0) u)) (b.set k (max (b.getD k 0) v)) := by
 refine ⟨by simp [h.1], fun i => ?_⟩
 rw [getD_set0, getD_set0, h.1]
 have := h.2 i; have := h.2 k
 split <;> omega
def tkN (x : InstD) (rd : List Int) (t : List StopD) (j : Nat) : SnT := (t.take j).foldl (soonStop x) ⟨0, 0, rd, []⟩
theorem tkN_succ (x : InstD) (rd : List Int) {t : List StopD} {j : Nat} (h : j < t.length) : tkN x rd t (j + 1) = soonStop x (tkN x rd t j) (t.getD j ⟨0, 0⟩) := by
 unfold tkN
 rw [List.take_succ_eq_append_getElem h, List.foldl_append, List.getD_eq_getElem?_getD, List.getElem?_eq_getElem h]
 rfl
theorem tkN_len (x : InstD) (rd : List Int) (t : List StopD) : ∀ j, j ≤ t.length → (tkN x rd t j).l.length = j
 | 0, _ => rfl
 | j + 1, h => by rw [tkN_succ x rd h]; simp [soonStop, tkN_len x rd t j (by omega)]
theorem tkN_at (x : InstD) (rd : List Int) (t : List StopD) : ∀ j, j ≤ t.length → ∀ i, i < j → (tkN x rd t j).l.getD i 0 = (tkN x rd t (i + 1)).now
 | 0, _, i, h => by omega
 | j + 1, h, i, hi => by
  have hl := tkN_len x rd t j (by omega)
  rw [tkN_succ x rd h]
  by_cases e : i = j
  ·subst e
   rw [tkN_succ x rd h]
   simp [soonStop, List.getD_eq_getElem?_getD, List.getElem?_append_right (Nat.le_of_eq hl), hl]
  ·have ih := tkN_at x rd t j (by omega) i (by omega)
   simp only [soonStop, List.getD_eq_getElem?_getD] at ih ⊢
   rw [List.getElem?_append_left (by omega)]
   exact ih
theorem truck_least {x : InstD} {t : List StopD} {l rd rd' : List Int} (hr : LeL rd' rd) : ∀ j, j ≤ t.length → ∀ st, truckUp x t l rd j = some st →
  (tkN x rd' t j).now ≤ st.now ∧ (tkN x rd' t j).node = st.node ∧ LeL (tkN x rd' t j).ready st.ready ∧ ∀ i, i < j → (tkN x rd' t (i + 1)).now ≤ l.getD i 0 ∧ l.getD i 0 ≤ x.fin
 | 0, _, st, h => by cases h; exact ⟨Int.le_refl _, rfl, hr, fun i hi => by omega⟩
 | j + 1, hj, st, h => by
  simp only [truckUp] at h
  cases hq : truckUp x t l rd j with
  | none => rw [hq] at h; cases h
  | some st0 =>
   rw [hq] at h
   simp only [Option.bind_some, tkStep] at h
   split at h
   ·rename_i hb
    unfold betw at hb
    simp only [Bool.and_eq_true, decide_eq_true_eq] at hb
    obtain ⟨h1, h2, h3, h4⟩ := truck_least hr j (by omega) st0 hq
    cases h
    have e := tkN_succ x rd' (show j < t.length by omega)
    have hn : (tkN x rd' t (j + 1)).now ≤ l.getD j 0 := by rw [e]; simp only [soonStop, h2]; omega
    refine ⟨hn, by rw [e]; rfl, ?_, fun i hi => ?_⟩
    ·rw [e]
     simp only [soonStop, h2]
     exact h3.set _ (by omega)
    ·by_cases ei : i = j
     ·subst ei; exact ⟨hn, hb.2⟩
     ·exact h4 i (by omega)
   ·cases h
theorem tkStep_of {x : InstD} {st : TkS} {s : StopD} {v : Int} (h1 : st.now + timeAt x st.node (1 + s.sat) ≤ v) (h2 : v ≤ x.fin) : tkStep x st s v = some ⟨v, 1 + s.sat, st.ready.set s.sat.toNat (max (st.ready.getD s.sat.toNat 0) (v + holdOf x s.sat))⟩ := by
 unfold tkStep betw
 rw [if_pos (by rw [decide_eq_true h1, decide_eq_true h2]; rfl)]
theorem bkStep_of {x : InstD} {st : BkS} {c v : Int} (h1 : max (custD x c).opn (st.now + timeAt x st.node (1 + x.sats.length + c)) ≤ v) (h2 : v ≤ min (custD x c).cls x.fin) : bkStep x st c v = some ⟨v + (custD x c).stay, 1 + x.sats.length + c⟩ := by
 unfold bkStep betw
 rw [if_pos (by rw [decide_eq_true h1, decide_eq_true h2]; rfl)]
theorem truck_soon {x : InstD} {t : List StopD} {rd : List Int} (h : ∀ i, i < t.length → (tkN x rd t (i + 1)).now ≤ x.fin) : ∀ j, j ≤ t.length → truckUp x t (tkN x rd t t.length).l rd j = some ⟨(tkN x rd t j).now, (tkN x rd t j).node, (tkN x rd t j).ready⟩
 | 0, _ => rfl
 | j + 1, hj => by
  simp only [truckUp, truck_soon h j (by omega), Option.bind_some]
  rw [tkN_at x rd t t.length (Nat.le_refl _) j hj]
  have e := tkN_succ x rd (show j < t.length from hj)
  have hf := h j hj
  rw [e] at hf ⊢
  exact tkStep_of (Int.le_refl _) hf
theorem foldE (x : InstD) (A : SnA) (t : List StopD) : soonTruckE x A t = tkN x A.ready t t.length := by
 unfold soonTruckE tkN; rw [List.take_length]
theorem truckC_least {x : InstD} {t : List StopD} {l rd rd' r : List Int} (hr : LeL rd' rd) (h : truckC x t l rd = some r) :
  LeL (tkN x rd' t t.length).ready r ∧ (∀ i, i < t.length → (tkN x rd' t t.length).l.getD i 0 ≤ l.getD i 0) ∧ truckC x t (tkN x rd' t t.length).l rd' = some (tkN x rd' t t.length).ready := by
 unfold truckC at h ⊢
 cases hq : truckUp x t l rd t.length with
 | none => rw [hq] at h; cases h
 | some st =>
  rw [hq] at h
  simp only [Option.bind_some] at h
  split at h
  ·rename_i hb
   cases h
   obtain ⟨h1, h2, h3, h4⟩ := truck_least hr t.length (Nat.le_refl _) st hq
   refine ⟨h3, fun i hi => ?_, ?_⟩
   ·rw [tkN_at x rd' t t.length (Nat.le_refl _) i hi]; exact (h4 i hi).1
   ·rw [truck_soon (fun i hi => by have := h4 i hi; omega) t.length (Nat.le_refl _)]
    simp only [Option.bind_some]
    rw [if_pos (by rw [h2]; omega)]
  ·cases h
def trN (x : InstD) (p : PlanD) (k : Nat) : SnA := soonTrucks x (p.trucks.take k)
theorem trN_succ (x : InstD) {p : PlanD} {k : Nat} (h : k < p.trucks.length) : trN x p (k + 1) = soonTruck x (trN x p k) (p.trucks.getD k []) := by
 unfold trN soonTrucks
 rw [List.take_succ_eq_append_getElem h, List.foldl_append, List.getD_eq_getElem?_getD, List.getElem?_eq_getElem h]
 rfl
theorem trN_len (x : InstD) (p : PlanD) : ∀ k, k ≤ p.trucks.length → (trN x p k).ts.length = k
 | 0, _ => rfl
 | k + 1, h => by rw [trN_succ x h]; simp [soonTruck, trN_len x p k (by omega)]
theorem trN_at (x : InstD) (p : PlanD) : ∀ k, k ≤ p.trucks.length → ∀ i, i < k → (trN x p k).ts.getD i [] = (tkN x (trN x p i).ready (p.trucks.getD i []) (p.trucks.getD i []).length).l
 | 0, _, i, h => by omega
 | k + 1, h, i, hi => by
  have hl := trN_len x p k (by omega)
  rw [trN_succ x h]
  by_cases e : i = k
  ·subst e
   rw [← foldE]
   simp [soonTruck, List.getD_eq_getElem?_getD, List.getElem?_append_right (Nat.le_of_eq hl), hl]
  ·have ih := trN_at x p k (by omega) i (by omega)
   simp only [soonTruck, List.getD_eq_getElem?_getD] at ih ⊢
   rw [List.getElem?_append_left (by omega)]
   exact ih
theorem soon_at (x : InstD) (p : PlanD) {i : Nat} (h : i < p.trucks.length) : (soonD x p).trucks.getD i [] = (tkN x (trN x p i).ready (p.trucks.getD i []) (p.trucks.getD i []).length).l := by
 rw [← trN_at x p p.trucks.length (Nat.le_refl _) i h]
 show (soonTrucks x p.trucks).ts.getD i [] = _
 unfold trN
 rw [List.take_length]
theorem trucks_least {x : InstD} {p : PlanD} {t : TimesD} : ∀ k, k ≤ p.trucks.length → ∀ r, trucksUp x p t k = some r →
  LeL (trN x p k).ready r ∧ (∀ i, i < k → ∀ j, j < (p.trucks.getD i []).length → ((soonD x p).trucks.getD i []).getD j 0 ≤ (t.trucks.getD i []).getD j 0) ∧ trucksUp x p (soonD x p) k = some (trN x p k).ready
 | 0, _, r, h => by cases h; exact ⟨LeL.refl _, fun i hi => by omega, rfl⟩
 | k + 1, hk, r, h => by
  simp only [trucksUp] at h ⊢
  cases hq : trucksUp x p t k with
  | none => rw [hq] at h; cases h
  | some r0 =>
   rw [hq] at h
   simp only [Option.bind_some] at h
   obtain ⟨h1, h2, h3⟩ := trucks_least k (by omega) r0 hq
   obtain ⟨g1, g2, g3⟩ := truckC_least h1 h
   have e : (trN x p (k + 1)).ready = (tkN x (trN x p k).ready (p.trucks.getD k []) (p.trucks.getD k []).length).ready := by
    rw [trN_succ x hk, ← foldE]; rfl
   rw [e, h3]
   simp only [Option.bind_some]
   rw [soon_at x p hk]
   refine ⟨g1, fun i hi j hj => ?_, g3⟩
   by_cases ei : i = k
   ·subst ei; rw [soon_at x p hk]; exact g2 j hj
   ·exact h2 i (by omega) j hj
def bkN (x : InstD) (rd : List Int) (b : BikeD) (j : Nat) : SnB := (b.stops.take j).foldl (soonCust x) ⟨rd.getD b.sat.toNat 0, 1 + b.sat, []⟩
def bgN (x : InstD) (rd : List Int) (b : BikeD) (j : Nat) : Int := max ((bkN x rd b j).now + timeAt x (bkN x rd b j).node (1 + x.sats.length + b.stops.getD j 0)) (custD x (b.stops.getD j 0)).opn
theorem bkN_succ (x : InstD) (rd : List Int) {b : BikeD} {j : Nat} (h : j < b.stops.length) : bkN x rd b (j + 1) = ⟨bgN x rd b j + (custD x (b.stops.getD j 0)).stay, 1 + x.sats.length + b.stops.getD j 0, (bkN x rd b j).starts ++ [bgN x rd b j]⟩ := by
 have e : b.stops.getD j 0 = b.stops[j] := by rw [List.getD_eq_getElem?_getD, List.getElem?_eq_getElem h]; rfl
 unfold bgN
 rw [e]
 unfold bkN
 rw [List.take_succ_eq_append_getElem h, List.foldl_append]
 rfl
theorem bkN_len (x : InstD) (rd : List Int) (b : BikeD) : ∀ j, j ≤ b.stops.length → (bkN x rd b j).starts.length = j
 | 0, _ => rfl
 | j + 1, h => by rw [bkN_succ x rd h]; simp [bkN_len x rd b j (by omega)]
theorem bkN_at (x : InstD) (rd : List Int) (b : BikeD) : ∀ j, j ≤ b.stops.length → ∀ i, i < j → (bkN x rd b j).starts.getD i 0 = bgN x rd b i
 | 0, _, i, h => by omega
 | j + 1, h, i, hi => by
  have hl := bkN_len x rd b j (by omega)
  rw [bkN_succ x rd h]
  by_cases e : i = j
  ·subst e
   simp [List.getD_eq_getElem?_getD, List.getElem?_append_right (Nat.le_of_eq hl), hl]
  ·have ih := bkN_at x rd b j (by omega) i (by omega)
   simp only [List.getD_eq_getElem?_getD] at ih ⊢
   rw [List.getElem?_append_left (by omega)]
   exact ih
theorem bike_least {x : InstD} {b : BikeD} {r : RideD} {rd' : List Int} (ho : rd'.getD b.sat.toNat 0 ≤ r.out) : ∀ j, j ≤ b.stops.length → ∀ st, bikeUp x b r j = some st →
  (bkN x rd' b j).now ≤ st.now ∧ (bkN x rd' b j).node = st.node ∧ ∀ i, i < j → bgN x rd' b i ≤ r.starts.getD i 0 ∧ r.starts.getD i 0 ≤ min (custD x (b.stops.getD i 0)).cls x.fin
 | 0, _, st, h => by cases h; exact ⟨ho, rfl, fun i hi => by omega⟩
 | j + 1, hj, st, h => by
  simp only [bikeUp] at h
  cases hq : bikeUp x b r j with
  | none => rw [hq] at h; cases h
  | some st0 =>
   rw [hq] at h
   simp only [Option.bind_some, bkStep] at h
   split at h
   ·rename_i hb
    unfold betw at hb
    simp only [Bool.and_eq_true, decide_eq_true_eq] at hb
    obtain ⟨h1, h2, h3⟩ := bike_least ho j (by omega) st0 hq
    cases h
    have e := bkN_succ x rd' (show j < b.stops.length by omega)
    have hn : bgN x rd' b j ≤ r.starts.getD j 0 := by unfold bgN; rw [h2]; omega
    refine ⟨by rw [e]; simp only []; omega, by rw [e], fun i hi => ?_⟩
    by_cases ei : i = j
    ·subst ei; exact ⟨hn, hb.2⟩
    ·exact h3 i (by omega)
   ·cases h
theorem bike_soon {x : InstD} {b : BikeD} {r : RideD} {rd : List Int} (h1 : r.out = rd.getD b.sat.toNat 0) (h2 : r.starts = (bkN x rd b b.stops.length).starts) (h : ∀ i, i < b.stops.length → bgN x rd b i ≤ min (custD x (b.stops.getD i 0)).cls x.fin) : ∀ j, j ≤ b.stops.length → bikeUp x b r j = some ⟨(bkN x rd b j).now, (bkN x rd b j).node⟩
 | 0, _ => by simp only [bikeUp, h1]; rfl
 | j + 1, hj => by
  simp only [bikeUp, bike_soon h1 h2 h j (by omega), Option.bind_some]
  rw [h2, bkN_at x rd b b.stops.length (Nat.le_refl _) j hj, bkN_succ x rd hj]
  exact bkStep_of (by unfold bgN; simp only []; omega) (h j hj)
theorem bikeE (x : InstD) (rd : List Int) (b : BikeD) : soonBikeE x rd b = bkN x rd b b.stops.length := by
 unfold soonBikeE bkN; rw [List.take_length]
structure RideLe (n : Nat) (a r : RideD) : Prop where
 out : a.out ≤ r.out
 back : a.back ≤ r.back
 starts : ∀ j, j < n → a.starts.getD j 0 ≤ r.starts.getD j 0
theorem bikeC_least {x : InstD} {b : BikeD} {r : RideD} {rd rd' : List Int} (hr : LeL rd' rd) (h : bikeC x b r rd = true) : RideLe b.stops.length (soonBike x rd' b) r ∧ bikeC x b (soonBike x rd' b) rd' = true := by
 unfold bikeC at h
 rw [Bool.and_eq_true] at h
 obtain ⟨h1, h2⟩ := h
 unfold betw at h1
 simp only [Bool.and_eq_true, decide_eq_true_eq] at h1
 have ho : rd'.getD b.sat.toNat 0 ≤ r.out := Int.le_trans (hr.2 _) h1.1
 cases hq : bikeUp x b r b.stops.length with
 | none => rw [hq] at h2; cases h2
 | some st =>
  rw [hq] at h2
  unfold betw at h2
  simp only [Bool.and_eq_true, decide_eq_true_eq] at h2
  obtain ⟨g1, g2, g3⟩ := bike_least ho b.stops.length (Nat.le_refl _) st hq
  have hbk : (soonBike x rd' b).back ≤ r.back := by unfold soonBike; rw [bikeE]; simp only [g2]; omega
  refine ⟨⟨ho, hbk, fun j hj => ?_⟩, ?_⟩
  ·unfold soonBike
   rw [bikeE]
   simp only
   rw [bkN_at x rd' b b.stops.length (Nat.le_refl _) j hj]
   exact (g3 j hj).1
  ·unfold bikeC
   rw [bike_soon (r := soonBike x rd' b) rfl (by unfold soonBike; rw [bikeE]) (fun i hi => by have := g3 i hi; omega) b.stops.length (Nat.le_refl _)]
   have e : (soonBike x rd' b).back = (bkN x rd' b b.stops.length).now + timeAt x (bkN x rd' b b.stops.length).node (1 + b.sat) := by unfold soonBike; rw [bikeE]
   have e2 : (soonBike x rd' b).out = rd'.getD b.sat.toNat 0 := rfl
   unfold betw
   rw [decide_eq_true (show rd'.getD b.sat.toNat 0 ≤ (soonBike x rd' b).out by omega), decide_eq_true (show (soonBike x rd' b).out ≤ x.fin by omega)]
   simp only [Bool.and_eq_true, decide_eq_true_eq]
   exact ⟨⟨trivial, trivial⟩, by omega, by omega⟩
theorem soon_least {x : InstD} {p : PlanD} {t : TimesD} (h : canC x p t = true) : canC x p (soonD x p) = true ∧ (∀ i, i < p.trucks.length → ∀ j, j < (p.trucks.getD i []).length → ((soonD x p).trucks.getD i []).getD j 0 ≤ (t.trucks.getD i []).getD j 0) ∧
  ∀ i, i < p.bikes.length → RideLe (p.bikes.getD i ⟨0, []⟩).stops.length (rideAt (soonD x p) i) (rideAt t i) := by
 unfold canC at h ⊢
 cases hq : trucksUp x p t p.trucks.length with
 | none => rw [hq] at h; cases h
 | some r =>
  rw [hq] at h
  obtain ⟨h1, h2, h3⟩ := trucks_least p.trucks.length (Nat.le_refl _) r hq
  rw [h3]
  simp only [bikesUp, List.all_eq_true, List.mem_range] at h ⊢
  have e : ∀ i, i < p.bikes.length → rideAt (soonD x p) i = soonBike x (trN x p p.trucks.length).ready (p.bikes.getD i ⟨0, []⟩) := fun i hi => by
   unfold rideAt soonD trN
   simp [List.take_length, List.getD_eq_getElem?_getD, hi]
  refine ⟨fun i hi => ?_, h2, fun i hi => ?_⟩
  ·rw [e i hi]; exact (bikeC_least h1 (h i hi)).2
  ·rw [e i hi]; exact (bikeC_least h1 (h i hi)).1
end Go.Proofs.Ytafhjfkdlmijdaa
