/- Contract: wharfagelaw11.square: rows of numbers out of some, round and round. -/
import Derived.Test.YtafhjfkdlmijdaaOwn
import Derived.Test.YtafhjfkdlmijdaaFacts
namespace Go.Proofs.Ytafhjfkdlmijdaa
open Go.RowKit

/-- One row: the numbers so far, how many have been taken. -/
def rowSt (l : List Int) (n i : Nat) (k0 : Nat) : Nat → List Int × Nat
  | 0 => (List.replicate n 0, k0)
  | m + 1 => let s := rowSt l n i k0 m; if i ≠ m ∧ l ≠ [] then (s.1.set m (l.getD (s.2 % l.length) 0 % 30), s.2 + 1) else s
def sqSt (l : List Int) (n : Nat) : Nat → List (List Int) × Nat
  | 0 => ([], 0)
  | i + 1 => let s := sqSt l n i; let r := rowSt l n i s.2 n; (s.1 ++ [r.1], r.2)
def square11 (l : List Int) (n : Nat) : List (List Int) := (sqSt l n n).1

theorem rowSt_len (l : List Int) (n i k0 m : Nat) : (rowSt l n i k0 m).1.length = n := by
  induction m with
  | zero => simp [rowSt]
  | succ m ih => simp only [rowSt]; split <;> simp [ih]
theorem rowSt_k (l : List Int) (n i k0 m : Nat) : (rowSt l n i k0 m).2 ≤ k0 + m := by
  induction m with
  | zero => simp [rowSt]
  | succ m ih =>
    simp only [rowSt]
    split
    · show (rowSt l n i k0 m).2 + 1 ≤ _; omega
    · omega
theorem sqSt_len (l : List Int) (n i : Nat) : (sqSt l n i).1.length = i := by
  induction i with
  | zero => simp [sqSt]
  | succ i ih => simp [sqSt, ih]
theorem sqSt_k (l : List Int) (n i : Nat) : (sqSt l n i).2 ≤ i * n := by
  induction i with
  | zero => simp [sqSt]
  | succ i ih =>
    simp only [sqSt]
    have := rowSt_k l n i (sqSt l n i).2 n
    rw [Nat.succ_mul]; omega
theorem rowSt_hit {l : List Int} {n i k0 m : Nat} (h : i ≠ m) (hl : l ≠ []) : rowSt l n i k0 (m + 1) = ((rowSt l n i k0 m).1.set m (l.getD ((rowSt l n i k0 m).2 % l.length) 0 % 30), (rowSt l n i k0 m).2 + 1) := by
  simp only [rowSt]; rw [if_pos ⟨h, hl⟩]
theorem rowSt_miss {l : List Int} {n i k0 m : Nat} (h : ¬ (i ≠ m ∧ l ≠ [])) : rowSt l n i k0 (m + 1) = rowSt l n i k0 m := by
  simp only [rowSt]; rw [if_neg h]

theorem make_ints {P : Program} {t e : TypeId} {i : TypeInfo} (ht : P.underlying t = some (.slice e)) (hi : P.info? e = some i) (hz : i.zero = some (.int .i64 0)) (hs : i.size = 1) (hb : i.bytes = 8) {n : Nat} (hn : n ≤ 1000000) :
    ∀ w, (Instr.makeSlice t (.int .i64 (n : Int)) (.int .i64 (n : Int))).run P w = .ok (.slice (some ⟨w.heap.size, 0, none⟩) n n) (w.alloc (.cells (Array.replicate n (intV 0)) e)) := by
  intro w
  have h := run_make (P := P) w t e i (.int .i64 0) ht hi hz .i64 .i64 n n (by omega) (by omega) (by rw [hb]; omega) (by omega)
  rw [h, hs]
  have hm : (madeCells (Value.int .i64 0).cells ((n : Int).toNat * 1)) = Array.replicate n (intV 0) := by
    apply Array.ext'
    rw [Nat.mul_one, Int.toNat_natCast, show (Value.int .i64 0).cells = #[.int .i64 0] from rfl, toList_madeCells_one]
    simp [intV]
  rw [hm, Int.toNat_natCast]

theorem info_i64 : (Try.prog.info? 2).map (fun i => (i.zero, i.size, i.bytes)) = some (some (.int .i64 0), 1, 8) := by kernel_rfl
theorem info_row : (Try.prog.info? 34).map (fun i => (i.zero, i.size, i.bytes)) = some (some (.slice none 0 0), 1, 24) := by kernel_rfl

theorem idx_mod {P : Program} {t e : TypeId} (ht : P.underlying t = some (.slice e)) (hsz : ∀ w, (sizeOf e).run P w = .ok 1 w) {a : Option Addr} {b off n c k : Nat} (ha : a = some ⟨b, off, none⟩) (hn : 0 < n) :
    ∀ w, (Instr.indexAt t (.slice a n c) (.int .i64 ((k : Int) % (n : Int)))).run P w = .ok (.pointer (some ⟨b, off + k % n, none⟩)) w := by
  intro w
  have := idx_at1 ht hsz (c := c) ha (Nat.mod_lt k hn) w
  rwa [Int.natCast_emod] at this

set_option maxRecDepth 100000 in
set_option maxHeartbeats 1000000 in
theorem square11_c {w : World} {F : Nat → Prop} {l : List Int} {v : Value} (h : (sliceS u8S).rep w F l [v]) {n : Nat} (hn : n ≤ 100) :
    Calls Try.prog 49 #[v, .int .i64 (n : Int)] w fun e w' => ∃ ao cp rs, e = .returned (.slice ao n cp) ∧ RowsInv w' w.heap.size 34 2 (.slice ao n cp) (square11 l n) rs ∧ Below w.heap.size w w' := by
  obtain ⟨a, b, off, c, hs, hlc, hc, ha, -, hcell, hwf⟩ := bytes_open h
  obtain rfl := List.cons.inj hs |>.1
  clear hs h
  obtain ⟨i0, hi, hz0, hz1, hz2⟩ := info_parts info_i64
  have hmk := make_ints Try.underlying34 hi hz0 hz1 hz2 (n := n) (by omega)
  clear hi hz0 hz1 hz2 i0
  go_enter Try.func49, Try.ntmps49
  go_wp2
  go_loopw [5, 6, 11] (fun out kk ii wr => ∃ (i : Nat) (rows : List (List Int)) (K : Nat) (rs : List Nat), i ≤ n ∧ sqSt l n i = (rows, K) ∧ ii = .int .i64 i ∧ kk = .int .i64 K ∧ RowsInv wr w.heap.size 34 2 out rows rs ∧ Below w.heap.size w wr)
    (fun _ _ ii _ => n - (intOf ii).toNat)
  case atStart => exact ⟨0, [], 0, [], Nat.zero_le _, rfl, rfl, rfl, RowsInv.nil _ _ _ _, Below.refl _ _⟩
  case round =>
    obtain ⟨i, rows, K, rs, hin, hst, rfl, rfl, hinv, hb⟩ := hrel
    have hK : K ≤ 10000 := by
      have := sqSt_k l n i
      rw [hst] at this
      exact Nat.le_trans this (Nat.le_trans (Nat.mul_le_mul hin hn) (by omega))
    have HST := hid hst
    have HINV := hid hinv
    clear hst hinv
    obtain ⟨wo, rfl⟩ : ∃ wo : World, wo = wr := ⟨_, rfl⟩
    by_cases hlt : i < n
    · go_wp2
      go_outline
      go_loopw [6, 18] (fun kk jj wx => ∃ (j : Nat) (r : List Int) (k : Nat), j ≤ n ∧ rowSt l n i K j = (r, k) ∧ jj = .int .i64 j ∧ kk = .int .i64 k ∧ Row wx wo.heap.size 2 (r.map intV) ∧ Below wo.heap.size wo wx)
        (fun _ jj _ => n - (intOf jj).toNat)
      case atStart => exact ⟨0, _, _, Nat.zero_le _, rfl, rfl, rfl, Row.make, (Below.refl _ _).alloc (Nat.le_refl _) _⟩
      case round =>
        obtain ⟨j, r, k, hj, hst, rfl, rfl, hrow, hbx⟩ := hrel
        have hk : k ≤ 20000 := by
          have := rowSt_k l n i K j
          rw [hst] at this
          show k ≤ 20000
          have h2 : k ≤ K + j := this
          omega
        have hrl : r.length = n := by have := rowSt_len l n i K j; rw [hst] at this; exact this
        have HST2 := hid hst
        have HROW := hid hrow
        have HRL := hid hrl
        clear hst hrow hrl
        by_cases hlt2 : j < n
        · by_cases hij : i = j
          · have hd : ((i : Int) != (j : Int)) = false := by simp [hij]
            have HN := hid (show rowSt l n i K (j + 1) = (r, k) from by rw [rowSt_miss (by simp [hij])]; exact HST2.out)
            clear hij
            go_wp2
            go_roundw
            case rel => exact ⟨j + 1, r, k, by omega, HN.out, by go_num, rfl, HROW.out, hbx⟩
            case measure => simp [intOf]; omega
          · have hd : ((i : Int) != (j : Int)) = true := by simp; omega
            by_cases hl0 : 0 < l.length
            · have hl0' : (0 : Int) < (l.length : Int) := by omega
              have HN := hid (show rowSt l n i K (j + 1) = (r.set j (l.getD (k % l.length) 0 % 30), k + 1) from by
                rw [rowSt_hit hij (by intro e; simp [e] at hl0)]
                rw [HST2.out])
              clear hij
              have hkl : k % l.length < l.length := Nat.mod_lt _ hl0
              have hx := idx_mod (k := k) (c := c) Try.underlying24 sz_u8 (ha hl0) hl0
              have hx2 := idx_at1 (c := n) (a := some ⟨wo.heap.size, 0, none⟩) (off := 0) Try.underlying34 sz_i64 rfl hlt2
              have hval : l[k % l.length] = l.getD (k % l.length) 0 := by simp [List.getD, List.getElem?_eq_getElem hkl]
              have hr := hwf _ (List.getElem_mem hkl)
              have g0 := hcell (k % l.length) hkl
              rw [hval] at g0 hr
              have g1 := below_cell (hb.trans (hbx.mono hb.size)) g0
              obtain ⟨y, hy⟩ : ∃ y, y = l.getD (k % l.length) 0 := ⟨_, rfl⟩
              rw [← hy] at g1 hr HN
              have hw0 := HROW.out.cell (j := j) (by simp; have := HRL.out; omega)
              have hf0 := HROW.out.frozen j
              obtain ⟨y0, hy0⟩ : ∃ y0, y0 = (r.map intV)[j]'(by simp; have := HRL.out; omega) := ⟨_, rfl⟩
              rw [← hy0] at hw0
              clear hcell hwf ha hval g0 hy hy0
              go_wp2
              go_roundw
              case rel => exact ⟨j + 1, _, k + 1, by omega, HN.out, by go_num, by go_num, by
                rw [List.map_set]
                exact HROW.out.set (by simp; have := HRL.out; omega) _, hbx.setCell (Nat.le_refl _) _⟩
              case measure => simp [intOf]; omega
            · have hl0' : ¬ (0 : Int) < (l.length : Int) := by omega
              have HN := hid (show rowSt l n i K (j + 1) = (r, k) from by
                rw [rowSt_miss (by rintro ⟨_, h2⟩; exact h2 (List.eq_nil_of_length_eq_zero (by omega)))]; exact HST2.out)
              clear hij
              go_wp2
              go_roundw
              case rel => exact ⟨j + 1, r, k, by omega, HN.out, by go_num, rfl, HROW.out, hbx⟩
              case measure => simp [intOf]; omega
        · have hjn : j = n := by omega
          subst hjn
          have hown := owns_below HINV.out.1 hbx
          have hz := hbx.size
          have hin2 : rows.length = i := by have := sqSt_len l j i; rw [HST.out] at this; exact this
          have HIN := hid hin2
          rw [hin2] at hown
          obtain ⟨i1, hi, hz0, hz1, hz2⟩ := info_parts info_row
          clear hin2
          go_wp2_with (at_builtin; refine wpList_append_own _ rfl _ _ 31 rfl w.heap.size 34 i1 (.slice none 0 0) 1 24 Try.underlying31 hi hz0 hz1 hz2 rfl (by decide) _ _ _ rfl (hown.alloc _) ⟨wr.heap.size, 0, none⟩ 1 1 [.slice (some ⟨wo.heap.size, 0, none⟩) j j] rfl rfl ?c1 ?c2 ?c3 ?c4 ?c5 ?_)
          case c1 => exact cell_one_new _ _ _
          case c2 => intro u hu; simp at hu; subst hu; rfl
          case c3 => unfold maxLen; omega
          case c4 => omega
          case c5 => have h1 := hb.size; have h2 := hbx.size; simp; omega
          intro v' w1 hown' hgrow _
          have hR : rowV wo.heap.size r = .slice (some ⟨wo.heap.size, 0, none⟩) j j := by unfold rowV; rw [HRL.out]
          rw [← hR] at hown'
          have HI := hid (HINV.out.push (by decide) hbx HROW.out (Nat.le_refl _) hb.size (by rw [HIN.out]; exact hown') hgrow)
          have HS := hid (show sqSt l j (i + 1) = (rows ++ [r], k) from by
            show ((sqSt l j i).1 ++ [(rowSt l j i (sqSt l j i).2 j).1], (rowSt l j i (sqSt l j i).2 j).2) = _
            rw [HST.out]
            show (rows ++ [(rowSt l j i K j).1], (rowSt l j i K j).2) = _
            rw [HST2.out])
          have hb1 : Below w.heap.size w w1 := ((hb.trans (hbx.mono hb.size)).alloc (Nat.le_trans hb.size hbx.size) _).grown hgrow (Nat.le_trans hb.size (Nat.le_trans hbx.size (by simp))) (fun b hbk => (HINV.out.1.lt b hbk).1)
          clear hown' hgrow hown hR hz hi hz0 hz1 hz2
          go_wp2
          go_roundw
          case rel => exact ⟨i + 1, _, _, _, by omega, HS.out, by go_num, rfl, HI.out, hb1⟩
          case measure => simp [intOf]; omega
    · have hin2 : i = n := by omega
      subst hin2
      have HF := hid (show square11 l i = rows from by unfold square11; rw [HST.out])
      go_wp2
      go_ret
      have hl := sqSt_len l i i
      rw [HST.out] at hl
      have hl : rows.length = i := hl
      obtain ⟨ao, cp, hv, -, -⟩ := owns_slice HINV.out.1
      rw [hl] at hv
      subst hv
      exact ⟨ao, cp, rs, rfl, by rw [HF.out]; exact HINV.out, hb⟩
end Go.Proofs.Ytafhjfkdlmijdaa
