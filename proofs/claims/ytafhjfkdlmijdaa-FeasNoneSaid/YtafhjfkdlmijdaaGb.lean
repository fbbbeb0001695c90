/- Texts of the proof, joined: Square, Small, InstOwn, Tail, Eq, Same. -/
import Derived.Test.YtafhjfkdlmijdaaGa
import Derived.OrdersHeld
import Derived.StillTail
import Derived.Laws.StructEq
/- Contract: wharfagelaw11.square: rows of numbers out of some, round and round. -/
namespace Go.Proofs.Ytafhjfkdlmijdaa
open Go.RowKit

/-- One row: the numbers so far, how many have been taken. -/
def rowSt (l : List Int) (n i : Nat) (k0 : Nat) : Nat → List Int × Nat
  | 0 => (List.replicate n 0, k0)
  | m + 1 => let s := rowSt l n i k0 m; if i ≠ m ∧ l ≠ [] then (s.1.set m (l.getD (s.2 % l.length) 0 % 30), s.2 + 1) else s
def sqSt (l : List Int) (n : Nat) : Nat → List (List Int) × Nat
  | 0 => ([], 0)
  | i + 1 => let s := sqSt l n i; let r := rowSt l n i s.2 n; (s.1 ++ [r.1], r.2)
def square11 (l : List Int) (n : Nat) : List (List Int) := (sqSt l n n).1

theorem rowSt_len (l : List Int) (n i k0 m : Nat) : (rowSt l n i k0 m).1.length = n := by
  induction m with
  | zero => simp [rowSt]
  | succ m ih => simp only [rowSt]; split <;> simp [ih]
theorem rowSt_k (l : List Int) (n i k0 m : Nat) : (rowSt l n i k0 m).2 ≤ k0 + m := by
  induction m with
  | zero => simp [rowSt]
  | succ m ih =>
    simp only [rowSt]
    split
    · show (rowSt l n i k0 m).2 + 1 ≤ _; omega
    · omega
theorem sqSt_len (l : List Int) (n i : Nat) : (sqSt l n i).1.length = i := by
  induction i with
  | zero => simp [sqSt]
  | succ i ih => simp [sqSt, ih]
theorem sqSt_k (l : List Int) (n i : Nat) : (sqSt l n i).2 ≤ i * n := by
  induction i with
  | zero => simp [sqSt]
  | succ i ih =>
    simp only [sqSt]
    have := rowSt_k l n i (sqSt l n i).2 n
    rw [Nat.succ_mul]; omega
theorem rowSt_hit {l : List Int} {n i k0 m : Nat} (h : i ≠ m) (hl : l ≠ []) : rowSt l n i k0 (m + 1) = ((rowSt l n i k0 m).1.set m (l.getD ((rowSt l n i k0 m).2 % l.length) 0 % 30), (rowSt l n i k0 m).2 + 1) := by
  simp only [rowSt]; rw [if_pos ⟨h, hl⟩]
theorem rowSt_miss {l : List Int} {n i k0 m : Nat} (h : ¬ (i ≠ m ∧ l ≠ [])) : rowSt l n i k0 (m + 1) = rowSt l n i k0 m := by
  simp only [rowSt]; rw [if_neg h]

theorem make_ints {P : Program} {t e : TypeId} {i : TypeInfo} (ht : P.underlying t = some (.slice e)) (hi : P.info? e = some i) (hz : i.zero = some (.int .i64 0)) (hs : i.size = 1) (hb : i.bytes = 8) {n : Nat} (hn : n ≤ 1000000) :
    ∀ w, (Instr.makeSlice t (.int .i64 (n : Int)) (.int .i64 (n : Int))).run P w = .ok (.slice (some ⟨w.heap.size, 0, none⟩) n n) (w.alloc (.cells (Array.replicate n (intV 0)) e)) := by
  intro w
  have h := run_make (P := P) w t e i (.int .i64 0) ht hi hz .i64 .i64 n n (by omega) (by omega) (by rw [hb]; omega) (by omega)
  rw [h, hs]
  have hm : (madeCells (Value.int .i64 0).cells ((n : Int).toNat * 1)) = Array.replicate n (intV 0) := by
    apply Array.ext'
    rw [Nat.mul_one, Int.toNat_natCast, show (Value.int .i64 0).cells = #[.int .i64 0] from rfl, toList_madeCells_one]
    simp [intV]
  rw [hm, Int.toNat_natCast]

theorem info_i64 : (Try.prog.info? 2).map (fun i => (i.zero, i.size, i.bytes)) = some (some (.int .i64 0), 1, 8) := by kernel_rfl
theorem info_row : (Try.prog.info? 34).map (fun i => (i.zero, i.size, i.bytes)) = some (some (.slice none 0 0), 1, 24) := by kernel_rfl

theorem idx_mod {P : Program} {t e : TypeId} (ht : P.underlying t = some (.slice e)) (hsz : ∀ w, (sizeOf e).run P w = .ok 1 w) {a : Option Addr} {b off n c k : Nat} (ha : a = some ⟨b, off, none⟩) (hn : 0 < n) :
    ∀ w, (Instr.indexAt t (.slice a n c) (.int .i64 ((k : Int) % (n : Int)))).run P w = .ok (.pointer (some ⟨b, off + k % n, none⟩)) w := by
  intro w
  have := idx_at1 ht hsz (c := c) ha (Nat.mod_lt k hn) w
  rwa [Int.natCast_emod] at this

set_option maxRecDepth 100000 in
set_option maxHeartbeats 1000000 in
theorem square11_c {w : World} {F : Nat → Prop} {l : List Int} {v : Value} (h : (sliceS u8S).rep w F l [v]) {n : Nat} (hn : n ≤ 100) :
    Calls Try.prog 49 #[v, .int .i64 (n : Int)] w fun e w' => ∃ ao cp rs, e = .returned (.slice ao n cp) ∧ RowsInv w' w.heap.size 34 2 (.slice ao n cp) (square11 l n) rs ∧ Below w.heap.size w w' := by
  obtain ⟨a, b, off, c, hs, hlc, hc, ha, -, hcell, hwf⟩ := bytes_open h
  obtain rfl := List.cons.inj hs |>.1
  clear hs h
  obtain ⟨i0, hi, hz0, hz1, hz2⟩ := info_parts info_i64
  have hmk := make_ints Try.underlying34 hi hz0 hz1 hz2 (n := n) (by omega)
  clear hi hz0 hz1 hz2 i0
  go_enter Try.func49, Try.ntmps49
  go_wp2
  go_loopw [5, 6, 11] (fun out kk ii wr => ∃ (i : Nat) (rows : List (List Int)) (K : Nat) (rs : List Nat), i ≤ n ∧ sqSt l n i = (rows, K) ∧ ii = .int .i64 i ∧ kk = .int .i64 K ∧ RowsInv wr w.heap.size 34 2 out rows rs ∧ Below w.heap.size w wr)
    (fun _ _ ii _ => n - (intOf ii).toNat)
  case atStart => exact ⟨0, [], 0, [], Nat.zero_le _, rfl, rfl, rfl, RowsInv.nil _ _ _ _, Below.refl _ _⟩
  case round =>
    obtain ⟨i, rows, K, rs, hin, hst, rfl, rfl, hinv, hb⟩ := hrel
    have hK : K ≤ 10000 := by
      have := sqSt_k l n i
      rw [hst] at this
      exact Nat.le_trans this (Nat.le_trans (Nat.mul_le_mul hin hn) (by omega))
    have HST := hid hst
    have HINV := hid hinv
    clear hst hinv
    obtain ⟨wo, rfl⟩ : ∃ wo : World, wo = wr := ⟨_, rfl⟩
    by_cases hlt : i < n
    · go_wp2
      go_outline
      go_loopw [6, 18] (fun kk jj wx => ∃ (j : Nat) (r : List Int) (k : Nat), j ≤ n ∧ rowSt l n i K j = (r, k) ∧ jj = .int .i64 j ∧ kk = .int .i64 k ∧ Row wx wo.heap.size 2 (r.map intV) ∧ Below wo.heap.size wo wx)
        (fun _ jj _ => n - (intOf jj).toNat)
      case atStart => exact ⟨0, _, _, Nat.zero_le _, rfl, rfl, rfl, Row.make, (Below.refl _ _).alloc (Nat.le_refl _) _⟩
      case round =>
        obtain ⟨j, r, k, hj, hst, rfl, rfl, hrow, hbx⟩ := hrel
        have hk : k ≤ 20000 := by
          have := rowSt_k l n i K j
          rw [hst] at this
          show k ≤ 20000
          have h2 : k ≤ K + j := this
          omega
        have hrl : r.length = n := by have := rowSt_len l n i K j; rw [hst] at this; exact this
        have HST2 := hid hst
        have HROW := hid hrow
        have HRL := hid hrl
        clear hst hrow hrl
        by_cases hlt2 : j < n
        · by_cases hij : i = j
          · have hd : ((i : Int) != (j : Int)) = false := by simp [hij]
            have HN := hid (show rowSt l n i K (j + 1) = (r, k) from by rw [rowSt_miss (by simp [hij])]; exact HST2.out)
            clear hij
            go_wp2
            go_roundw
            case rel => exact ⟨j + 1, r, k, by omega, HN.out, by go_num, rfl, HROW.out, hbx⟩
            case measure => simp [intOf]; omega
          · have hd : ((i : Int) != (j : Int)) = true := by simp; omega
            by_cases hl0 : 0 < l.length
            · have hl0' : (0 : Int) < (l.length : Int) := by omega
              have HN := hid (show rowSt l n i K (j + 1) = (r.set j (l.getD (k % l.length) 0 % 30), k + 1) from by
                rw [rowSt_hit hij (by intro e; simp [e] at hl0)]
                rw [HST2.out])
              clear hij
              have hkl : k % l.length < l.length := Nat.mod_lt _ hl0
              have hx := idx_mod (k := k) (c := c) Try.underlying24 sz_u8 (ha hl0) hl0
              have hx2 := idx_at1 (c := n) (a := some ⟨wo.heap.size, 0, none⟩) (off := 0) Try.underlying34 sz_i64 rfl hlt2
              have hval : l[k % l.length] = l.getD (k % l.length) 0 := by simp [List.getD, List.getElem?_eq_getElem hkl]
              have hr := hwf _ (List.getElem_mem hkl)
              have g0 := hcell (k % l.length) hkl
              rw [hval] at g0 hr
              have g1 := below_cell (hb.trans (hbx.mono hb.size)) g0
              obtain ⟨y, hy⟩ : ∃ y, y = l.getD (k % l.length) 0 := ⟨_, rfl⟩
              rw [← hy] at g1 hr HN
              have hw0 := HROW.out.cell (j := j) (by simp; have := HRL.out; omega)
              have hf0 := HROW.out.frozen j
              obtain ⟨y0, hy0⟩ : ∃ y0, y0 = (r.map intV)[j]'(by simp; have := HRL.out; omega) := ⟨_, rfl⟩
              rw [← hy0] at hw0
              clear hcell hwf ha hval g0 hy hy0
              go_wp2
              go_roundw
              case rel => exact ⟨j + 1, _, k + 1, by omega, HN.out, by go_num, by go_num, by
                rw [List.map_set]
                exact HROW.out.set (by simp; have := HRL.out; omega) _, hbx.setCell (Nat.le_refl _) _⟩
              case measure => simp [intOf]; omega
            · have hl0' : ¬ (0 : Int) < (l.length : Int) := by omega
              have HN := hid (show rowSt l n i K (j + 1) = (r, k) from by
                rw [rowSt_miss (by rintro ⟨_, h2⟩; exact h2 (List.eq_nil_of_length_eq_zero (by omega)))]; exact HST2.out)
              clear hij
              go_wp2
              go_roundw
              case rel => exact ⟨j + 1, r, k, by omega, HN.out, by go_num, rfl, HROW.out, hbx⟩
              case measure => simp [intOf]; omega
        · have hjn : j = n := by omega
          subst hjn
          have hown := owns_below HINV.out.1 hbx
          have hz := hbx.size
          have hin2 : rows.length = i := by have := sqSt_len l j i; rw [HST.out] at this; exact this
          have HIN := hid hin2
          rw [hin2] at hown
          obtain ⟨i1, hi, hz0, hz1, hz2⟩ := info_parts info_row
          clear hin2
          go_wp2_with (at_builtin; refine wpList_append_own _ rfl _ _ 31 rfl w.heap.size 34 i1 (.slice none 0 0) 1 24 Try.underlying31 hi hz0 hz1 hz2 rfl (by decide) _ _ _ rfl (hown.alloc _) ⟨wr.heap.size, 0, none⟩ 1 1 [.slice (some ⟨wo.heap.size, 0, none⟩) j j] rfl rfl ?c1 ?c2 ?c3 ?c4 ?c5 ?_)
          case c1 => exact cell_one_new _ _ _
          case c2 => intro u hu; simp at hu; subst hu; rfl
          case c3 => unfold maxLen; omega
          case c4 => omega
          case c5 => have h1 := hb.size; have h2 := hbx.size; simp; omega
          intro v' w1 hown' hgrow _
          have hR : rowV wo.heap.size r = .slice (some ⟨wo.heap.size, 0, none⟩) j j := by unfold rowV; rw [HRL.out]
          rw [← hR] at hown'
          have HI := hid (HINV.out.push (by decide) hbx HROW.out (Nat.le_refl _) hb.size (by rw [HIN.out]; exact hown') hgrow)
          have HS := hid (show sqSt l j (i + 1) = (rows ++ [r], k) from by
            show ((sqSt l j i).1 ++ [(rowSt l j i (sqSt l j i).2 j).1], (rowSt l j i (sqSt l j i).2 j).2) = _
            rw [HST.out]
            show (rows ++ [(rowSt l j i K j).1], (rowSt l j i K j).2) = _
            rw [HST2.out])
          have hb1 : Below w.heap.size w w1 := ((hb.trans (hbx.mono hb.size)).alloc (Nat.le_trans hb.size hbx.size) _).grown hgrow (Nat.le_trans hb.size (Nat.le_trans hbx.size (by simp))) (fun b hbk => (HINV.out.1.lt b hbk).1)
          clear hown' hgrow hown hR hz hi hz0 hz1 hz2
          go_wp2
          go_roundw
          case rel => exact ⟨i + 1, _, _, _, by omega, HS.out, by go_num, rfl, HI.out, hb1⟩
          case measure => simp [intOf]; omega
    · have hin2 : i = n := by omega
      subst hin2
      have HF := hid (show square11 l i = rows from by unfold square11; rw [HST.out])
      go_wp2
      go_ret
      have hl := sqSt_len l i i
      rw [HST.out] at hl
      have hl : rows.length = i := hl
      obtain ⟨ao, cp, hv, -, -⟩ := owns_slice HINV.out.1
      rw [hl] at hv
      subst hv
      exact ⟨ao, cp, rs, rfl, by rw [HF.out]; exact HINV.out, hb⟩
end Go.Proofs.Ytafhjfkdlmijdaa
/- Plain words for wharfagelaw11: small instances, the instance that Make makes of one, and an instance that may be written. No program in sight. -/
namespace Go.Proofs.Ytafhjfkdlmijdaa
open Go.RowKit

structure LSat where
  room : Int
  hold : Int
structure LWho where
  load : Int
  opn : Int
  wide : Int
  stay : Int
structure SmallD where
  fin : Int
  trucks : Int
  troom : Int
  bikes : Int
  broom : Int
  sats : List LSat
  custs : List LWho
  cost : List Int
  time : List Int
  tight : Bool
  loose : Bool
def wf8 (x : Int) : Prop := 0 ≤ x ∧ x ≤ 255
def lsatS : Shape LSat := plainS 2 (fun x cs => cs = [.int .u8 x.room, .int .u8 x.hold] ∧ wf8 x.room ∧ wf8 x.hold) (by rintro x cs ⟨rfl, _⟩; rfl)
def lwhoS : Shape LWho := plainS 4 (fun x cs => cs = [.int .u8 x.load, .int .u8 x.opn, .int .u8 x.wide, .int .u8 x.stay] ∧ wf8 x.load ∧ wf8 x.opn ∧ wf8 x.wide ∧ wf8 x.stay) (by rintro x cs ⟨rfl, _⟩; rfl)
def bytesS : Shape (List Int) := sliceS u8S
def lsatsS : Shape (List LSat) := sliceS lsatS
def lwhosS : Shape (List LWho) := sliceS lwhoS
def smallS : Shape SmallD where
  sz := 11
  rep := fun w F x cs => ∃ s c co ti, cs = [.int .u8 x.fin, .int .u8 x.trucks, .int .u8 x.troom, .int .u8 x.bikes, .int .u8 x.broom, s, c, co, ti, .bool x.tight, .bool x.loose] ∧
    (wf8 x.fin ∧ wf8 x.trucks ∧ wf8 x.troom ∧ wf8 x.bikes ∧ wf8 x.broom) ∧ lsatsS.rep w F x.sats [s] ∧ lwhosS.rep w F x.custs [c] ∧ bytesS.rep w F x.cost [co] ∧ bytesS.rep w F x.time [ti]
  len := by rintro w F x cs ⟨_, _, _, _, rfl, _⟩; rfl
  keep := by rintro w w' F x cs ⟨_, _, _, _, rfl, h0, h1, h2, h3, h4⟩ ha; exact ⟨_, _, _, _, rfl, h0, lsatsS.keep h1 ha, lwhosS.keep h2 ha, bytesS.keep h3 ha, bytesS.keep h4 ha⟩
  weak := by rintro w F G x cs ⟨_, _, _, _, rfl, h0, h1, h2, h3, h4⟩ ha; exact ⟨_, _, _, _, rfl, h0, lsatsS.weak h1 ha, lwhosS.weak h2 ha, bytesS.weak h3 ha, bytesS.weak h4 ha⟩
  lt := by rintro w F x cs ⟨_, _, _, _, rfl, h0, h1, h2, h3, h4⟩; exact ⟨_, _, _, _, rfl, h0, lsatsS.lt h1, lwhosS.lt h2, bytesS.lt h3, bytesS.lt h4⟩

theorem lsats_open {w : World} {F : Nat → Prop} {xs : List LSat} {cs : List Value} (h : lsatsS.rep w F xs cs) :
    ∃ (a : Option Addr) (b off c : Nat), cs = [.slice a xs.length c] ∧ xs.length ≤ c ∧ c ≤ 9223372036854775807 ∧ (0 < xs.length → a = some ⟨b, off, none⟩) ∧ (0 < xs.length → F b) ∧
      (∀ k (h : k < xs.length), w.cell? ⟨b, off + k * 2, none⟩ = some (.int .u8 xs[k].room) ∧ w.cell? ⟨b, off + k * 2 + 1, none⟩ = some (.int .u8 xs[k].hold)) ∧ ∀ x ∈ xs, wf8 x.room ∧ wf8 x.hold := by
  obtain ⟨a, b, off, c, rfl, h1, h2, h3, h4⟩ := h
  refine ⟨a, b, off, c, rfl, h1, h2, fun h => (h3 h).1, fun h => (h3 h).2, fun k hk => ?_, fun x hx => ?_⟩
  · obtain ⟨es, ⟨rfl, _⟩, hc⟩ := h4 k hk
    have e0 := hc 0 (by decide)
    have e1 := hc 1 (by decide)
    exact ⟨by simpa [lsatS, plainS] using e0, by simpa [lsatS, plainS] using e1⟩
  · obtain ⟨k, hk, rfl⟩ := List.getElem_of_mem hx
    obtain ⟨es, he, _⟩ := h4 k hk
    exact he.2
theorem lwhos_open {w : World} {F : Nat → Prop} {xs : List LWho} {cs : List Value} (h : lwhosS.rep w F xs cs) :
    ∃ (a : Option Addr) (b off c : Nat), cs = [.slice a xs.length c] ∧ xs.length ≤ c ∧ c ≤ 9223372036854775807 ∧ (0 < xs.length → a = some ⟨b, off, none⟩) ∧ (0 < xs.length → F b) ∧
      (∀ k (h : k < xs.length), w.cell? ⟨b, off + k * 4, none⟩ = some (.int .u8 xs[k].load) ∧ w.cell? ⟨b, off + k * 4 + 1, none⟩ = some (.int .u8 xs[k].opn) ∧
        w.cell? ⟨b, off + k * 4 + 2, none⟩ = some (.int .u8 xs[k].wide) ∧ w.cell? ⟨b, off + k * 4 + 3, none⟩ = some (.int .u8 xs[k].stay)) ∧
      ∀ x ∈ xs, wf8 x.load ∧ wf8 x.opn ∧ wf8 x.wide ∧ wf8 x.stay := by
  obtain ⟨a, b, off, c, rfl, h1, h2, h3, h4⟩ := h
  refine ⟨a, b, off, c, rfl, h1, h2, fun h => (h3 h).1, fun h => (h3 h).2, fun k hk => ?_, fun x hx => ?_⟩
  · obtain ⟨es, ⟨rfl, _⟩, hc⟩ := h4 k hk
    have e0 := hc 0 (by decide)
    have e1 := hc 1 (by decide)
    have e2 := hc 2 (by decide)
    have e3 := hc 3 (by decide)
    exact ⟨by simpa [lwhoS, plainS] using e0, by simpa [lwhoS, plainS] using e1, by simpa [lwhoS, plainS] using e2, by simpa [lwhoS, plainS] using e3⟩
  · obtain ⟨k, hk, rfl⟩ := List.getElem_of_mem hx
    obtain ⟨es, he, _⟩ := h4 k hk
    exact he.2

def wideOf (x : SmallD) : Int := if x.loose then 9 else 1
def satOf (x : SmallD) (s : LSat) : SatD := ⟨4 + wideOf x * (s.room % 40), s.hold % 12⟩
def loadOf (x : SmallD) (c : LWho) : Int := if x.tight then 1 + c.load % 6 + c.load / 32 else 1 + c.load % 6
def custOf (x : SmallD) (c : LWho) : CustD := ⟨loadOf x c, c.opn % 50, c.opn % 50 + wideOf x * c.wide, c.stay % 8⟩
/-- The first so many, made. -/
def satsUp (x : SmallD) (k : Nat) : List SatD := ((x.sats.take k).take 3).map (satOf x)
def custsUp (x : SmallD) (k : Nat) : List CustD := ((x.custs.take k).take 6).map (custOf x)
def satsOf (x : SmallD) : List SatD := if x.sats = [] then [⟨60, 2⟩] else satsUp x x.sats.length
def custsOf (x : SmallD) : List CustD := if x.custs = [] then [⟨2, 5, 90, 1⟩] else custsUp x x.custs.length
def nodesOf (x : SmallD) : Nat := 1 + (satsOf x).length + (custsOf x).length
/-- wharfagelaw11.Make -/
def makeD (x : SmallD) : InstD where
  fin := 40 + x.fin * wideOf x
  tmany := 1 + x.trucks % 4
  troom := 5 + wideOf x * (x.troom % 40)
  bmany := 1 + x.bikes % 6
  broom := 3 + wideOf x * (x.broom % 20)
  sats := satsOf x
  custs := custsOf x
  cost := square11 x.cost (nodesOf x)
  time := square11 x.time (nodesOf x)

def satV (s : SatD) : List Value := [intV s.room, intV s.hold]
def custV (c : CustD) : List Value := [intV c.load, intV c.opn, intV c.cls, intV c.stay]

theorem satsUp_lt {x : SmallD} {k : Nat} (h : k < x.sats.length) (h3 : k < 3) : satsUp x (k + 1) = satsUp x k ++ [satOf x x.sats[k]] := by
  unfold satsUp
  rw [List.take_take, List.take_take, show min 3 (k + 1) = k + 1 by omega, show min 3 k = k by omega, List.take_succ_eq_append_getElem h, List.map_append]
  rfl
theorem satsUp_ge {x : SmallD} {k : Nat} (h3 : 3 ≤ k) : satsUp x (k + 1) = satsUp x k := by
  unfold satsUp
  rw [List.take_take, List.take_take, show min 3 (k + 1) = 3 by omega, show min 3 k = 3 by omega]
theorem custsUp_lt {x : SmallD} {k : Nat} (h : k < x.custs.length) (h3 : k < 6) : custsUp x (k + 1) = custsUp x k ++ [custOf x x.custs[k]] := by
  unfold custsUp
  rw [List.take_take, List.take_take, show min 6 (k + 1) = k + 1 by omega, show min 6 k = k by omega, List.take_succ_eq_append_getElem h, List.map_append]
  rfl
theorem custsUp_ge {x : SmallD} {k : Nat} (h3 : 6 ≤ k) : custsUp x (k + 1) = custsUp x k := by
  unfold custsUp
  rw [List.take_take, List.take_take, show min 6 (k + 1) = 6 by omega, show min 6 k = 6 by omega]
theorem satsUp_len {x : SmallD} {k : Nat} (h : k ≤ x.sats.length) : (satsUp x k).length = min k 3 := by unfold satsUp; simp; omega
theorem custsUp_len {x : SmallD} {k : Nat} (h : k ≤ x.custs.length) : (custsUp x k).length = min k 6 := by unfold custsUp; simp; omega
theorem satsOf_len (x : SmallD) : 1 ≤ (satsOf x).length ∧ (satsOf x).length ≤ 3 := by
  unfold satsOf; split
  · simp
  · rename_i h
    have : 0 < x.sats.length := List.length_pos_iff.2 h
    rw [satsUp_len (Nat.le_refl _)]; omega
theorem custsOf_len (x : SmallD) : 1 ≤ (custsOf x).length ∧ (custsOf x).length ≤ 6 := by
  unfold custsOf; split
  · simp
  · rename_i h
    have : 0 < x.custs.length := List.length_pos_iff.2 h
    rw [custsUp_len (Nat.le_refl _)]; omega
theorem nodesOf_le (x : SmallD) : 3 ≤ nodesOf x ∧ nodesOf x ≤ 10 := by
  have := satsOf_len x; have := custsOf_len x; unfold nodesOf; omega

/-- An instance that lies in blocks from B on, each block known, all apart: it may be written. TS, TC, TR, TI: the element types' numbers. -/
def InstOwn (TS TC TR TI : Nat) (w : World) (B : Nat) (x : InstD) (cs : List Value) : Prop :=
  ∃ gs cs1 gc cc1 vco vti gco rco gti rti, cs = [intV x.fin, intV x.tmany, intV x.troom, intV x.bmany, intV x.broom, .slice (some ⟨gs, 0, none⟩) x.sats.length cs1, .slice (some ⟨gc, 0, none⟩) x.custs.length cc1, vco, vti] ∧
    (x.sats.length ≤ cs1 ∧ cs1 ≤ maxLen ∧ x.custs.length ≤ cc1 ∧ cc1 ≤ maxLen) ∧ B ≤ gs ∧ B ≤ gc ∧ Row w gs TS (x.sats.flatMap satV) ∧ Row w gc TC (x.custs.flatMap custV) ∧
    RowsOwn w B TR TI vco x.cost gco rco ∧ RowsOwn w B TR TI vti x.time gti rti ∧ gco ≠ gti ∧ (∀ a ∈ rco, ∀ b ∈ rti, a ≠ b)
theorem RowsOwn.keepOn {w w' : World} {B TR TI TX : Nat} {v : Value} {rows : List (List Int)} {g : Nat} {rs : List Nat} (h : RowsOwn w B TR TI v rows g rs) (hk : ∀ b e cs, Row w b e cs → e ≠ TX → w'.heap[b]? = w.heap[b]?) (h1 : TR ≠ TX) (h2 : TI ≠ TX) :
    RowsOwn w' B TR TI v rows g rs := by
  obtain ⟨c, k0, k1, k2, k3, k4, k5, k6, k7, k8⟩ := h
  exact ⟨c, k0, k1, k2, k3, k4.keep (hk _ _ _ k4 h1), k5, fun i h h' => (k6 i h h').keep (hk _ _ _ (k6 i h h') h2), k7, k8⟩
theorem RowsOwn.mono {w : World} {B B' TR TI : Nat} {v : Value} {rows : List (List Int)} {g : Nat} {rs : List Nat} (h : RowsOwn w B TR TI v rows g rs) (hB : B' ≤ B) : RowsOwn w B' TR TI v rows g rs := by
  obtain ⟨c, k0, k1, k2, k3, k4, k5, k6, k7, k8⟩ := h
  exact ⟨c, k0, k1, k2, Nat.le_trans hB k3, k4, k5, k6, k7, fun b hb => Nat.le_trans hB (k8 b hb)⟩
/-- Nothing but blocks of type TX has changed. -/
theorem InstOwn.keepOn {TS TC TR TI TX B : Nat} {w w' : World} {x : InstD} {cs : List Value} (h : InstOwn TS TC TR TI w B x cs) (hk : ∀ b e cs, Row w b e cs → e ≠ TX → w'.heap[b]? = w.heap[b]?)
    (h1 : TS ≠ TX) (h2 : TC ≠ TX) (h3 : TR ≠ TX) (h4 : TI ≠ TX) : InstOwn TS TC TR TI w' B x cs := by
  obtain ⟨gs, cs1, gc, cc1, vco, vti, gco, rco, gti, rti, k0, k1, k2, k3, k4, k5, k6, k7, k8, k9⟩ := h
  exact ⟨gs, cs1, gc, cc1, vco, vti, gco, rco, gti, rti, k0, k1, k2, k3, k4.keep (hk _ _ _ k4 h1), k5.keep (hk _ _ _ k5 h2), k6.keepOn hk h3 h4, k7.keepOn hk h3 h4, k8, k9⟩
theorem InstOwn.mono {TS TC TR TI B B' : Nat} {w : World} {x : InstD} {cs : List Value} (h : InstOwn TS TC TR TI w B x cs) (hB : B' ≤ B) : InstOwn TS TC TR TI w B' x cs := by
  obtain ⟨gs, cs1, gc, cc1, vco, vti, gco, rco, gti, rti, k0, k1, k2, k3, k4, k5, k6, k7, k8, k9⟩ := h
  exact ⟨gs, cs1, gc, cc1, vco, vti, gco, rco, gti, rti, k0, k1, Nat.le_trans hB k2, Nat.le_trans hB k3, k4, k5, k6.mono hB, k7.mono hB, k8, k9⟩
theorem InstOwn.below {TS TC TR TI B : Nat} {w w' : World} {x : InstD} {cs : List Value} (h : InstOwn TS TC TR TI w B x cs) (hb : Below w.heap.size w w') : InstOwn TS TC TR TI w' B x cs := by
  obtain ⟨gs, cs1, gc, cc1, vco, vti, gco, rco, gti, rti, h0, h1, h2, h3, h4, h5, h6, h7, h8, h9⟩ := h
  exact ⟨gs, cs1, gc, cc1, vco, vti, gco, rco, gti, rti, h0, h1, h2, h3, h4.below hb, h5.below hb, h6.below hb, h7.below hb, h8, h9⟩
end Go.Proofs.Ytafhjfkdlmijdaa
/- An instance that lies in blocks of its own reads as an instance. No program in sight. -/
namespace Go.Proofs.Ytafhjfkdlmijdaa
open Go.RowKit

def InstWf (x : InstD) : Prop :=
  (wf64 x.fin ∧ wf64 x.tmany ∧ wf64 x.troom ∧ wf64 x.bmany ∧ wf64 x.broom) ∧ (∀ s ∈ x.sats, wf64 s.room ∧ wf64 s.hold) ∧ (∀ c ∈ x.custs, wf64 c.load ∧ wf64 c.opn ∧ wf64 c.cls ∧ wf64 c.stay) ∧
    (∀ r ∈ x.cost, r.length ≤ maxLen ∧ ∀ v ∈ r, wf64 v) ∧ ∀ r ∈ x.time, r.length ≤ maxLen ∧ ∀ v ∈ r, wf64 v

theorem flatMap_get {α β : Type} (f : α → List β) (k : Nat) (hf : ∀ x, (f x).length = k) : ∀ (xs : List α) (i j : Nat) (hi : i < xs.length), j < k → (xs.flatMap f)[i * k + j]? = (f xs[i])[j]?
  | x :: xs, 0, j, _, hj => by
    rw [List.flatMap_cons, Nat.zero_mul, Nat.zero_add, List.getElem?_append_left (by rw [hf]; exact hj)]; rfl
  | x :: xs, i + 1, j, hi, hj => by
    rw [List.flatMap_cons, List.getElem?_append_right (by rw [hf, Nat.succ_mul]; omega), hf, show (i + 1) * k + j - k = i * k + j by rw [Nat.succ_mul]; omega]
    exact flatMap_get f k hf xs i j (by simpa using hi) hj

theorem Row.get {w : World} {g : Nat} {e : TypeId} {cs : List Value} (h : Row w g e cs) {j : Nat} {v : Value} (hv : cs[j]? = some v) : w.cell? ⟨g, j, none⟩ = some v := by
  obtain ⟨hj, rfl⟩ := List.getElem?_eq_some_iff.1 hv
  exact h.cell hj

theorem sats_rep {TS : Nat} {w : World} {F : Nat → Prop} {xs : List SatD} {g c : Nat} (h : Row w g TS (xs.flatMap satV)) (h1 : xs.length ≤ c) (h2 : c ≤ maxLen) (hF : F g) (hw : ∀ s ∈ xs, wf64 s.room ∧ wf64 s.hold) :
    satsS.rep w F xs [.slice (some ⟨g, 0, none⟩) xs.length c] := by
  refine ⟨some ⟨g, 0, none⟩, g, 0, c, rfl, h1, h2, fun _ => ⟨rfl, hF⟩, fun i hi => ⟨satV xs[i], ⟨rfl, hw _ (List.getElem_mem hi)⟩, fun j hj => ?_⟩⟩
  have hj2 : j < 2 := hj
  have e := flatMap_get satV 2 (fun _ => rfl) xs i j hi hj2
  have e2 : (satV xs[i])[j]? = some ((satV xs[i])[j]'hj2) := List.getElem?_eq_getElem hj2
  rw [e2] at e ⊢
  rw [Nat.zero_add]
  exact h.get e
theorem custs_rep {TS : Nat} {w : World} {F : Nat → Prop} {xs : List CustD} {g c : Nat} (h : Row w g TS (xs.flatMap custV)) (h1 : xs.length ≤ c) (h2 : c ≤ maxLen) (hF : F g) (hw : ∀ c ∈ xs, wf64 c.load ∧ wf64 c.opn ∧ wf64 c.cls ∧ wf64 c.stay) :
    custsS.rep w F xs [.slice (some ⟨g, 0, none⟩) xs.length c] := by
  refine ⟨some ⟨g, 0, none⟩, g, 0, c, rfl, h1, h2, fun _ => ⟨rfl, hF⟩, fun i hi => ⟨custV xs[i], ⟨rfl, hw _ (List.getElem_mem hi)⟩, fun j hj => ?_⟩⟩
  have hj2 : j < 4 := hj
  have e := flatMap_get custV 4 (fun _ => rfl) xs i j hi hj2
  have e2 : (custV xs[i])[j]? = some ((custV xs[i])[j]'hj2) := List.getElem?_eq_getElem hj2
  rw [e2] at e ⊢
  rw [Nat.zero_add]
  exact h.get e
theorem ints_rep {TI : Nat} {w : World} {F : Nat → Prop} {xs : List Int} {g c : Nat} (h : Row w g TI (xs.map intV)) (h1 : xs.length ≤ c) (h2 : c ≤ maxLen) (hF : F g) (hw : ∀ v ∈ xs, wf64 v) :
    (sliceS intS).rep w F xs [.slice (some ⟨g, 0, none⟩) xs.length c] := by
  refine ⟨some ⟨g, 0, none⟩, g, 0, c, rfl, h1, h2, fun _ => ⟨rfl, hF⟩, fun i hi => ⟨[intV xs[i]], ⟨rfl, hw _ (List.getElem_mem hi)⟩, fun j hj => ?_⟩⟩
  have hj1 : j < 1 := hj
  have hj0 : j = 0 := by omega
  subst hj0
  show w.cell? ⟨g, 0 + i * 1 + 0, none⟩ = some (intV xs[i])
  rw [show 0 + i * 1 + 0 = i by omega]
  exact h.get (by simp [List.getElem?_eq_getElem hi])
theorem RowsOwn.rep {TR TI B : Nat} {w : World} {v : Value} {rows : List (List Int)} {g : Nat} {rs : List Nat} (h : RowsOwn w B TR TI v rows g rs) (hw : ∀ r ∈ rows, r.length ≤ maxLen ∧ ∀ v ∈ r, wf64 v) :
    rowsS.rep w (fun b => B ≤ b) rows [v] := by
  obtain ⟨c, rfl, h1, h2, h3, h4, h5, h6, h7, h8⟩ := h
  refine ⟨some ⟨g, 0, none⟩, g, 0, c, rfl, h1, h2, fun _ => ⟨rfl, h3⟩, fun i hi => ⟨[rowV (rs[i]'(by omega)) rows[i]], ?_, fun j hj => ?_⟩⟩
  · have hb := h8 _ (List.getElem_mem (l := rs) (n := i) (by omega))
    exact ints_rep (h6 i (by omega) hi) (Nat.le_refl _) (hw _ (List.getElem_mem hi)).1 hb (hw _ (List.getElem_mem hi)).2
  · have hj1 : j < 1 := hj
    have hj0 : j = 0 := by omega
    subst hj0
    show w.cell? ⟨g, 0 + i * 1 + 0, none⟩ = some (rowV (rs[i]'(by omega)) rows[i])
    rw [show 0 + i * 1 + 0 = i by omega]
    exact h4.get (by rw [List.getElem?_zipWith, List.getElem?_eq_getElem (by omega : i < rs.length), List.getElem?_eq_getElem hi])
theorem InstOwn.rep {TS TC TR TI B : Nat} {w : World} {x : InstD} {cs : List Value} (h : InstOwn TS TC TR TI w B x cs) (hw : InstWf x) : instS.rep w (fun b => B ≤ b) x cs := by
  obtain ⟨gs, cs1, gc, cc1, vco, vti, gco, rco, gti, rti, rfl, ⟨k1, k2, k3, k4⟩, h2, h3, h4, h5, h6, h7, -, -⟩ := h
  exact ⟨_, _, _, _, rfl, hw.1, sats_rep h4 k1 k2 h2 hw.2.1, custs_rep h5 k3 k4 h3 hw.2.2.1, h6.rep hw.2.2.2.1, h7.rep hw.2.2.2.2⟩
/-- Its cells written out. -/
theorem InstOwn.lit {TS TC TR TI B : Nat} {w : World} {x : InstD} {cs : List Value} (h : InstOwn TS TC TR TI w B x cs) : ∃ gs cs1 gc cc1 gco cco gti cti,
    cs = [.int .i64 x.fin, .int .i64 x.tmany, .int .i64 x.troom, .int .i64 x.bmany, .int .i64 x.broom, .slice (some ⟨gs, 0, none⟩) x.sats.length cs1, .slice (some ⟨gc, 0, none⟩) x.custs.length cc1, .slice (some ⟨gco, 0, none⟩) x.cost.length cco, .slice (some ⟨gti, 0, none⟩) x.time.length cti] := by
  obtain ⟨gs, cs1, gc, cc1, vco, vti, gco, rco, gti, rti, rfl, -, -, -, -, -, ⟨c, rfl, _⟩, ⟨c', rfl, _⟩, -, -⟩ := h
  exact ⟨_, _, _, _, _, _, _, _, rfl⟩
end Go.Proofs.Ytafhjfkdlmijdaa
/- A region that draws its order: what only reads is taken in the text's order, the calls and stores one behind the other; the last ones may write what was read. -/
namespace Go.Proofs.Ytafhjfkdlmijdaa
open Go.RowKit
section
variable {P : Program} {ops : Array Oper} {Q : Exit → Act → World → Prop} {md : Region.Mode} {S : World → Prop}

/-- Whatever order is picked; S holds behind every operation but the final ones. -/
def wpAnyF (P : Program) (md : Region.Mode) (ops : Array Oper) (Q : Exit → Act → World → Prop) (S : World → Prop) (fins : List Nat) : Nat → Array Bool → Act → World → Prop
  | 0, listed, a, w => Region.ready md ops listed = [] ∧ Q .normal a w
  | fuel + 1, listed, a, w =>
    (Region.ready md ops listed = [] → Q .normal a w) ∧
    ∀ i ∈ Region.ready md ops listed, wpOp P ops Q i (fun a' w' => (i ∈ fins ∨ S w') ∧ wpAnyF P md ops Q S fins fuel (listed.setIfInBounds i true) a' w') a w
theorem wpAny_of_F {fins : List Nat} : ∀ (fuel : Nat) (listed : Array Bool) (a : Act) (w : World), wpAnyF P md ops Q S fins fuel listed a w → wpAny P md ops Q fuel listed a w
  | 0, _, _, _, h => h
  | fuel + 1, _, _, _, h => ⟨h.1, fun i hi => wpOp_mono (fun a' w' h' => wpAny_of_F fuel _ a' w' h'.2) (h.2 i hi)⟩

/-- What a listed operation waits for is listed. -/
def Closed (md : Region.Mode) (ops : Array Oper) (listed : Array Bool) : Prop :=
  ∀ j oj, ops[j]? = some oj → listed.getD j false = true → ∀ e ∈ oj.after, Region.binds md e = true → listed.getD e.on false = true
theorem Closed.set {i : Nat} {listed : Array Bool} (h : Closed md ops listed) (hi : i ∈ Region.ready md ops listed) : Closed md ops (listed.setIfInBounds i true) := by
  obtain ⟨_, oi, hoi, hall⟩ := mem_ready.1 hi
  intro j oj hj hl e he hb
  by_cases hij : i = j
  · subst hij
    have : oj = oi := Option.some.inj (hj.symm.trans hoi)
    subst this
    exact getD_set_true (hall e he hb)
  · rw [getD_set_ne false hij] at hl
    exact getD_set_true (h j oj hj hl e he hb)
def waitsT (md : Region.Mode) (ops : Array Oper) : Nat → Nat → Nat → Bool
  | 0, _, _ => false
  | f + 1, j, i => Region.waitsFor md ops j i || (List.range ops.size).any fun k => Region.waitsFor md ops j k && waitsT md ops f k i
theorem waitsT_listed {listed : Array Bool} (hc : Closed md ops listed) : ∀ (f j i : Nat), waitsT md ops f j i = true → (∀ oj, ops[j]? = some oj → ∀ e ∈ oj.after, Region.binds md e = true → listed.getD e.on false = true) → listed.getD i false = true
  | 0, _, _, h, _ => by cases h
  | f + 1, j, i, h, hp => by
    simp only [waitsT, Bool.or_eq_true, List.any_eq_true, Bool.and_eq_true] at h
    rcases h with h | ⟨k, _, h1, h2⟩
    · obtain ⟨oj, hoj, e, he, hb, hon⟩ := Region.waitsFor_spec h
      rw [← hon]; exact hp oj hoj e he hb
    · obtain ⟨oj, hoj, e, he, hb, hon⟩ := Region.waitsFor_spec h1
      have hk : listed.getD k false = true := by rw [← hon]; exact hp oj hoj e he hb
      exact waitsT_listed hc f k i h2 fun ok hok e he hb => hc k ok hok hk e he hb

theorem wpAnyF_first {fins : List Nat} {i : Nat} {oi : Oper} {v : Value} (hi : ops[i]? = some oi) (hsel : ∀ (j : Nat) (o : Oper) cs b, ops[j]? = some o → o.op ≠ .select cs b)
    (hQ : ∀ c a w, Q (.panic c) (a.put oi.dst v) w → Q (.panic c) a w) (hnf : i ∉ fins) (hfin : ∀ j ∈ fins, waitsT md ops ops.size j i = true) :
    ∀ (fuel : Nat) (listed : Array Bool) (a : Act) (w : World), Closed md ops listed →
      (∀ j oj, ops[j]? = some oj → j ≠ i → listed.getD j true = false → (∀ e ∈ oj.after, Region.binds md e = true → e.on ≠ i) → oi.apart ops oj = true) →
      i ∈ Region.ready md ops listed → YieldsIf P ops S oi v a → S w →
      wpAnyF P md ops Q S fins fuel (listed.setIfInBounds i true) (a.put oi.dst v) w → wpAnyF P md ops Q S fins (fuel + 1) listed a w := by
  intro fuel
  induction fuel with
  | zero =>
    intro listed a w _ _ hr hy hS H
    refine ⟨fun h => (by rw [h] at hr; cases hr), fun j hj => ?_⟩
    by_cases hji : j = i
    · subst hji; exact hy.wpOp hi hS ⟨.inr hS, H⟩
    · have := ready_mono hj hji
      rw [H.1] at this
      cases this
  | succ fuel ih =>
    intro listed a w hcl hfree hr hy hS H
    refine ⟨fun h => (by rw [h] at hr; cases hr), fun j hj => ?_⟩
    by_cases hji : j = i
    · subst hji; exact hy.wpOp hi hS ⟨.inr hS, H⟩
    · have h1 := H.2 j (ready_mono hj hji)
      obtain ⟨hjun, oj, hoj, hall⟩ := mem_ready.1 hj
      have hnot : ∀ e ∈ oj.after, Region.binds md e = true → e.on ≠ i := fun e he hb heq => by
        have h1 := hall e he hb
        have h0 := (mem_ready.1 hr).1
        rw [heq] at h1
        rcases Nat.lt_or_ge i listed.size with h' | h'
        · simp [h'] at h0 h1; rw [h0] at h1; cases h1
        · simp [Array.getElem?_eq_none h'] at h1
      have hjf : j ∉ fins := fun hf => by
        have h1 := waitsT_listed hcl _ _ _ (hfin j hf) (fun oj' hoj' => by
          have : oj' = oj := Option.some.inj (hoj'.symm.trans hoj)
          subst this
          exact hall)
        rw [getD_both (mem_ready.1 hr).1] at h1
        cases h1
      have h2 := wpOp_putIf hoj (hfree j oj hoj hji hjun hnot) (fun cs b => hsel i oi cs b hi) (fun cs b => hsel j oj cs b hoj) hQ hy h1
      have hfree' : ∀ k ok, ops[k]? = some ok → k ≠ i → (listed.setIfInBounds j true).getD k true = false →
          (∀ e ∈ ok.after, Region.binds md e = true → e.on ≠ i) → oi.apart ops ok = true := fun k ok hk hki hun hno => by
        refine hfree k ok hk hki ?_ hno
        by_cases hjk : j = k
        · subst hjk; exact hjun
        · rw [getD_set_ne true hjk] at hun; exact hun
      refine wpOp_mono (fun a' w' h3 => ⟨.inr (h3.2.1.resolve_left hjf), ih (listed.setIfInBounds j true) a' w' (hcl.set hj) hfree' (ready_mono hr (Ne.symm hji)) h3.1 (h3.2.1.resolve_left hjf) ?_⟩) h2
      rw [Array.setIfInBounds_comm _ _ hji]
      exact h3.2.2

/-- Operations that give a value and enter nothing. -/
def valB : Op → Bool
  | .move _ | .assign _ | .pick .. | .build .. | .load .. | .binOp .. | .unOp .. | .convert .. | .slice .. | .fieldAddr .. | .field .. | .indexAddr .. | .index .. | .extract .. | .typeAssert .. | .nilCheck _ => true
  | .call { callee := .builtin .len, .. } => true
  | .call { callee := .builtin .max, .. } => true
  | .call { callee := .builtin .min, .. } => true
  | _ => false
theorem run_val {x : Sem Value} {w w' : World} {r : Next} (h : ((do pure (Next.value (← x))) : Sem Next).run P w = .ok r w') : ∃ v, r = .value v := by
  rw [Sem.run_bind] at h
  cases hx : x.run P w with
  | ok v w1 => rw [hx] at h; simp only [Result.andThen] at h; exact ⟨v, (Result.ok.inj h).1.symm⟩
  | halt k w1 => rw [hx] at h; simp [Result.andThen] at h
theorem run_bind_val {α : Type} {x : Sem α} {f : α → Sem Next} (hf : ∀ a w w' r, (f a).run P w = .ok r w' → ∃ v, r = Next.value v) {w w' : World} {r : Next} (h : (x >>= f).run P w = .ok r w') : ∃ v, r = .value v := by
  rw [Sem.run_bind] at h
  cases hx : x.run P w with
  | ok v w1 => rw [hx] at h; exact hf v w1 w' r h
  | halt k w1 => rw [hx] at h; simp [Result.andThen] at h
theorem valB_spec {ρ : Operand → Value} {o : Oper} (h : valB o.op = true) {w w' : World} {r : Next} (hr : (execOp ρ o).run P w = .ok r w') : ∃ v, r = .value v := by
  obtain ⟨dst, op, type, pos, after, guard⟩ := o
  cases op <;> simp only [valB, Bool.false_eq_true] at h
  case move => exact ⟨_, (Result.ok.inj hr).1.symm⟩
  case assign => exact ⟨_, (Result.ok.inj hr).1.symm⟩
  case pick c x y =>
    rw [show execOp ρ ⟨dst, .pick c x y, type, pos, after, guard⟩ = (do pure (.value (if ← asBool (ρ c) then ρ x else ρ y))) from rfl, Sem.run_bind] at hr
    cases hx : (asBool (ρ c)).run P w with
    | ok v w1 => rw [hx] at hr; simp only [Result.andThen] at hr; exact ⟨_, (Result.ok.inj hr).1.symm⟩
    | halt k w1 => rw [hx] at hr; simp [Result.andThen] at hr
  case call c =>
    obtain ⟨callee, args, ats⟩ := c
    cases callee with
    | value f => exact Bool.noConfusion h
    | invoke r m => exact Bool.noConfusion h
    | builtin b =>
      cases b
      case len => exact run_val (x := Builtin.len_ ats type (args.map ρ)) hr
      case max => exact run_val (x := Builtin.max_ ats type (args.map ρ)) hr
      case min => exact run_val (x := Builtin.min_ ats type (args.map ρ)) hr
      all_goals exact Bool.noConfusion h
  case nilCheck x =>
    rw [show execOp ρ ⟨dst, .nilCheck x, type, pos, after, guard⟩ = _ from rfl] at hr
    unfold execOp at hr
    simp only [] at hr
    split at hr
    · simp [runtimePanic] at hr
    · simp [runtimePanic] at hr
    · simp [runtimePanic] at hr
    · split at hr
      · simp [runtimePanic] at hr
      · refine run_bind_val (fun a w w' r h => run_bind_val (fun b w w' r h => ?_) h) hr
        split at h
        · refine run_bind_val (fun a2 w2 w3 r2 h2 => ?_) h
          exact ⟨_, (Result.ok.inj h2).1.symm⟩
        · exact ⟨_, (Result.ok.inj h).1.symm⟩
      · exact ⟨_, (Result.ok.inj hr).1.symm⟩
    · exact ⟨_, (Result.ok.inj hr).1.symm⟩
  all_goals exact run_val hr

/-- The worlds that meet S. -/
structure At (S : World → Prop) where
  val : World
  ok : S val
/-- The lexical walk of what only reads, then one operation, and so on; behind a final one S need not hold. -/
def wpMix (P : Program) (ops : Array Oper) (S : World → Prop) (Q : Exit → Act → World → Prop) : List (List Oper × Oper × Bool) → Act → World → Prop
  | [], a, w => Q .normal a w
  | (lq, o, true) :: rest, a, w => wpQuiet P ops (fun w' => ∃ e : At S, w' = e.val) (fun a' => wpList P ops (Exit.then (fun a'' w'' => wpMix P ops S Q rest a'' w'') Q) [o] a' w) lq a
  | (lq, o, false) :: rest, a, w => wpQuiet P ops (fun w' => ∃ e : At S, w' = e.val) (fun a' => wpList P ops (Exit.then (fun a'' w'' => S w'' ∧ wpMix P ops S Q rest a'' w'') Q) [o] a' w) lq a

/-- The same by numbers. -/
def mixOf (ops : Array Oper) : List (List Nat × Nat × Bool) → List (List Oper × Oper × Bool) := fun l => l.map fun (lq, i, f) => (lq.map fun j => ops.getD j default, ops.getD i default, f)

def quietB (md : Region.Mode) (ops : Array Oper) (fins : List Nat) : List Nat → Array Bool → Option (Array Bool)
  | [], listed => some listed
  | i :: rest, listed =>
    if (Region.ready md ops listed).contains i && Region.free md ops listed i && decide (i ∉ fins) && fins.all (fun j => waitsT md ops ops.size j i) && valB (ops.getD i default).op && decide (i < ops.size) then quietB md ops fins rest (listed.setIfInBounds i true) else none
def mixB (md : Region.Mode) (ops : Array Oper) (fins : List Nat) : List (List Nat × Nat × Bool) → Array Bool → Bool
  | [], listed => (Region.ready md ops listed).isEmpty
  | (lq, i, f) :: rest, listed =>
    match quietB md ops fins lq listed with
    | none => false
    | some listed' => decide (Region.ready md ops listed' = [i]) && (f == fins.contains i) && (!f || lq.isEmpty && rest.all (fun x => x.2.2 && x.1.isEmpty)) && decide (i < ops.size) && mixB md ops fins rest (listed'.setIfInBounds i true)
def mixFuel : List (List Nat × Nat × Bool) → Nat
  | [] => 0
  | (lq, _, _) :: rest => lq.length + 1 + mixFuel rest

theorem quiet_yields {o : Oper} {a : Act} {K : Act → Prop} (hv : valB o.op = true) (h : o.quiet P a (fun w' => ∃ e : At S, w' = e.val) K) (hw : Region.wanted o (yielded ops a.tmps) = true) :
    ∃ v, YieldsIf P ops S o v a ∧ K (a.put o.dst v) := by
  obtain ⟨v, h1, h2⟩ := h
  refine ⟨v, .inl ⟨hw, fun w' hS' => ?_⟩, h2⟩
  have h3 := h1 w' ⟨⟨w', hS'⟩, rfl⟩
  unfold Oper.quietAt at h3
  cases hr : (execOp a.eval o).run P w' with
  | halt k w1 => rw [hr] at h3; simp only [Oper.quietUpon] at h3
  | ok r w1 =>
    obtain ⟨u, rfl⟩ := valB_spec hv hr
    rw [hr] at h3
    simp only [Oper.quietUpon] at h3
    rw [h3.1, h3.2]

theorem wpOp_of_list {i : Nat} {o : Oper} {K : Act → World → Prop} {a : Act} {w : World} (ho : ops[i]? = some o) (h : wpList P ops (Exit.then K Q) [o] a w) : wpOp P ops Q i K a w := by
  unfold wpOp
  simp only [ho]
  unfold wpList at h
  split
  · rename_i hw
    simp only [hw, if_true] at h
    rcases h with h | h
    · refine .inl ?_
      unfold Oper.wp at *
      generalize (execOp a.eval o).run P w = r at *
      cases r with
      | ok n w' =>
        cases n
        case enter f args => exact Calls.mono h fun e w'' he => by cases e <;> exact he
        case row row args => exact Rows.mono h fun _ _ he => he
        all_goals exact h
      | halt x w' => cases x <;> exact h
    · exact .inr h
  · rename_i hw
    simp only [hw] at h
    exact h

theorem quiet_run {fins : List Nat} (hs : Region.noSelect ops = true) (hQ : ∀ c a d v w, Q (.panic c) (Act.put a d v) w → Q (.panic c) a w) {K : Act → Prop} {w : World} (hS : S w) {fuel : Nat} :
    ∀ (lq : List Nat) (listed listed' : Array Bool) (a : Act), Closed md ops listed → quietB md ops fins lq listed = some listed' → wpQuiet P ops (fun w' => ∃ e : At S, w' = e.val) K (lq.map fun j => ops.getD j default) a →
      (∀ a', Closed md ops listed' → K a' → wpAnyF P md ops Q S fins fuel listed' a' w) → wpAnyF P md ops Q S fins (lq.length + fuel) listed a w
  | [], listed, listed', a, hcl, hB, h, hK => by
    simp only [quietB, Option.some.injEq] at hB
    subst hB
    rw [List.length_nil, Nat.zero_add]
    exact hK a hcl h
  | i :: lq, listed, listed', a, hcl, hB, h, hK => by
    simp only [quietB] at hB
    split at hB
    case isFalse => cases hB
    rename_i hc
    simp only [Bool.and_eq_true, decide_eq_true_eq, List.all_eq_true] at hc
    obtain ⟨⟨⟨⟨⟨h1, h2⟩, h3⟩, h4⟩, h5⟩, h6⟩ := hc
    have ho : ops[i]? = some (ops.getD i default) := by simp [Array.getD, h6]
    rw [show (i :: lq).length + fuel = (lq.length + fuel) + 1 by simp; omega]
    by_cases hw : Region.wanted (ops.getD i default) (yielded ops a.tmps) = true
    · have h7 : (ops.getD i default).quiet P a (fun w' => ∃ e : At S, w' = e.val) (wpQuiet P ops (fun w' => ∃ e : At S, w' = e.val) K (lq.map fun j => ops.getD j default)) := by
        simp only [List.map_cons, wpQuiet, hw, if_true] at h
        exact h
      obtain ⟨v, hy, hn⟩ := quiet_yields (ops := ops) h5 h7 hw
      exact wpAnyF_first ho (Region.noSelect_spec hs) (fun c a w => hQ c a _ _ w) h3 h4 _ listed a w hcl (Region.free_spec ho h2) (by simpa using h1) hy hS
        (quiet_run hs hQ hS lq _ _ _ (hcl.set (by simpa using h1)) hB hn hK)
    · have h7 : wpQuiet P ops (fun w' => ∃ e : At S, w' = e.val) K (lq.map fun j => ops.getD j default) (a.put (ops.getD i default).dst undef) := by
        simp only [List.map_cons, wpQuiet, hw] at h
        exact h
      exact wpAnyF_first ho (Region.noSelect_spec hs) (fun c a w => hQ c a _ _ w) h3 h4 _ listed a w hcl (Region.free_spec ho h2) (by simpa using h1) (.inr ⟨by simpa using hw, rfl⟩) hS
        (quiet_run hs hQ hS lq _ _ _ (hcl.set (by simpa using h1)) hB h7 hK)

theorem mix_run {fins : List Nat} (hs : Region.noSelect ops = true) (hQ : ∀ c a d v w, Q (.panic c) (Act.put a d v) w → Q (.panic c) a w) :
    ∀ (l : List (List Nat × Nat × Bool)) (listed : Array Bool) (a : Act) (w : World), Closed md ops listed → mixB md ops fins l listed = true → (S w ∨ l.all (fun x => x.2.2 && x.1.isEmpty) = true) →
      wpMix P ops S Q (mixOf ops l) a w → wpAnyF P md ops Q S fins (mixFuel l) listed a w
  | [], listed, a, w, _, hB, _, h => ⟨by simpa [mixB] using hB, h⟩
  | (lq, i, f) :: rest, listed, a, w, hcl, hB, hS, h => by
    simp only [mixB] at hB
    split at hB
    case h_1 => cases hB
    rename_i listed' hq
    simp only [Bool.and_eq_true, decide_eq_true_eq, beq_iff_eq] at hB
    obtain ⟨⟨⟨⟨h1, h2⟩, h3⟩, h4⟩, h5⟩ := hB
    have ho : ops[i]? = some (ops.getD i default) := by simp [Array.getD, h4]
    have step : ∀ (K : Act → World → Prop) (a' : Act) (w1 : World), wpList P ops (Exit.then K Q) [ops.getD i default] a' w1 → (∀ a'' w'', K a'' w'' → (i ∈ fins ∨ S w'') ∧ wpAnyF P md ops Q S fins (mixFuel rest) (listed'.setIfInBounds i true) a'' w'') →
        wpAnyF P md ops Q S fins (mixFuel rest + 1) listed' a' w1 := fun K a' w1 hl hK => by
      refine ⟨fun h0 => (by rw [h1] at h0; cases h0), fun j hj => ?_⟩
      rw [h1, List.mem_singleton] at hj
      subst hj
      exact wpOp_mono (fun a'' w'' hk => hK a'' w'' hk) (wpOp_of_list ho hl)
    have hfu : mixFuel ((lq, i, f) :: rest) = lq.length + (mixFuel rest + 1) := by simp only [mixFuel]; omega
    rw [hfu]
    cases f with
    | false =>
      have hS1 : S w := by
        rcases hS with hS | hS
        · exact hS
        · simp at hS
      simp only [mixOf, List.map_cons, wpMix] at h
      exact quiet_run hs hQ hS1 lq listed listed' a hcl hq h fun a' hcl' hl => step _ a' w hl fun a'' w'' ⟨hs2, hm⟩ => ⟨.inr hs2, mix_run hs hQ rest _ a'' w'' (hcl'.set (by rw [h1]; exact List.mem_singleton.2 rfl)) h5 (.inl hs2) hm⟩
    | true =>
      have hif : i ∈ fins := by simpa using h2.symm
      simp only [Bool.not_true, Bool.false_or, Bool.and_eq_true, List.isEmpty_iff] at h3
      obtain ⟨rfl, hr⟩ := h3
      simp only [quietB, Option.some.injEq] at hq
      subst hq
      simp only [mixOf, List.map_cons, List.map_nil, wpMix, wpQuiet] at h
      rw [List.length_nil, Nat.zero_add]
      exact step _ a w h fun a'' w'' hm => ⟨.inl hif, mix_run hs hQ rest _ a'' w'' (hcl.set (by rw [h1]; exact List.mem_singleton.2 rfl)) h5 (.inr hr) hm⟩

/-- THE RULE. l: of each step the numbers of what only reads, taken first; then a call, a store ..; the final ones marked 'true'. -/
theorem wp_region_mix {id : Nat} {a : Act} {w : World} (S : World → Prop) (fins : List Nat) (l : List (List Nat × Nat × Bool)) (hm : P.follows .mixedOrders = true)
    (hB : (Region.noSelect ops && mixB .any ops fins l (Array.replicate ops.size false) && decide (mixFuel l = ops.size)) = true) (hQ : ∀ c a d v w, Q (.panic c) (Act.put a d v) w → Q (.panic c) a w) (hS : S w.drew)
    (h : wpMix P ops S Q (mixOf ops l) a w.drew) : (Code.region id ops true).wp P Q a w := by
  simp only [Bool.and_eq_true, decide_eq_true_eq] at hB
  refine wp_region_any hm (wpAny_of_F (S := S) (fins := fins) _ _ _ _ ?_)
  rw [← hB.2]
  exact mix_run hB.1.1 hQ l _ a _ (fun j oj _ hl => by rw [getD_replicate_false] at hl; cases hl) (by rw [hB.2]; exact hB.1.2) (.inl hS) h
end

/-- S: nothing that was there has changed. -/
def Old (W : World) (w' : World) : Prop := Below W.heap.size W w'
instance (W : World) : Nonempty (At (Old W)) := ⟨⟨W, Below.refl _ _⟩⟩
theorem At.cell {W : World} (x : At (Old W)) {a : Addr} {v : Value} (h : W.cell? a = some v) : x.val.cell? a = some v := below_cell x.ok h
theorem Old.cell' {W w : World} (x : Old W w) {a : Addr} {v : Value} (h : W.cell? a = some v) : w.cell? a = some v := below_cell x h
theorem Old.drew (W : World) : Old W W.drew := Below.drew (Below.refl _ _)
theorem Old.step {W w w' : World} (h : Old W w) (hb : Below w.heap.size w w') : Old W w' := below_step h hb
end Go.Proofs.Ytafhjfkdlmijdaa
/- Contracts: slices.Equal at int, int64, plan.Stop. -/
namespace Go.Proofs.Ytafhjfkdlmijdaa
open Go.RowKit
theorem take_eq_succ {α : Type} {xs ys : List α} {k : Nat} (h1 : k < xs.length) (h2 : k < ys.length) (h : xs.take k = ys.take k) (he : xs[k] = ys[k]) : xs.take (k + 1) = ys.take (k + 1) := by
  rw [List.take_succ_eq_append_getElem h1, List.take_succ_eq_append_getElem h2, h, he]
theorem ne_of_get {α : Type} {xs ys : List α} {k : Nat} (h1 : k < xs.length) (h2 : k < ys.length) (he : xs[k] ≠ ys[k]) : xs ≠ ys := by
  rintro rfl; exact he rfl
theorem eq_of_take {α : Type} {xs ys : List α} (hl : xs.length = ys.length) (h : xs.take xs.length = ys.take xs.length) : xs = ys := by
  rw [List.take_length] at h; rw [h, hl, List.take_length]

set_option maxHeartbeats 400000 in
theorem eqInts_c {w : World} {F G : Nat → Prop} {xs ys : List Int} {u v : Value} (h : (sliceS intS).rep w F xs [u]) (h' : (sliceS intS).rep w G ys [v]) :
    Calls Try.prog 26 #[u, v] w fun e w' => e = .returned (.bool (decide (xs = ys))) ∧ ∃ n, w' = w.drewN n := by
  obtain ⟨a, b, off, c, hs, hlc, hc, ha, -, hcell, -⟩ := ints_open h
  obtain ⟨a', b', off', c', hs', hlc', hc', ha', -, hcell', -⟩ := ints_open h'
  obtain rfl := List.cons.inj hs |>.1
  obtain rfl := List.cons.inj hs' |>.1
  clear hs hs' h h'
  by_cases hl : xs.length = ys.length
  · have hl2 : ((xs.length : Int) == (ys.length : Int)) = true := by simp [hl]
    have hl3 : ((xs.length : Int) != (ys.length : Int)) = false := by simp [hl]
    have HL := hid hl
    clear hl
    go_enter Try.func26, Try.ntmps26
    go_wp2
    go_loopw [5, 13] (fun t i wr => ∃ k : Nat, k ≤ xs.length ∧ i = .int .i64 k ∧ xs.take k = ys.take k ∧ ∃ n, wr = w.drewN n)
      (fun _ i _ => xs.length - (intOf i).toNat)
    case atStart => exact ⟨0, Nat.zero_le _, rfl, rfl, 0, rfl⟩
    case round =>
      obtain ⟨k, hk, rfl, ht, nd, rfl⟩ := hrel
      by_cases hlt : k < xs.length
      · have hlt' : k < ys.length := by have := HL.out; omega
        have g0 := hcell k hlt
        have g1 := hcell' k hlt'
        have hx := idx_at1 (c := c) Try.underlying49 sz_int (ha (by omega)) hlt
        have hx' := idx_at1 (c := c') Try.underlying49 sz_int (ha' (by omega)) hlt'
        have HT := hid ht
        clear hcell hcell' ha ha' ht
        by_cases he : xs[k] = ys[k]
        · have he2 : (xs[k] != ys[k]) = false := by simp [he]
          have HE := hid he
          clear he
          go_wp2
          go_quiet (fail)
          go_wp2
          go_roundw
          case rel => exact ⟨k + 1, by omega, by go_num, take_eq_succ hlt hlt' HT.out HE.out, _, by first | rfl | exact World.drewN_drewN _ _ _⟩
          case measure => simp [intOf]; omega
        · have he2 : (xs[k] != ys[k]) = true := by simp [he]
          have HE := hid he
          clear he
          go_wp2
          go_quiet (fail)
          go_wp2
          go_ret
          exact ⟨ret_bool (decide_eq_false (ne_of_get hlt hlt' HE.out)).symm, _, by first | rfl | exact World.drewN_drewN _ _ _⟩
      · have hke : k = xs.length := by omega
        subst hke
        have HT := hid ht
        clear hcell hcell' ha ha' ht
        go_wp2
        go_ret
        exact ⟨ret_bool (decide_eq_true (eq_of_take HL.out HT.out)).symm, nd, rfl⟩
  · have hl2 : ((xs.length : Int) == (ys.length : Int)) = false := by simp; omega
    have hl3 : ((xs.length : Int) != (ys.length : Int)) = true := by simp; omega
    have HL := hid hl
    clear hl hcell hcell' ha ha'
    go_enter Try.func26, Try.ntmps26
    go_wp2
    go_ret
    exact ⟨ret_bool (decide_eq_false (fun e => HL.out (by rw [e]))).symm, 0, rfl⟩

set_option maxHeartbeats 400000 in
theorem eqI64s_c {w : World} {F G : Nat → Prop} {xs ys : List Int} {u v : Value} (h : (sliceS intS).rep w F xs [u]) (h' : (sliceS intS).rep w G ys [v]) :
    Calls Try.prog 68 #[u, v] w fun e w' => e = .returned (.bool (decide (xs = ys))) ∧ ∃ n, w' = w.drewN n := by
  obtain ⟨a, b, off, c, hs, hlc, hc, ha, -, hcell, -⟩ := ints_open h
  obtain ⟨a', b', off', c', hs', hlc', hc', ha', -, hcell', -⟩ := ints_open h'
  obtain rfl := List.cons.inj hs |>.1
  obtain rfl := List.cons.inj hs' |>.1
  clear hs hs' h h'
  by_cases hl : xs.length = ys.length
  · have hl2 : ((xs.length : Int) == (ys.length : Int)) = true := by simp [hl]
    have hl3 : ((xs.length : Int) != (ys.length : Int)) = false := by simp [hl]
    have HL := hid hl
    clear hl
    go_enter Try.func68, Try.ntmps68
    go_wp2
    go_loopw [5, 13] (fun t i wr => ∃ k : Nat, k ≤ xs.length ∧ i = .int .i64 k ∧ xs.take k = ys.take k ∧ ∃ n, wr = w.drewN n)
      (fun _ i _ => xs.length - (intOf i).toNat)
    case atStart => exact ⟨0, Nat.zero_le _, rfl, rfl, 0, rfl⟩
    case round =>
      obtain ⟨k, hk, rfl, ht, nd, rfl⟩ := hrel
      by_cases hlt : k < xs.length
      · have hlt' : k < ys.length := by have := HL.out; omega
        have g0 := hcell k hlt
        have g1 := hcell' k hlt'
        have hx := idx_at1 (c := c) Try.underlying34 sz_i64 (ha (by omega)) hlt
        have hx' := idx_at1 (c := c') Try.underlying34 sz_i64 (ha' (by omega)) hlt'
        have HT := hid ht
        clear hcell hcell' ha ha' ht
        by_cases he : xs[k] = ys[k]
        · have he2 : (xs[k] != ys[k]) = false := by simp [he]
          have HE := hid he
          clear he
          go_wp2
          go_quiet (fail)
          go_wp2
          go_roundw
          case rel => exact ⟨k + 1, by omega, by go_num, take_eq_succ hlt hlt' HT.out HE.out, _, by first | rfl | exact World.drewN_drewN _ _ _⟩
          case measure => simp [intOf]; omega
        · have he2 : (xs[k] != ys[k]) = true := by simp [he]
          have HE := hid he
          clear he
          go_wp2
          go_quiet (fail)
          go_wp2
          go_ret
          exact ⟨ret_bool (decide_eq_false (ne_of_get hlt hlt' HE.out)).symm, _, by first | rfl | exact World.drewN_drewN _ _ _⟩
      · have hke : k = xs.length := by omega
        subst hke
        have HT := hid ht
        clear hcell hcell' ha ha' ht
        go_wp2
        go_ret
        exact ⟨ret_bool (decide_eq_true (eq_of_take HL.out HT.out)).symm, nd, rfl⟩
  · have hl2 : ((xs.length : Int) == (ys.length : Int)) = false := by simp; omega
    have hl3 : ((xs.length : Int) != (ys.length : Int)) = true := by simp; omega
    have HL := hid hl
    clear hl hcell hcell' ha ha'
    go_enter Try.func68, Try.ntmps68
    go_wp2
    go_ret
    exact ⟨ret_bool (decide_eq_false (fun e => HL.out (by rw [e]))).symm, 0, rfl⟩

set_option maxHeartbeats 400000 in
theorem eqStops_c {w : World} {F G : Nat → Prop} {xs ys : List StopD} {u v : Value} (h : (sliceS stopS).rep w F xs [u]) (h' : (sliceS stopS).rep w G ys [v]) :
    Calls Try.prog 65 #[u, v] w fun e w' => e = .returned (.bool (decide (xs = ys))) ∧ ∃ n, w' = w.drewN n := by
  obtain ⟨a, b, off, c, hs, hlc, hc, ha, -, hcell, -⟩ := stops_open h
  obtain ⟨a', b', off', c', hs', hlc', hc', ha', -, hcell', -⟩ := stops_open h'
  obtain rfl := List.cons.inj hs |>.1
  obtain rfl := List.cons.inj hs' |>.1
  clear hs hs' h h'
  by_cases hl : xs.length = ys.length
  · have hl2 : ((xs.length : Int) == (ys.length : Int)) = true := by simp [hl]
    have hl3 : ((xs.length : Int) != (ys.length : Int)) = false := by simp [hl]
    have HL := hid hl
    clear hl
    go_enter Try.func65, Try.ntmps65
    go_wp2
    go_loopw [5, 13] (fun t i wr => ∃ k : Nat, k ≤ xs.length ∧ i = .int .i64 k ∧ xs.take k = ys.take k ∧ ∃ n, wr = w.drewN n)
      (fun _ i _ => xs.length - (intOf i).toNat)
    case atStart => exact ⟨0, Nat.zero_le _, rfl, rfl, 0, rfl⟩
    case round =>
      obtain ⟨k, hk, rfl, ht, nd, rfl⟩ := hrel
      by_cases hlt : k < xs.length
      · have hlt' : k < ys.length := by have := HL.out; omega
        have g0 := (hcell k hlt).1
        have g1 := (hcell k hlt).2
        have g2 := (hcell' k hlt').1
        have g3 := (hcell' k hlt').2
        have hx := idx_at (c := c) Try.underlying106 sz_stop (ha (by omega)) hlt
        have hx' := idx_at (c := c') Try.underlying106 sz_stop (ha' (by omega)) hlt'
        have HT := hid ht
        clear hcell hcell' ha ha' ht
        cases h1 : (xs[k].sat == ys[k].sat) <;> cases h2 : (xs[k].load == ys[k].load)
        case true.true =>
          have HE := hid (show xs[k] = ys[k] from by
            have e1 := eq_of_beq h1
            have e2 := eq_of_beq h2
            cases h3 : xs[k]; cases h4 : ys[k]; simp_all)
          go_wp2
          go_quiet (fail)
          go_wp2
          go_roundw
          case rel => exact ⟨k + 1, by omega, by go_num, take_eq_succ hlt hlt' HT.out HE.out, _, by first | rfl | exact World.drewN_drewN _ _ _⟩
          case measure => simp [intOf]; omega
        all_goals
          have HE := hid (show ¬ xs[k] = ys[k] from by intro e; rw [e] at h1 h2; simp at h1 h2)
          go_wp2
          go_quiet (fail)
          go_wp2
          go_ret
          exact ⟨ret_bool (decide_eq_false (ne_of_get hlt hlt' HE.out)).symm, _, by first | rfl | exact World.drewN_drewN _ _ _⟩
      · have hke : k = xs.length := by omega
        subst hke
        have HT := hid ht
        clear hcell hcell' ha ha' ht
        go_wp2
        go_ret
        exact ⟨ret_bool (decide_eq_true (eq_of_take HL.out HT.out)).symm, nd, rfl⟩
  · have hl2 : ((xs.length : Int) == (ys.length : Int)) = false := by simp; omega
    have hl3 : ((xs.length : Int) != (ys.length : Int)) = true := by simp; omega
    have HL := hid hl
    clear hl hcell hcell' ha ha'
    go_enter Try.func65, Try.ntmps65
    go_wp2
    go_ret
    exact ⟨ret_bool (decide_eq_false (fun e => HL.out (by rw [e]))).symm, 0, rfl⟩
end Go.Proofs.Ytafhjfkdlmijdaa
/- Contract: wharfagelaw17.Same: two plans, stop by stop. -/
namespace Go.Proofs.Ytafhjfkdlmijdaa
open Go.RowKit

theorem trucks_open {w : World} {F : Nat → Prop} {xs : List (List StopD)} {cs : List Value} (h : trucksS.rep w F xs cs) :
    ∃ (a : Option Addr) (b off c : Nat), cs = [.slice a xs.length c] ∧ xs.length ≤ c ∧ c ≤ 9223372036854775807 ∧ (0 < xs.length → a = some ⟨b, off, none⟩) ∧ (0 < xs.length → F b) ∧
      ∀ k (h : k < xs.length), ∃ v, w.cell? ⟨b, off + k, none⟩ = some v ∧ (sliceS stopS).rep w F xs[k] [v] := rows_open h

theorem bike_eq {a b : BikeD} (h1 : a.sat = b.sat) (h2 : a.stops = b.stops) : a = b := by cases a; cases b; simp_all

/-- Where the two boxes lie. -/
def SameAt (w wr : World) (t b t' b' : Value) : Prop :=
  Below w.heap.size w wr ∧ wr.cell? ⟨w.heap.size, 0, none⟩ = some t ∧ wr.cell? ⟨w.heap.size, 1, none⟩ = some b ∧ wr.cell? ⟨w.heap.size + 1, 0, none⟩ = some t' ∧ wr.cell? ⟨w.heap.size + 1, 1, none⟩ = some b'
theorem SameAt.drewN {w wr : World} {t b t' b' : Value} (h : SameAt w wr t b t' b') (n : Nat) : SameAt w (wr.drewN n) t b t' b' := ⟨below_drewN h.1 n, h.2⟩

set_option maxRecDepth 100000 in
set_option maxHeartbeats 1000000 in
theorem same17_c {w : World} {F G : Nat → Prop} {p q : PlanD} {cs ds : List Value} (h : planS.rep w F p cs) (h' : planS.rep w G q ds) :
    Calls Try.prog 30 #[.agg cs.toArray, .agg ds.toArray] w fun e w' => e = .returned (.bool (decide (p = q))) ∧ Below w.heap.size w w' := by
  obtain ⟨t, b, rfl, h1, h2⟩ := h
  obtain ⟨t', b', rfl, h3, h4⟩ := h'
  obtain ⟨a1, b1, off1, c1, hs, hl1, hc1, ha1, -, hcell1⟩ := trucks_open h1
  obtain ⟨a2, b2, off2, c2, hs2, hl2, hc2, ha2, -, hcell2⟩ := bikes_open h2
  obtain ⟨a3, b3, off3, c3, hs3, hl3, hc3, ha3, -, hcell3⟩ := trucks_open h3
  obtain ⟨a4, b4, off4, c4, hs4, hl4, hc4, ha4, -, hcell4⟩ := bikes_open h4
  obtain rfl := List.cons.inj hs |>.1
  obtain rfl := List.cons.inj hs2 |>.1
  obtain rfl := List.cons.inj hs3 |>.1
  obtain rfl := List.cons.inj hs4 |>.1
  clear hs hs2 hs3 hs4 h1 h2 h3 h4
  by_cases e1 : p.trucks.length = q.trucks.length
  case neg =>
    have hn : ((p.trucks.length : Int) != (q.trucks.length : Int)) = true := by simp; omega
    have HE := hid (show ¬ p = q from by rintro rfl; exact e1 rfl)
    clear e1 hcell1 hcell2 hcell3 hcell4 ha1 ha2 ha3 ha4
    go_enter Try.func30, Try.ntmps30
    go_wp2
    go_ret
    exact ⟨ret_bool (decide_eq_false HE.out).symm, ((Below.refl _ _).alloc (Nat.le_refl _) _).alloc (by simp) _⟩
  by_cases e2 : p.bikes.length = q.bikes.length
  case neg =>
    have hn0 : ((p.trucks.length : Int) != (q.trucks.length : Int)) = false := by simp [e1]
    have hn : ((p.bikes.length : Int) != (q.bikes.length : Int)) = true := by simp; omega
    have HE := hid (show ¬ p = q from by rintro rfl; exact e2 rfl)
    clear e1 e2 hcell1 hcell2 hcell3 hcell4 ha1 ha2 ha3 ha4
    go_enter Try.func30, Try.ntmps30
    go_wp2
    go_ret
    exact ⟨ret_bool (decide_eq_false HE.out).symm, ((Below.refl _ _).alloc (Nat.le_refl _) _).alloc (by simp) _⟩
  have hn0 : ((p.trucks.length : Int) != (q.trucks.length : Int)) = false := by simp [e1]
  have hn1 : ((p.bikes.length : Int) != (q.bikes.length : Int)) = false := by simp [e2]
  have E1 := hid e1
  have E2 := hid e2
  clear e1 e2
  go_enter Try.func30, Try.ntmps30
  go_wp2
  go_loopw [5, 26] (fun _ i wr => ∃ k : Nat, k ≤ p.trucks.length ∧ i = .int .i64 k ∧ p.trucks.take k = q.trucks.take k ∧ SameAt w wr (.slice a1 p.trucks.length c1) (.slice a2 p.bikes.length c2) (.slice a3 q.trucks.length c3) (.slice a4 q.bikes.length c4))
    (fun _ i _ => p.trucks.length - (intOf i).toNat)
  case atStart => exact ⟨0, Nat.zero_le _, rfl, rfl, ((Below.refl _ _).alloc (Nat.le_refl _) _).alloc (by simp) _, by simp, by simp, by simp, by simp⟩
  case round =>
    obtain ⟨k, hk, rfl, ht, hat⟩ := hrel
    have HT := hid ht
    have HA := hid hat
    obtain ⟨hb, q0, q1, q2, q3⟩ := hat
    clear ht
    by_cases hlt : k < p.trucks.length
    · have hlt' : k < q.trucks.length := by have := E1.out; omega
      have hx := idx_at1 (c := c1) Try.underlying39 sz_truck (ha1 (by omega)) hlt
      have hx' := idx_at1 (c := c3) Try.underlying39 sz_truck (ha3 (by omega)) hlt'
      obtain ⟨v1, g1, r1⟩ := hcell1 k hlt
      obtain ⟨v2, g2, r2⟩ := hcell3 k hlt'
      have g1' := below_cell hb g1
      have g2' := below_cell hb g2
      have r1' := (sliceS stopS).below r1 hb
      have r2' := (sliceS stopS).below r2 hb
      clear hcell1 hcell2 hcell3 hcell4 ha1 ha2 ha3 ha4 g1 g2 r1 r2
      by_cases he : p.trucks[k] = q.trucks[k]
      · have HD := hid (decide_eq_true he)
        have HE := hid he
        clear he
        go_wp2
        go_quiet ((go_at_call 65; exact Calls.quiet_of (Calls.bool (eqStops_c ((sliceS stopS).keep r1' (fun _ _ => rfl)) ((sliceS stopS).keep r2' (fun _ _ => rfl))) HD.out)))
        go_wp2
        go_roundw
        case rel => exact ⟨k + 1, by omega, by go_num, take_eq_succ hlt hlt' HT.out HE.out, HA.out.drewN _⟩
        case measure => simp [intOf]; omega
      · have HD := hid (decide_eq_false he)
        have HE := hid (show ¬ p = q from by rintro rfl; exact he rfl)
        clear he
        go_wp2
        go_quiet ((go_at_call 65; exact Calls.quiet_of (Calls.bool (eqStops_c ((sliceS stopS).keep r1' (fun _ _ => rfl)) ((sliceS stopS).keep r2' (fun _ _ => rfl))) HD.out)))
        go_wp2
        go_ret
        exact ⟨ret_bool (decide_eq_false HE.out).symm, (HA.out.drewN _).1⟩
    · have hke : k = p.trucks.length := by omega
      subst hke
      have HT1 := hid (eq_of_take E1.out HT.out)
      clear hcell1 hcell3 ha1 ha3 HT
      go_wp2
      obtain ⟨w1, hw1⟩ : ∃ w1 : World, w1 = wr := ⟨_, rfl⟩
      go_loopw [6, 47] (fun _ i wr => ∃ k : Nat, k ≤ p.bikes.length ∧ i = .int .i64 k ∧ p.bikes.take k = q.bikes.take k ∧ SameAt w wr (.slice a1 p.trucks.length c1) (.slice a2 p.bikes.length c2) (.slice a3 q.trucks.length c3) (.slice a4 q.bikes.length c4))
        (fun _ i _ => p.bikes.length - (intOf i).toNat)
      case atStart => exact ⟨0, Nat.zero_le _, rfl, rfl, HA.out⟩
      case round =>
        clear hb q0 q1 q2 q3 HA hw1 w1
        obtain ⟨k, hk, rfl, ht, hat⟩ := hrel
        have HT := hid ht
        have HA := hid hat
        obtain ⟨hb, q0, q1, q2, q3⟩ := hat
        clear ht
        by_cases hlt : k < p.bikes.length
        · have hlt' : k < q.bikes.length := by have := E2.out; omega
          have hx := idx_at (c := c2) Try.underlying44 sz_bike (ha2 (by omega)) hlt
          have hx' := idx_at (c := c4) Try.underlying44 sz_bike (ha4 (by omega)) hlt'
          obtain ⟨v1, g1, f1, -, r1⟩ := hcell2 k hlt
          obtain ⟨v2, g2, f2, -, r2⟩ := hcell4 k hlt'
          have g1' := below_cell hb g1
          have g2' := below_cell hb g2
          have f1' := below_cell hb f1
          have f2' := below_cell hb f2
          have r1' := (sliceS intS).below r1 hb
          have r2' := (sliceS intS).below r2 hb
          clear hcell2 hcell4 ha2 ha4 g1 g2 f1 f2 r1 r2
          by_cases hs : p.bikes[k].sat = q.bikes[k].sat
          · have hs2 : (p.bikes[k].sat != q.bikes[k].sat) = false := by simp [hs]
            by_cases he : p.bikes[k].stops = q.bikes[k].stops
            · have HD := hid (decide_eq_true he)
              have HE := hid (bike_eq hs he)
              clear he hs
              go_wp2
              go_quiet ((go_at_call 26; exact Calls.quiet_of (Calls.bool (eqInts_c ((sliceS intS).keep r1' (fun _ _ => rfl)) ((sliceS intS).keep r2' (fun _ _ => rfl))) HD.out)))
              go_wp2
              go_roundw
              case rel => exact ⟨k + 1, by omega, by go_num, take_eq_succ hlt hlt' HT.out HE.out, HA.out.drewN _⟩
              case measure => simp [intOf]; omega
            · have HD := hid (decide_eq_false he)
              have HE := hid (show ¬ p = q from by rintro rfl; exact he rfl)
              clear he hs
              go_wp2
              go_quiet ((go_at_call 26; exact Calls.quiet_of (Calls.bool (eqInts_c ((sliceS intS).keep r1' (fun _ _ => rfl)) ((sliceS intS).keep r2' (fun _ _ => rfl))) HD.out)))
              go_wp2
              go_ret
              exact ⟨ret_bool (decide_eq_false HE.out).symm, (HA.out.drewN _).1⟩
          · have hs2 : (p.bikes[k].sat != q.bikes[k].sat) = true := by simp [hs]
            have HE := hid (show ¬ p = q from by rintro rfl; exact hs rfl)
            clear hs
            go_wp2
            go_quiet (fail)
            go_wp2
            go_ret
            exact ⟨ret_bool (decide_eq_false HE.out).symm, (HA.out.drewN _).1⟩
        · have hke : k = p.bikes.length := by omega
          subst hke
          have HT2 := hid (eq_of_take E2.out HT.out)
          clear hcell2 hcell4 ha2 ha4 HT
          go_wp2
          go_ret
          exact ⟨ret_bool (decide_eq_true (show p = q from by have e1 := HT1.out; have e2 := HT2.out; cases p; cases q; simp_all)).symm, hb⟩
end Go.Proofs.Ytafhjfkdlmijdaa
