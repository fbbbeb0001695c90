/- Contract: slices.SortStableFunc of a row of one's own with haul.Order's comparer. -/
import Derived.Test.YtafhjfkdlmijdaaGe
import Derived.Test.YtafhjfkdlmijdaaShelf
import Derived.Test.YtafhjfkdlmijdaaGb
import Derived.Deep.LoopGhost
namespace Go.Proofs.Ytafhjfkdlmijdaa
open Go.RowKit Go.Sort

def ltK (ks : List Nat) (a b : Nat) : Bool := decide (ks.getD a 0 < ks.getD b 0)
def idxV (i : Nat) : Value := .int .i64 (i : Int)
theorem cmpK_lt (ks : List Nat) (a b : Nat) : decide (cmpK ks a b < 0) = ltK ks a b := by
  unfold cmpK ltK
  split
  · rename_i h; rw [decide_eq_true h]; rfl
  · rename_i h; rw [decide_eq_false h]; split <;> rfl
theorem putRow_row {α : Type} [Inhabited α] (enc : α → Value) {w : World} {g : Nat} {e : TypeId} {cs : List Value} (h : Row w g e cs) (l : List α) (hl : l.length = cs.length) (n : Nat) :
    Row ((putRow enc w g 0 l.toArray).drewN n) g e (l.map enc) ∧ w.grownBy ((putRow enc w g 0 l.toArray).drewN n) (some g) := by
  obtain ⟨cur, rest, h1, h2⟩ := h
  refine ⟨⟨putCells enc 0 l.toArray cur, rest, ?_, ?_⟩, rfl, rfl, rfl, ?_, fun b _ hb => ?_⟩
  · show (putRow enc w g 0 l.toArray).heap[g]? = _
    simp [putRow, mapBlock, Array.getElem?_modify, h1, onCells]
  · unfold putCells
    apply List.ext_getElem?
    intro i
    rw [Array.getElem?_toList, Array.getElem?_mapIdx, ← Array.getElem?_toList, h2]
    by_cases hi : i < cs.length
    · have hi' : i < l.length := by omega
      rw [List.getElem?_append_left hi, List.getElem?_append_left (by simpa using hi'), List.getElem?_eq_getElem hi, List.getElem?_map, List.getElem?_eq_getElem hi']
      simp only [Option.map_some, Nat.zero_le, true_and, Nat.zero_add, List.size_toArray, Nat.sub_zero]
      rw [if_pos hi', List.getElem!_toArray, List.getElem!_eq_getElem?_getD, List.getElem?_eq_getElem hi']
      rfl
    · have hi' : ¬ i < l.length := by omega
      rw [List.getElem?_append_right (by omega), List.getElem?_append_right (by simpa using hi'), List.length_map, hl]
      simp only [Nat.zero_le, true_and, Nat.zero_add, List.size_toArray, if_neg hi']
      cases rest[i - cs.length]? <;> rfl
  · show _ ≤ (putRow enc w g 0 l.toArray).heap.size
    simp
  · show (putRow enc w g 0 l.toArray).heap[b]? = _
    have hne : ¬ g = b := fun e => hb (by rw [e])
    simp [putRow, mapBlock, Array.getElem?_modify, hne]

theorem sortWorld_cell {α : Type} [Inhabited α] (enc : α → Value) {w : World} {blk m : Nat} {os : Array Obj} {dk : Array α} {a : Addr} {v : Value} (h : w.cell? a = some v) (hb : a.block ≠ blk) : (sortWorld enc w blk 0 m dk os).cell? a = some v := by
  have hlt := cell_lt h
  have e : (sortWorld enc w blk 0 m dk os).heap[a.block]? = w.heap[a.block]? := by
    unfold sortWorld grow
    show ((putRow enc (Sort.ahead w m) blk 0 dk).heap ++ os)[a.block]? = _
    rw [Array.getElem?_append_left (by simpa [Sort.ahead] using hlt)]
    simp [putRow, mapBlock, Array.getElem?_modify, Ne.symm hb, Sort.ahead]
  rw [World.cell?_of_block e]; exact h

set_option maxHeartbeats 800000 in
theorem insertion_c {w : World} {ks xs : List Nat} (hk : ∀ k ∈ ks, k ≤ fInf) {q g blk cap : Nat} (hq : w.cell? ⟨q, 0, none⟩ = some (.slice (some ⟨g, 0, none⟩) ks.length ks.length))
    (hg : ∀ k (h : k < ks.length), w.cell? ⟨g, k, none⟩ = some (.float .f64 ks[k])) (hx : ∀ i ∈ xs, i < ks.length) (h0 : 0 < ks.length) {T : TypeId} (hrow : Row w blk T (xs.map idxV)) (n1 : q ≠ blk) (n2 : g ≠ blk) (hn : xs.length ≤ 1000000) :
    Calls Try.prog 110 #[.slice (some ⟨blk, 0, none⟩) xs.length cap, .int .i64 (0 : Nat), .int .i64 (xs.length : Nat), .func (.func 59) #[] #[.pointer (some ⟨q, 0, none⟩)]] w fun e w' =>
      e = .returned (.tuple #[]) ∧ Row w' blk T ((sortD (ltK ks) xs).map idxV) ∧ w.grownBy w' (some blk) := by
  let enc : Fin ks.length → Value := fun i => idxV i.val
  let cf : Fin ks.length → Fin ks.length → Int := fun a b => cmpK ks a.val b.val
  let d : List (Fin ks.length) := xs.pmap Fin.mk hx
  haveI : Inhabited (Fin ks.length) := ⟨⟨0, h0⟩⟩
  have hdl : d.toArray.size = xs.length := by simp [d]
  have hdv : d.map (fun i => i.val) = xs := by simp [d, List.map_pmap]
  have hde : d.map enc = xs.map idxV := by
    rw [← hdv, List.map_map]; rfl
  have hH : Holds enc w blk 0 d.toArray := by
    intro j hj
    rw [hdl] at hj
    have hj2 : j < d.length := by simpa [d] using hj
    refine ⟨?_, hrow.frozen _⟩
    rw [Nat.zero_add]
    refine hrow.get ?_
    rw [← hde, List.getElem?_map, List.getElem?_eq_getElem hj2, List.getElem!_toArray, List.getElem!_eq_getElem?_getD, List.getElem?_eq_getElem hj2]
    rfl
  have hcmp : CmpReads Try.prog 59 #[.pointer (some ⟨q, 0, none⟩)] enc cf blk 0 d.toArray.size w := by
    intro m os dk hdk x y
    refine (ordCmp_c hk (sortWorld_cell enc hq n1) (fun k h => sortWorld_cell enc (hg k h) n2) x.isLt y.isLt)
  have key := Try.insertionSortCmpFunc_one enc (fun x => rfl) cf 59 #[.pointer (some ⟨q, 0, none⟩)] blk 0 cap 0 xs.length d.toArray w (fun args w => by kernel_rfl) hcmp hH (Nat.zero_le _) (by rw [hdl]; exact Nat.le_refl _) (by rw [hdl]; omega)
  rw [hdl] at key
  refine key.mono ?_
  rintro e w' ⟨rfl, n, rfl⟩
  have hs : Sort.insertionSort (ltOf cf) d.toArray 0 xs.length = (sortD (ltOf cf) d).toArray := by
    have := sort_list (ltOf cf) d
    rwa [show d.length = xs.length by simp [d]] at this
  rw [hs]
  have hm : (sortD (ltOf cf) d).map enc = (sortD (ltK ks) xs).map idxV := by
    have := sortD_map (fun i : Fin ks.length => i.val) (lt := ltOf cf) (lt' := ltK ks) (fun x y => (cmpK_lt ks x.val y.val).symm) d
    rw [hdv] at this
    rw [← this, List.map_map]; rfl
  have hr := putRow_row enc hrow (sortD (ltOf cf) d) (by rw [sortD_len]; simp [d]) n
  rw [hm] at hr
  exact ⟨rfl, hr⟩
set_option maxHeartbeats 800000 in
theorem stable_c {w : World} {ks xs : List Nat} (hk : ∀ k ∈ ks, k ≤ fInf) {q g blk cap : Nat} (hq : w.cell? ⟨q, 0, none⟩ = some (.slice (some ⟨g, 0, none⟩) ks.length ks.length))
    (hg : ∀ k (h : k < ks.length), w.cell? ⟨g, k, none⟩ = some (.float .f64 ks[k])) (hx : ∀ i ∈ xs, i < ks.length) (h0 : 0 < ks.length) {T : TypeId} (hrow : Row w blk T (xs.map idxV)) (n1 : q ≠ blk) (n2 : g ≠ blk) (hn : xs.length < 20) :
    Calls Try.prog 58 #[.slice (some ⟨blk, 0, none⟩) xs.length cap, .func (.func 59) #[] #[.pointer (some ⟨q, 0, none⟩)]] w fun e w' =>
      e = .returned (.tuple #[]) ∧ Row w' blk T ((sortD (ltK ks) xs).map idxV) ∧ w.grownBy w' (some blk) := by
  have H := hid (insertion_c (cap := cap) hk hq hg hx h0 hrow n1 n2 (by omega))
  have inner : Calls Try.prog 91 #[.slice (some ⟨blk, 0, none⟩) xs.length cap, .int .i64 (xs.length : Nat), .func (.func 59) #[] #[.pointer (some ⟨q, 0, none⟩)]] w fun e w' =>
      e = .returned (.tuple #[]) ∧ Row w' blk T ((sortD (ltK ks) xs).map idxV) ∧ w.grownBy w' (some blk) := by
    clear hk hq hg hx h0 hrow n1 n2
    go_enter Try.func91, Try.ntmps91
    go_wp2
    go_loop [7, 8] (fun a b => a = .int .i64 0 ∧ b = .int .i64 20) (fun _ _ => 0)
    case atStart => exact ⟨rfl, rfl⟩
    case round =>
      obtain ⟨rfl, rfl⟩ := hrel
      go_wp2_with fail
      refine H.out.mono ?_
      rintro e w1 ⟨rfl, hr, hb⟩
      have HR := hid hr
      have HB := hid hb
      clear hr hb
      go_wp2
      go_loop [6] (fun a => a = .int .i64 20) (fun _ => 0)
      case atStart => rfl
      case round =>
        obtain rfl := hrel
        go_wp2
        go_end0
        exact ⟨rfl, HR.out, HB.out⟩
  have HI := hid inner
  clear inner H hk hq hg hx h0 hrow n1 n2
  go_enter Try.func58, Try.ntmps58
  go_wp2_with fail
  refine HI.out.mono ?_
  rintro e w1 ⟨rfl, hr, hb⟩
  have HR := hid hr
  have HB := hid hb
  clear hr hb
  go_wp2
  go_end0
  exact ⟨rfl, HR.out, HB.out⟩
/-- Of nothing: nothing. -/
theorem stable_nil {w : World} (q : Nat) :
    Calls Try.prog 58 #[.slice none 0 0, .func (.func 59) #[] #[.pointer (some ⟨q, 0, none⟩)]] w fun e w' => e = .returned (.tuple #[]) ∧ w' = w := by
  have ins : Calls Try.prog 110 #[.slice none 0 0, .int .i64 0, .int .i64 0, .func (.func 59) #[] #[.pointer (some ⟨q, 0, none⟩)]] w fun e w' => e = .returned (.tuple #[]) ∧ w' = w := by
    go_enter Try.func110, Try.ntmps110
    go_wp2
    go_loop [8] (fun a => a = .int .i64 1) (fun _ => 0)
    case atStart => rfl
    case round =>
      obtain rfl := hrel
      go_wp2
      go_end0
      exact ⟨rfl, rfl⟩
  have H := hid ins
  have inner : Calls Try.prog 91 #[.slice none 0 0, .int .i64 0, .func (.func 59) #[] #[.pointer (some ⟨q, 0, none⟩)]] w fun e w' => e = .returned (.tuple #[]) ∧ w' = w := by
    clear ins
    go_enter Try.func91, Try.ntmps91
    go_wp2
    go_loop [7, 8] (fun a b => a = .int .i64 0 ∧ b = .int .i64 20) (fun _ _ => 0)
    case atStart => exact ⟨rfl, rfl⟩
    case round =>
      obtain ⟨rfl, rfl⟩ := hrel
      go_wp2_with fail
      refine H.out.mono ?_
      rintro e w1 ⟨rfl, rfl⟩
      go_wp2
      go_loop [6] (fun a => a = .int .i64 20) (fun _ => 0)
      case atStart => rfl
      case round =>
        obtain rfl := hrel
        go_wp2
        go_end0
        exact ⟨rfl, rfl⟩
  have HI := hid inner
  clear inner H ins
  go_enter Try.func58, Try.ntmps58
  go_wp2_with fail
  refine HI.out.mono ?_
  rintro e w1 ⟨rfl, rfl⟩
  go_wp2
  go_end0
  exact ⟨rfl, rfl⟩
end Go.Proofs.Ytafhjfkdlmijdaa
