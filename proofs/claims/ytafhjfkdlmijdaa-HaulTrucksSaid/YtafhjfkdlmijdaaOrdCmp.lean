/- Contract: haul.Order's comparer. -/
import Derived.Test.YtafhjfkdlmijdaaReal
import Derived.Test.YtafhjfkdlmijdaaOwn
import Derived.Test.YtafhjfkdlmijdaaFacts
namespace Go.Proofs.Ytafhjfkdlmijdaa
open Go.RowKit

def cmpK (ks : List Nat) (a b : Nat) : Int := if ks.getD a 0 < ks.getD b 0 then -1 else if ks.getD b 0 < ks.getD a 0 then 1 else 0
def fltV (k : Nat) : Value := .float .f64 k
theorem sz_f64 : ∀ w, (sizeOf 65).run Try.prog w = .ok 1 w := fun w => by kernel_rfl
set_option maxHeartbeats 800000 in
theorem ordCmp_c {w : World} {ks : List Nat} (hk : ∀ k ∈ ks, k ≤ fInf) {q g : Nat} (hq : w.cell? ⟨q, 0, none⟩ = some (.slice (some ⟨g, 0, none⟩) ks.length ks.length))
    (hg : ∀ k (h : k < ks.length), w.cell? ⟨g, k, none⟩ = some (.float .f64 ks[k])) {a b : Nat} (ha : a < ks.length) (hb : b < ks.length) :
    Calls Try.prog 59 #[.int .i64 a, .int .i64 b, .pointer (some ⟨q, 0, none⟩)] w fun e w' => e = .returned (.int .i64 (cmpK ks a b)) ∧ ∃ n, w' = w.drewN n := by
  have ia : ∀ w, (Instr.indexAt 120 (.slice (some ⟨g, 0, none⟩) ks.length ks.length) (.int .i64 (a : Int))).run Try.prog w = .ok (.pointer (some ⟨g, a, none⟩)) w := fun w => by
    have := idx_at1 (c := ks.length) Try.underlying120 sz_f64 (a := some ⟨g, 0, none⟩) rfl ha w
    rwa [Nat.zero_add] at this
  have ib : ∀ w, (Instr.indexAt 120 (.slice (some ⟨g, 0, none⟩) ks.length ks.length) (.int .i64 (b : Int))).run Try.prog w = .ok (.pointer (some ⟨g, b, none⟩)) w := fun w => by
    have := idx_at1 (c := ks.length) Try.underlying120 sz_f64 (a := some ⟨g, 0, none⟩) rfl hb w
    rwa [Nat.zero_add] at this
  have ca := hg a ha
  have cb := hg b hb
  have ba := hk _ (List.getElem_mem ha)
  have bb := hk _ (List.getElem_mem hb)
  have HC := hid (show cmpK ks a b = if ks[a] < ks[b] then -1 else if ks[b] < ks[a] then 1 else 0 from by
    unfold cmpK; rw [List.getD_eq_getElem?_getD, List.getD_eq_getElem?_getD, List.getElem?_eq_getElem ha, List.getElem?_eq_getElem hb]; rfl)
  generalize ks[a] = x at *
  generalize ks[b] = y at *
  have H1 := hid (less_c x y ba bb)
  have H2 := hid (less_c y x bb ba)
  clear hk hg ba bb
  by_cases h1 : x < y
  · have HD := hid (decide_eq_true h1)
    have HE := hid (show cmpK ks a b = -1 from by rw [HC.out, if_pos h1])
    clear h1
    go_enter Try.func59, Try.ntmps59
    go_wp2_with fail
    go_quiet ((go_at_call 60; exact Calls.quiet_of_same (Calls.bool (H1.out _) HD.out)))
    go_wp2
    go_ret
    exact ⟨ret_int HE.out.symm, _, rfl⟩
  · have HD := hid (decide_eq_false h1)
    by_cases h2 : y < x
    · have HD2 := hid (decide_eq_true h2)
      have HE := hid (show cmpK ks a b = 1 from by rw [HC.out, if_neg h1, if_pos h2])
      clear h1 h2
      go_enter Try.func59, Try.ntmps59
      go_wp2_with fail
      go_quiet ((go_at_call 60; exact Calls.quiet_of_same (Calls.bool (H1.out _) HD.out)))
      go_wp2_with fail
      have hq2 : (w.drewN nq).cell? ⟨q, 0, none⟩ = some (.slice (some ⟨g, 0, none⟩) ks.length ks.length) := hq
      have ca2 : (w.drewN nq).cell? ⟨g, a, none⟩ = some (.float .f64 x) := ca
      have cb2 : (w.drewN nq).cell? ⟨g, b, none⟩ = some (.float .f64 y) := cb
      generalize hwq : w.drewN nq = wq at hq2 ca2 cb2 ⊢
      have HW := hid hwq
      clear hwq hq ca cb
      go_quiet ((go_at_call 60; exact Calls.quiet_of_same (Calls.bool (H2.out _) HD2.out)))
      go_wp2
      go_ret
      exact ⟨ret_int HE.out.symm, _, by rw [← HW.out]; exact World.drewN_drewN _ _ _⟩
    · have HD2 := hid (decide_eq_false h2)
      have HE := hid (show cmpK ks a b = 0 from by rw [HC.out, if_neg h1, if_neg h2])
      clear h1 h2
      go_enter Try.func59, Try.ntmps59
      go_wp2_with fail
      go_quiet ((go_at_call 60; exact Calls.quiet_of_same (Calls.bool (H1.out _) HD.out)))
      go_wp2_with fail
      have hq2 : (w.drewN nq).cell? ⟨q, 0, none⟩ = some (.slice (some ⟨g, 0, none⟩) ks.length ks.length) := hq
      have ca2 : (w.drewN nq).cell? ⟨g, a, none⟩ = some (.float .f64 x) := ca
      have cb2 : (w.drewN nq).cell? ⟨g, b, none⟩ = some (.float .f64 y) := cb
      generalize hwq : w.drewN nq = wq at hq2 ca2 cb2 ⊢
      have HW := hid hwq
      clear hwq hq ca cb
      go_quiet ((go_at_call 60; exact Calls.quiet_of_same (Calls.bool (H2.out _) HD2.out)))
      go_wp2
      go_ret
      exact ⟨ret_int HE.out.symm, _, by rw [← HW.out]; exact World.drewN_drewN _ _ _⟩
end Go.Proofs.Ytafhjfkdlmijdaa
