/- Contracts: inst.Load, and the function inside of wharfagelaw17.Code. -/
import Derived.Test.YtafhjfkdlmijdaaGc
import Derived.Deep.DeepCutAuto
namespace Go.Proofs.Ytafhjfkdlmijdaa
open Go.RowKit

/-- inst.Load -/
def loadAll (x : InstD) : Int := (x.custs.map CustD.load).sum
theorem loadUp_succ {l : List CustD} {k : Nat} (h : k < l.length) : ((l.take (k + 1)).map CustD.load).sum = ((l.take k).map CustD.load).sum + l[k].load := by
  rw [List.take_succ_eq_append_getElem h, List.map_append, List.sum_append]; simp
theorem loadAll_c {w : World} {F : Nat → Prop} {x : InstD} {cs : List Value} (h : instS.rep w F x cs) (hcu : ∀ c ∈ x.custs, 0 ≤ c.load ∧ c.load ≤ 1000000000) (hn : x.custs.length ≤ 1000000) :
    Calls Try.prog 32 #[.agg cs.toArray] w fun e w' => e = .returned (.int .i64 (loadAll x)) ∧ Below w.heap.size w w' := by
  obtain ⟨s, c, co, ti, rfl, -, h1, h2, -, -⟩ := h
  obtain ⟨a', b', off', c1', hs', hlc', hc', ha', -, hcell', -⟩ := custs_open h2
  obtain rfl := List.cons.inj hs' |>.1
  clear hs' h1 h2
  go_enter Try.func32, Try.ntmps32
  go_wp2
  go_loopw [3, 9] (fun ss i wr => ∃ (k : Nat) (v : Int), k ≤ x.custs.length ∧ i = .int .i64 k ∧ ss = .int .i64 v ∧ v = ((x.custs.take k).map CustD.load).sum ∧ (0 ≤ v ∧ v ≤ 1000000000 * (k : Int)) ∧ Below w.heap.size w wr) (fun _ i _ => x.custs.length - (intOf i).toNat)
  case atStart => exact ⟨0, 0, Nat.zero_le _, rfl, rfl, rfl, by decide, (Below.refl _ _).alloc (Nat.le_refl _) _⟩
  case round =>
    obtain ⟨k, v, hk, rfl, rfl, hv, hvb, hb⟩ := hrel
    by_cases hlt : k < x.custs.length
    · have hic := idx_at (c := c1') Try.underlying30 sz_cust (ha' (by omega)) hlt
      obtain ⟨g0, g1, g2, g3⟩ := hcell' k hlt
      have q0 := below_cell hb g0
      have q1 := below_cell hb g1
      have q2 := below_cell hb g2
      have q3 := below_cell hb g3
      have hld := hcu _ (List.getElem_mem hlt)
      have HV := hid (loadUp_succ hlt)
      obtain ⟨cu, hce⟩ : ∃ cu, cu = x.custs[k] := ⟨_, rfl⟩
      rw [← hce] at q0 q1 q2 q3 hld HV
      obtain ⟨ld, op, cl, sy⟩ := cu
      simp only [] at q0 q1 q2 q3 hld HV
      have HV0 := hid hv
      have hn2 : (k : Int) ≤ 1000000 := by omega
      clear hce hv g0 g1 g2 g3
      go_wp2
      go_roundw
      case rel => exact ⟨k + 1, v + ld, by omega, by go_num, by go_num, by rw [HV.out, ← HV0.out], by push_cast; omega, by simpa using hb.alloc hb.size _⟩
      case measure => simp [intOf]; omega
    · have hke : k = x.custs.length := by omega
      subst hke
      have HV := hid (show v = loadAll x from by rw [hv, List.take_length]; rfl)
      go_wp2
      go_ret
      exact ⟨by rw [HV.out]; rfl, hb⟩

/-- Is there such a satellite? -/
theorem there_c {w : World} {x : InstD} {q : Nat} {a : Option Addr} {c1 : Nat} {s : Int} (h3 : w.cell? ⟨q, 5, none⟩ = some (.slice a x.sats.length c1)) :
    Calls Try.prog 67 #[.int .i64 s, .pointer (some ⟨q, 0, none⟩)] w fun e w' => e = .returned (.bool (decide (0 ≤ s) && decide (s < x.sats.length))) ∧ w' = w := by
  by_cases e1 : 0 ≤ s
  · by_cases e2 : s < x.sats.length
    all_goals
      go_enter Try.func67, Try.ntmps67
      go_wp2
      go_ret
      exact ⟨by simp [e1, e2], rfl⟩
  · go_enter Try.func67, Try.ntmps67
    go_wp2
    go_ret
    exact ⟨by rw [decide_eq_false (by omega), Bool.false_and]; rfl, rfl⟩
end Go.Proofs.Ytafhjfkdlmijdaa
