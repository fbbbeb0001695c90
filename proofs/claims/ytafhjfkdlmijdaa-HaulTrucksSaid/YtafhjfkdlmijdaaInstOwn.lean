/- An instance that lies in blocks of its own reads as an instance. No program in sight. -/
import Derived.Test.YtafhjfkdlmijdaaSmall
namespace Go.Proofs.Ytafhjfkdlmijdaa
open Go.RowKit

def InstWf (x : InstD) : Prop :=
  (wf64 x.fin ∧ wf64 x.tmany ∧ wf64 x.troom ∧ wf64 x.bmany ∧ wf64 x.broom) ∧ (∀ s ∈ x.sats, wf64 s.room ∧ wf64 s.hold) ∧ (∀ c ∈ x.custs, wf64 c.load ∧ wf64 c.opn ∧ wf64 c.cls ∧ wf64 c.stay) ∧
    (∀ r ∈ x.cost, r.length ≤ maxLen ∧ ∀ v ∈ r, wf64 v) ∧ ∀ r ∈ x.time, r.length ≤ maxLen ∧ ∀ v ∈ r, wf64 v

theorem flatMap_get {α β : Type} (f : α → List β) (k : Nat) (hf : ∀ x, (f x).length = k) : ∀ (xs : List α) (i j : Nat) (hi : i < xs.length), j < k → (xs.flatMap f)[i * k + j]? = (f xs[i])[j]?
  | x :: xs, 0, j, _, hj => by
    rw [List.flatMap_cons, Nat.zero_mul, Nat.zero_add, List.getElem?_append_left (by rw [hf]; exact hj)]; rfl
  | x :: xs, i + 1, j, hi, hj => by
    rw [List.flatMap_cons, List.getElem?_append_right (by rw [hf, Nat.succ_mul]; omega), hf, show (i + 1) * k + j - k = i * k + j by rw [Nat.succ_mul]; omega]
    exact flatMap_get f k hf xs i j (by simpa using hi) hj

theorem Row.get {w : World} {g : Nat} {e : TypeId} {cs : List Value} (h : Row w g e cs) {j : Nat} {v : Value} (hv : cs[j]? = some v) : w.cell? ⟨g, j, none⟩ = some v := by
  obtain ⟨hj, rfl⟩ := List.getElem?_eq_some_iff.1 hv
  exact h.cell hj

theorem sats_rep {TS : Nat} {w : World} {F : Nat → Prop} {xs : List SatD} {g c : Nat} (h : Row w g TS (xs.flatMap satV)) (h1 : xs.length ≤ c) (h2 : c ≤ maxLen) (hF : F g) (hw : ∀ s ∈ xs, wf64 s.room ∧ wf64 s.hold) :
    satsS.rep w F xs [.slice (some ⟨g, 0, none⟩) xs.length c] := by
  refine ⟨some ⟨g, 0, none⟩, g, 0, c, rfl, h1, h2, fun _ => ⟨rfl, hF⟩, fun i hi => ⟨satV xs[i], ⟨rfl, hw _ (List.getElem_mem hi)⟩, fun j hj => ?_⟩⟩
  have hj2 : j < 2 := hj
  have e := flatMap_get satV 2 (fun _ => rfl) xs i j hi hj2
  have e2 : (satV xs[i])[j]? = some ((satV xs[i])[j]'hj2) := List.getElem?_eq_getElem hj2
  rw [e2] at e ⊢
  rw [Nat.zero_add]
  exact h.get e
theorem custs_rep {TS : Nat} {w : World} {F : Nat → Prop} {xs : List CustD} {g c : Nat} (h : Row w g TS (xs.flatMap custV)) (h1 : xs.length ≤ c) (h2 : c ≤ maxLen) (hF : F g) (hw : ∀ c ∈ xs, wf64 c.load ∧ wf64 c.opn ∧ wf64 c.cls ∧ wf64 c.stay) :
    custsS.rep w F xs [.slice (some ⟨g, 0, none⟩) xs.length c] := by
  refine ⟨some ⟨g, 0, none⟩, g, 0, c, rfl, h1, h2, fun _ => ⟨rfl, hF⟩, fun i hi => ⟨custV xs[i], ⟨rfl, hw _ (List.getElem_mem hi)⟩, fun j hj => ?_⟩⟩
  have hj2 : j < 4 := hj
  have e := flatMap_get custV 4 (fun _ => rfl) xs i j hi hj2
  have e2 : (custV xs[i])[j]? = some ((custV xs[i])[j]'hj2) := List.getElem?_eq_getElem hj2
  rw [e2] at e ⊢
  rw [Nat.zero_add]
  exact h.get e
theorem ints_rep {TI : Nat} {w : World} {F : Nat → Prop} {xs : List Int} {g c : Nat} (h : Row w g TI (xs.map intV)) (h1 : xs.length ≤ c) (h2 : c ≤ maxLen) (hF : F g) (hw : ∀ v ∈ xs, wf64 v) :
    (sliceS intS).rep w F xs [.slice (some ⟨g, 0, none⟩) xs.length c] := by
  refine ⟨some ⟨g, 0, none⟩, g, 0, c, rfl, h1, h2, fun _ => ⟨rfl, hF⟩, fun i hi => ⟨[intV xs[i]], ⟨rfl, hw _ (List.getElem_mem hi)⟩, fun j hj => ?_⟩⟩
  have hj1 : j < 1 := hj
  have hj0 : j = 0 := by omega
  subst hj0
  show w.cell? ⟨g, 0 + i * 1 + 0, none⟩ = some (intV xs[i])
  rw [show 0 + i * 1 + 0 = i by omega]
  exact h.get (by simp [List.getElem?_eq_getElem hi])
theorem RowsOwn.rep {TR TI B : Nat} {w : World} {v : Value} {rows : List (List Int)} {g : Nat} {rs : List Nat} (h : RowsOwn w B TR TI v rows g rs) (hw : ∀ r ∈ rows, r.length ≤ maxLen ∧ ∀ v ∈ r, wf64 v) :
    rowsS.rep w (fun b => B ≤ b) rows [v] := by
  obtain ⟨c, rfl, h1, h2, h3, h4, h5, h6, h7, h8⟩ := h
  refine ⟨some ⟨g, 0, none⟩, g, 0, c, rfl, h1, h2, fun _ => ⟨rfl, h3⟩, fun i hi => ⟨[rowV (rs[i]'(by omega)) rows[i]], ?_, fun j hj => ?_⟩⟩
  · have hb := h8 _ (List.getElem_mem (l := rs) (n := i) (by omega))
    exact ints_rep (h6 i (by omega) hi) (Nat.le_refl _) (hw _ (List.getElem_mem hi)).1 hb (hw _ (List.getElem_mem hi)).2
  · have hj1 : j < 1 := hj
    have hj0 : j = 0 := by omega
    subst hj0
    show w.cell? ⟨g, 0 + i * 1 + 0, none⟩ = some (rowV (rs[i]'(by omega)) rows[i])
    rw [show 0 + i * 1 + 0 = i by omega]
    exact h4.get (by rw [List.getElem?_zipWith, List.getElem?_eq_getElem (by omega : i < rs.length), List.getElem?_eq_getElem hi])
theorem InstOwn.rep {TS TC TR TI B : Nat} {w : World} {x : InstD} {cs : List Value} (h : InstOwn TS TC TR TI w B x cs) (hw : InstWf x) : instS.rep w (fun b => B ≤ b) x cs := by
  obtain ⟨gs, cs1, gc, cc1, vco, vti, gco, rco, gti, rti, rfl, ⟨k1, k2, k3, k4⟩, h2, h3, h4, h5, h6, h7, -, -⟩ := h
  exact ⟨_, _, _, _, rfl, hw.1, sats_rep h4 k1 k2 h2 hw.2.1, custs_rep h5 k3 k4 h3 hw.2.2.1, h6.rep hw.2.2.2.1, h7.rep hw.2.2.2.2⟩
/-- Its cells written out. -/
theorem InstOwn.lit {TS TC TR TI B : Nat} {w : World} {x : InstD} {cs : List Value} (h : InstOwn TS TC TR TI w B x cs) : ∃ gs cs1 gc cc1 gco cco gti cti,
    cs = [.int .i64 x.fin, .int .i64 x.tmany, .int .i64 x.troom, .int .i64 x.bmany, .int .i64 x.broom, .slice (some ⟨gs, 0, none⟩) x.sats.length cs1, .slice (some ⟨gc, 0, none⟩) x.custs.length cc1, .slice (some ⟨gco, 0, none⟩) x.cost.length cco, .slice (some ⟨gti, 0, none⟩) x.time.length cti] := by
  obtain ⟨gs, cs1, gc, cc1, vco, vti, gco, rco, gti, rti, rfl, -, -, -, -, -, ⟨c, rfl, _⟩, ⟨c', rfl, _⟩, -, -⟩ := h
  exact ⟨_, _, _, _, _, _, _, _, rfl⟩
end Go.Proofs.Ytafhjfkdlmijdaa
