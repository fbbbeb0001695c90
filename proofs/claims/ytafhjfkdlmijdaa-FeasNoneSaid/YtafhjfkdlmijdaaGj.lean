/- Texts of the proof, joined: KahnD, LateD. -/
import Derived.Test.YtafhjfkdlmijdaaGraph
/- order.Sort in plain words: nodes are taken when nothing leads to them any more. No program in sight. -/
namespace Go.Proofs.Ytafhjfkdlmijdaa
open Go.RowKit

theorem nodup_sub_len {α : Type} [DecidableEq α] : ∀ (l m : List α), l.Nodup → (∀ x ∈ l, x ∈ m) → l.length ≤ m.length
  | [], _, _, _ => Nat.zero_le _
  | a :: l, m, hn, hs => by
    have hn' := List.nodup_cons.1 hn
    have ha := hs a (List.mem_cons_self ..)
    have ih := nodup_sub_len l (m.erase a) hn'.2 fun x hx => (List.mem_erase_of_ne (by rintro rfl; exact hn'.1 hx)).2 (hs x (List.mem_cons_of_mem _ hx))
    rw [List.length_erase_of_mem ha] at ih
    have := List.length_pos_of_mem ha
    rw [List.length_cons]; omega
theorem nodup_lt_len {l : List Nat} {n : Nat} (hn : l.Nodup) (h : ∀ i ∈ l, i < n) : l.length ≤ n := by
  have := nodup_sub_len l (List.range n) hn fun x hx => List.mem_range.2 (h x hx)
  rwa [List.length_range] at this
/-- How many of the first n arcs lead to j and are not done. -/
def cntN (g : GraphD) (D : Nat → Bool) (j : Nat) : Nat → Nat
  | 0 => 0
  | n + 1 => cntN g D j n + if (arcAt g n).dst == j && !D n then 1 else 0
def upd (D : Nat → Bool) (k : Nat) : Nat → Bool := fun m => m == k || D m
theorem cntN_le (g : GraphD) (D : Nat → Bool) (j : Nat) : ∀ n, cntN g D j n ≤ n
  | 0 => Nat.le_refl _
  | n + 1 => by have := cntN_le g D j n; unfold cntN; split <;> omega
theorem cntN_other {g : GraphD} {D : Nat → Bool} {j k : Nat} (h : (arcAt g k).dst ≠ j) : ∀ n, cntN g (upd D k) j n = cntN g D j n
  | 0 => rfl
  | n + 1 => by
    unfold cntN
    rw [cntN_other h n]
    congr 1
    by_cases e : n = k
    · subst e; simp [h]
    · simp [upd, e]
theorem cntN_ge {g : GraphD} {D : Nat → Bool} {j k : Nat} : ∀ n, n ≤ k → cntN g (upd D k) j n = cntN g D j n
  | 0, _ => rfl
  | n + 1, h => by
    unfold cntN
    rw [cntN_ge n (by omega)]
    have e : n ≠ k := by omega
    simp [upd, e]
theorem cntN_done {g : GraphD} {D : Nat → Bool} {j k : Nat} (hd : D k = false) (hj : (arcAt g k).dst = j) : ∀ n, k < n → cntN g (upd D k) j n + 1 = cntN g D j n
  | 0, h => absurd h (Nat.not_lt_zero _)
  | n + 1, h => by
    unfold cntN
    by_cases e : n = k
    · subst e
      rw [cntN_ge n (Nat.le_refl _)]
      simp [upd, hd, hj]
    · have ih := cntN_done hd hj n (by omega)
      have e2 : upd D k n = D n := by simp [upd, e]
      rw [e2]; omega
theorem cntN_zero {g : GraphD} {D : Nat → Bool} {j : Nat} : ∀ n, cntN g D j n = 0 ↔ ∀ k, k < n → (arcAt g k).dst = j → D k = true
  | 0 => by simp [cntN]
  | n + 1 => by
    have ih := cntN_zero (g := g) (D := D) (j := j) n
    unfold cntN
    rw [Nat.add_eq_zero_iff, ih]
    constructor
    · rintro ⟨h1, h2⟩ k hk hd
      by_cases e : k = n
      · subst e
        cases hD : D k with
        | true => rfl
        | false => simp [hd, hD] at h2
      · exact h1 k (by omega) hd
    · intro h
      refine ⟨fun k hk => h k (by omega), ?_⟩
      by_cases e : (arcAt g n).dst = j
      · simp [h n (by omega) e]
      · simp [e]
structure Kahn (g : GraphD) (out : List Nat) (D : Nat → Bool) (ins : List Int) (ids : List Nat) : Prop where
  len : ins.length = g.n
  ins : ∀ j, j < g.n → ins.getD j 0 = (cntN g D j g.arcs.length : Int)
  nodup : out.Nodup
  lt : ∀ i ∈ out, i < g.n
  idsN : ids.Nodup
  idsM : ∀ j, j ∈ ids ↔ j < g.n ∧ j ∉ out ∧ cntN g D j g.arcs.length = 0
  topo : ∀ p (h : p < out.length), ∀ k, k < g.arcs.length → (arcAt g k).dst = out[p] → (arcAt g k).frm ∈ out.take p
  doneOut : ∀ k, k < g.arcs.length → D k = true → (arcAt g k).frm ∈ out
theorem Kahn.outLen {g : GraphD} {out : List Nat} {D : Nat → Bool} {ins : List Int} {ids : List Nat} (h : Kahn g out D ins ids) : out.length ≤ g.n := nodup_lt_len h.nodup h.lt
theorem Kahn.idsLen {g : GraphD} {out : List Nat} {D : Nat → Bool} {ins : List Int} {ids : List Nat} (h : Kahn g out D ins ids) : ids.length ≤ g.n := nodup_lt_len h.idsN fun j hj => ((h.idsM j).1 hj).1
theorem Kahn.start {g : GraphD} {ins : List Int} {ids : List Nat} (hl : ins.length = g.n) (hi : ∀ j, j < g.n → ins.getD j 0 = (cntN g (fun _ => false) j g.arcs.length : Int)) (hn : ids.Nodup)
    (hm : ∀ j, j ∈ ids ↔ j < g.n ∧ cntN g (fun _ => false) j g.arcs.length = 0) : Kahn g [] (fun _ => false) ins ids :=
  ⟨hl, hi, List.nodup_nil, (fun _ h => by cases h), hn, fun j => by rw [hm]; simp, fun p h => absurd h (Nat.not_lt_zero _), fun _ _ h => by cases h⟩
def Full (g : GraphD) (out : List Nat) (D : Nat → Bool) : Prop := ∀ k, k < g.arcs.length → (arcAt g k).frm ∈ out → D k = true
/-- Inside: the arcs from the last node that are yet to come. -/
def Partly (g : GraphD) (out : List Nat) (D : Nat → Bool) (rest : List Nat) : Prop := rest.Nodup ∧ (∀ k ∈ rest, k < g.arcs.length ∧ D k = false) ∧ ∀ k, k < g.arcs.length → (arcAt g k).frm ∈ out → D k = true ∨ k ∈ rest
theorem outUp_mem {g : GraphD} {i n k : Nat} : k ∈ outUp g i n ↔ k < n ∧ (arcAt g k).frm = i := by
  unfold outUp; simp [List.mem_filter]
theorem outUp_nodup (g : GraphD) (i n : Nat) : (outUp g i n).Nodup := List.Pairwise.filter _ List.nodup_range
theorem Kahn.take {g : GraphD} {out : List Nat} {D : Nat → Bool} {ins : List Int} {ids ids' : List Nat} {i : Nat} (h : Kahn g out D ins ids) (hf : Full g out D) (hp : (i :: ids').Perm ids) :
    i < g.n ∧ Kahn g (out ++ [i]) D ins ids' ∧ Partly g (out ++ [i]) D (outUp g i g.arcs.length) := by
  obtain ⟨hi1, hi2, hi3⟩ := (h.idsM i).1 (hp.mem_iff.1 (List.mem_cons_self ..))
  have hn := List.nodup_cons.1 (hp.nodup_iff.2 h.idsN)
  refine ⟨hi1, ⟨h.len, h.ins, ?_, ?_, hn.2, fun j => ?_, fun p hpl k hk hd => ?_, fun k hk hd => List.mem_append_left _ (h.doneOut k hk hd)⟩, outUp_nodup _ _ _, fun k hk => ?_, fun k hk hfr => ?_⟩
  · rw [List.nodup_append]
    exact ⟨h.nodup, by simp, fun a ha b hb e => hi2 (by rw [List.mem_singleton] at hb; rw [← hb, ← e]; exact ha)⟩
  · intro j hj
    rcases List.mem_append.1 hj with hj | hj
    · exact h.lt j hj
    · rw [List.mem_singleton.1 hj]; exact hi1
  · have e : j ∈ ids' ↔ j ∈ ids ∧ j ≠ i := by
      rw [← hp.mem_iff, List.mem_cons]
      constructor
      · intro hj; exact ⟨.inr hj, by rintro rfl; exact hn.1 hj⟩
      · rintro ⟨hj, hne⟩; exact hj.resolve_left hne
    rw [e, h.idsM, List.mem_append, List.mem_singleton]
    constructor
    · rintro ⟨⟨a, b, c⟩, d⟩; exact ⟨a, fun h => h.elim b d, c⟩
    · rintro ⟨a, b, c⟩; exact ⟨⟨a, fun h => b (.inl h), c⟩, fun h => b (.inr h)⟩
  · by_cases hpo : p < out.length
    · rw [List.getElem_append_left hpo] at hd
      rw [List.take_append_of_le_length (by omega)]
      exact h.topo p hpo k hk hd
    · have hpe : p = out.length := by rw [List.length_append, List.length_singleton] at hpl; omega
      subst hpe
      rw [List.getElem_append_right (Nat.le_refl _)] at hd
      simp only [Nat.sub_self, List.getElem_cons_zero] at hd
      rw [List.take_append_of_le_length (Nat.le_refl _), List.take_length]
      exact h.doneOut k hk ((cntN_zero _).1 hi3 k hk hd)
  · obtain ⟨h1, h2⟩ := outUp_mem.1 hk
    refine ⟨h1, ?_⟩
    cases hD : D k with
    | false => rfl
    | true => exact absurd (h2 ▸ h.doneOut k h1 hD) hi2
  · rcases List.mem_append.1 hfr with hfr | hfr
    · exact .inl (hf k hk hfr)
    · exact .inr (outUp_mem.2 ⟨hk, List.mem_singleton.1 hfr⟩)
theorem Kahn.dst_new {g : GraphD} {o : List Nat} {i : Nat} {D : Nat → Bool} {ins : List Int} {ids : List Nat} (h : Kahn g (o ++ [i]) D ins ids) {k : Nat} (hk : k < g.arcs.length) (hf : (arcAt g k).frm = i) : (arcAt g k).dst ∉ o ++ [i] := by
  intro hm
  obtain ⟨p, hp, e⟩ := List.getElem_of_mem hm
  have ht := h.topo p hp k hk e.symm
  rw [hf] at ht
  have hpo : p ≤ o.length := by rw [List.length_append, List.length_singleton] at hp; omega
  rw [List.take_append_of_le_length hpo] at ht
  have hn := h.nodup
  rw [List.nodup_append] at hn
  exact hn.2.2 i (List.mem_of_mem_take ht) i (List.mem_singleton.2 rfl) rfl
/-- One arc more. -/
theorem Kahn.arc {g : GraphD} {o : List Nat} {i : Nat} {D : Nat → Bool} {ins : List Int} {ids : List Nat} (h : Kahn g (o ++ [i]) D ins ids) {k : Nat} {rest : List Nat} (hP : Partly g (o ++ [i]) D (k :: rest)) (hf : (arcAt g k).frm = i) (hd : (arcAt g k).dst < g.n)
    {v : Int} (hv : ins.getD (arcAt g k).dst 0 = v) {ids' : List Nat} (hi : if v - 1 = 0 then ids'.Perm ((arcAt g k).dst :: ids) else ids' = ids) :
    (1 ≤ v ∧ v ≤ g.arcs.length) ∧ Kahn g (o ++ [i]) (upd D k) (ins.set (arcAt g k).dst (v - 1)) ids' ∧ Partly g (o ++ [i]) (upd D k) rest := by
  obtain ⟨hP1, hP2, hP3⟩ := hP
  have hP1' := List.nodup_cons.1 hP1
  obtain ⟨hk, hDk⟩ := hP2 k (List.mem_cons_self ..)
  have hnew := h.dst_new hk hf
  have hvc := h.ins _ hd
  rw [hv] at hvc
  have hdone := cntN_done (g := g) hDk rfl g.arcs.length hk
  have hle := cntN_le g D (arcAt g k).dst g.arcs.length
  have hnid : (arcAt g k).dst ∉ ids := fun hm => by have := ((h.idsM _).1 hm).2.2; omega
  have key : ∀ j, j ∈ ids' ↔ j < g.n ∧ j ∉ o ++ [i] ∧ cntN g (upd D k) j g.arcs.length = 0 := fun j => by
    by_cases e : (arcAt g k).dst = j
    · subst e
      split at hi
      · rw [hi.mem_iff]
        exact ⟨fun _ => ⟨hd, hnew, by omega⟩, fun _ => List.mem_cons_self ..⟩
      · subst hi
        constructor
        · exact fun hm => absurd hm hnid
        · rintro ⟨_, _, h0⟩; omega
    · rw [cntN_other e]
      rw [← h.idsM j]
      split at hi
      · rw [hi.mem_iff, List.mem_cons]
        exact ⟨fun hj => hj.resolve_left (fun h => e h.symm), .inr⟩
      · subst hi; exact Iff.rfl
  refine ⟨⟨by omega, by omega⟩, ⟨by rw [List.length_set]; exact h.len, fun j hj => ?_, h.nodup, h.lt, ?_, key, h.topo, fun m hm hD => ?_⟩, hP1'.2, fun m hm => ?_, fun m hm hfr => ?_⟩
  · rw [List.getD_eq_getElem?_getD, List.getElem?_set]
    by_cases e : (arcAt g k).dst = j
    · subst e
      rw [if_pos rfl, if_pos (by rw [h.len]; exact hj), Option.getD_some]; omega
    · rw [if_neg e, cntN_other e, ← h.ins j hj, List.getD_eq_getElem?_getD]
  · split at hi
    · exact hi.nodup_iff.2 (List.nodup_cons.2 ⟨hnid, h.idsN⟩)
    · rw [hi]; exact h.idsN
  · unfold upd at hD
    rcases Bool.or_eq_true_iff.1 hD with e | e
    · rw [beq_iff_eq.1 e, hf]; simp
    · exact h.doneOut m hm e
  · have hmk : m ≠ k := by rintro rfl; exact hP1'.1 hm
    obtain ⟨a, b⟩ := hP2 m (List.mem_cons_of_mem _ hm)
    exact ⟨a, by simp [upd, hmk, b]⟩
  · rcases hP3 m hm hfr with hh | hh
    · exact .inl (by simp [upd, hh])
    · rcases List.mem_cons.1 hh with rfl | hh
      · exact .inl (by simp [upd])
      · exact .inr hh
theorem Partly.full {g : GraphD} {out : List Nat} {D : Nat → Bool} (h : Partly g out D []) : Full g out D := fun k hk hf => (h.2.2 k hk hf).resolve_right (fun h => by cases h)
/-- What order.Sort hands back: each node once, behind all that lead to it. -/
structure Topo (g : GraphD) (out : List Nat) : Prop where
  nodup : out.Nodup
  lt : ∀ i ∈ out, i < g.n
  all : ∀ i, i < g.n → i ∈ out
  before : ∀ p (h : p < out.length), ∀ k, k < g.arcs.length → (arcAt g k).dst = out[p] → (arcAt g k).frm ∈ out.take p
theorem Kahn.topoAll {g : GraphD} {out : List Nat} {D : Nat → Bool} {ins : List Int} (h : Kahn g out D ins []) (hf : Full g out D) (hg : GGood g) : Topo g out := by
  refine ⟨h.nodup, h.lt, ?_, h.topo⟩
  intro j
  induction j using Nat.strongRecOn with
  | _ j ih =>
    intro hj
    by_cases hm : j ∈ out
    · exact hm
    · have hz : cntN g D j g.arcs.length = 0 := (cntN_zero _).2 fun k hk hd => by
        have ha := hg.arc _ (List.getElem_mem hk)
        rw [← arcAt_get hk] at ha
        exact hf k hk (ih _ (by omega) (by omega))
      have := (h.idsM j).2 ⟨hj, hm, hz⟩
      cases this
theorem Topo.len {g : GraphD} {out : List Nat} (h : Topo g out) : out.length = g.n := by
  have h1 := nodup_lt_len h.nodup h.lt
  have h2 := nodup_sub_len (List.range g.n) out List.nodup_range fun x hx => h.all x (List.mem_range.1 hx)
  rw [List.length_range] at h2
  omega
end Go.Proofs.Ytafhjfkdlmijdaa
/- order.Late in plain words: the least that is not ahead of what each node begins with, nor of what leads to it. No program in sight. -/
namespace Go.Proofs.Ytafhjfkdlmijdaa
open Go.RowKit

theorem getD_set_eq (l : List Int) (k i : Nat) (v : Int) : (l.set k v).getD i 0 = if k = i ∧ i < l.length then v else l.getD i 0 := by
  rw [List.getD_eq_getElem?_getD, List.getElem?_set, List.getD_eq_getElem?_getD]
  by_cases e : k = i
  · subst e
    by_cases h : k < l.length
    · rw [if_pos rfl, if_pos h, if_pos ⟨rfl, h⟩]; rfl
    · rw [if_pos rfl, if_neg h, if_neg (fun h' => h h'.2), List.getElem?_eq_none (by omega)]
  · rw [if_neg e, if_neg (fun h => e h.1)]
/-- So far as the arcs in D are done. -/
structure LInv (g : GraphD) (fr d : List Int) (D : Nat → Bool) : Prop where
  len : d.length = g.n
  lo : ∀ j, j < g.n → fr.getD j 0 ≤ d.getD j 0
  up : ∀ k, k < g.arcs.length → D k = true → d.getD (arcAt g k).frm 0 + (arcAt g k).wt ≤ d.getD (arcAt g k).dst 0
  eq : ∀ j, j < g.n → d.getD j 0 = fr.getD j 0 ∨ ∃ k, k < g.arcs.length ∧ D k = true ∧ (arcAt g k).dst = j ∧ d.getD j 0 = d.getD (arcAt g k).frm 0 + (arcAt g k).wt
def relax (d : List Int) (s : ArcD) : List Int := d.set s.dst (max (d.getD s.dst 0) (d.getD s.frm 0 + s.wt))
theorem LInv.start {g : GraphD} {fr : List Int} (h : fr.length = g.n) : LInv g fr fr (fun _ => false) := ⟨h, fun _ _ => Int.le_refl _, (fun _ _ h => by cases h), fun _ _ => .inl rfl⟩
theorem LInv.arc {g : GraphD} {fr d : List Int} {D : Nat → Bool} (h : LInv g fr d D) {k : Nat} (hk : k < g.arcs.length) (hn : (arcAt g k).dst < g.n) (hne : (arcAt g k).frm ≠ (arcAt g k).dst) (hD : ∀ m, m < g.arcs.length → D m = true → (arcAt g m).frm ≠ (arcAt g k).dst) :
    LInv g fr (relax d (arcAt g k)) (upd D k) := by
  have hl : (arcAt g k).dst < d.length := by rw [h.len]; exact hn
  have hget : ∀ i, (relax d (arcAt g k)).getD i 0 = if (arcAt g k).dst = i then max (d.getD (arcAt g k).dst 0) (d.getD (arcAt g k).frm 0 + (arcAt g k).wt) else d.getD i 0 := fun i => by
    unfold relax
    rw [getD_set_eq]
    by_cases e : (arcAt g k).dst = i
    · rw [if_pos ⟨e, by omega⟩, if_pos e]
    · rw [if_neg (fun h => e h.1), if_neg e]
  have hfk : (relax d (arcAt g k)).getD (arcAt g k).frm 0 = d.getD (arcAt g k).frm 0 := by rw [hget, if_neg (fun e => hne e.symm)]
  have hfm : ∀ m, m < g.arcs.length → D m = true → (relax d (arcAt g k)).getD (arcAt g m).frm 0 = d.getD (arcAt g m).frm 0 := fun m hm hd => by rw [hget, if_neg (fun e => hD m hm hd e.symm)]
  have hge : ∀ i, d.getD i 0 ≤ (relax d (arcAt g k)).getD i 0 := fun i => by
    rw [hget]
    by_cases e : (arcAt g k).dst = i
    · subst e; rw [if_pos rfl]; omega
    · rw [if_neg e]; exact Int.le_refl _
  refine ⟨by unfold relax; rw [List.length_set]; exact h.len, fun j hj => Int.le_trans (h.lo j hj) (hge j), fun m hm hd => ?_, fun j hj => ?_⟩
  · unfold upd at hd
    by_cases e : m = k
    · subst e
      rw [hfk, hget, if_pos rfl]; omega
    · have hd' : D m = true := by simpa [e] using hd
      rw [hfm m hm hd']
      exact Int.le_trans (h.up m hm hd') (hge _)
  · by_cases e : (arcAt g k).dst = j
    · subst e
      rw [hget, if_pos rfl]
      by_cases hc : d.getD (arcAt g k).frm 0 + (arcAt g k).wt ≤ d.getD (arcAt g k).dst 0
      · rw [show max (d.getD (arcAt g k).dst 0) (d.getD (arcAt g k).frm 0 + (arcAt g k).wt) = d.getD (arcAt g k).dst 0 by omega]
        rcases h.eq _ hj with h0 | ⟨m, hm, hd, h1, h2⟩
        · exact .inl h0
        · exact .inr ⟨m, hm, by simp [upd, hd], h1, by rw [hfm m hm hd]; exact h2⟩
      · exact .inr ⟨k, hk, by simp [upd], rfl, by rw [hfk]; omega⟩
    · rw [hget, if_neg e]
      rcases h.eq _ hj with h0 | ⟨m, hm, hd, h1, h2⟩
      · exact .inl h0
      · exact .inr ⟨m, hm, by simp [upd, hd], h1, by rw [hfm m hm hd]; exact h2⟩
/-- The answer. -/
def LateOf (g : GraphD) (fr d : List Int) : Prop := LInv g fr d (fun _ => true)
theorem LInv.late {g : GraphD} {fr d : List Int} {D : Nat → Bool} (h : LInv g fr d D) (hD : ∀ k, k < g.arcs.length → D k = true) : LateOf g fr d :=
  ⟨h.len, h.lo, fun k hk _ => h.up k hk (hD k hk), fun j hj => (h.eq j hj).imp id fun ⟨k, h1, h2, h3⟩ => ⟨k, h1, rfl, h3⟩⟩
/-- There is but one. -/
theorem LateOf.unique {g : GraphD} {fr d d' : List Int} (hg : ∀ a ∈ g.arcs, a.frm < a.dst ∧ a.dst < g.n) (h : LateOf g fr d) (h' : LateOf g fr d') : d = d' := by
  have key : ∀ j, j < g.n → d.getD j 0 = d'.getD j 0 := by
    intro j
    induction j using Nat.strongRecOn with
    | _ j ih =>
      intro hj
      have step : ∀ k, k < g.arcs.length → (arcAt g k).dst = j → d.getD (arcAt g k).frm 0 = d'.getD (arcAt g k).frm 0 := fun k hk hd => by
        have := hg _ (List.getElem_mem hk)
        rw [← arcAt_get hk] at this
        exact ih _ (by omega) (by omega)
      have le1 : d.getD j 0 ≤ d'.getD j 0 := by
        rcases h.eq j hj with h0 | ⟨k, hk, _, h1, h2⟩
        · have := h'.lo j hj; omega
        · have := h'.up k hk rfl
          rw [h1, ← step k hk h1] at this; omega
      have le2 : d'.getD j 0 ≤ d.getD j 0 := by
        rcases h'.eq j hj with h0 | ⟨k, hk, _, h1, h2⟩
        · have := h.lo j hj; omega
        · have := h.up k hk rfl
          rw [h1, step k hk h1] at this; omega
      omega
  refine List.ext_getElem (by rw [h.len, h'.len]) fun i h1 h2 => ?_
  have := key i (by rw [← h.len]; exact h1)
  rw [List.getD_eq_getElem?_getD, List.getD_eq_getElem?_getD, List.getElem?_eq_getElem h1, List.getElem?_eq_getElem h2] at this
  exact this
theorem Topo.new {g : GraphD} {l : List Nat} (h : Topo g l) {p : Nat} (hp : p < l.length) {k : Nat} (hk : k < g.arcs.length) (hf : (arcAt g k).frm = l[p]) : (arcAt g k).dst ∉ l.take (p + 1) := by
  intro hm
  obtain ⟨q, hq, e⟩ := List.getElem_of_mem hm
  rw [List.getElem_take] at e
  have hq' : q < p + 1 := by rw [List.length_take] at hq; omega
  have ht := h.before q (by omega) k hk e.symm
  rw [hf] at ht
  obtain ⟨r, hr, e2⟩ := List.getElem_of_mem ht
  rw [List.getElem_take] at e2
  have hrq : r < q := by rw [List.length_take] at hr; omega
  exact (List.pairwise_iff_getElem.1 h.nodup) r p (by omega) hp (by omega) e2
/-- Behind p nodes of an order, and so many arcs from the next one. -/
structure LSt (g : GraphD) (fr : List Int) (M : Int) (l : List Nat) (p : Nat) (d : List Int) (D : Nat → Bool) (rest : List Nat) : Prop where
  inv : LInv g fr d D
  done : ∀ k, k < g.arcs.length → D k = true → (arcAt g k).frm ∈ l.take (p + 1)
  part : Partly g (l.take (p + 1)) D rest
  bd : ∀ j, j < g.n → 0 ≤ d.getD j 0 ∧ d.getD j 0 ≤ M + 1099511627776 * ((p : Int) + 1)
  bi : ∀ (h : p < l.length), d.getD l[p] 0 ≤ M + 1099511627776 * (p : Int)
structure LOut (g : GraphD) (fr : List Int) (M : Int) (l : List Nat) (p : Nat) (d : List Int) (D : Nat → Bool) : Prop where
  inv : LInv g fr d D
  done : ∀ k, k < g.arcs.length → D k = true → (arcAt g k).frm ∈ l.take p
  full : Full g (l.take p) D
  bd : ∀ j, j < g.n → 0 ≤ d.getD j 0 ∧ d.getD j 0 ≤ M + 1099511627776 * (p : Int)
theorem LOut.start {g : GraphD} {fr : List Int} {M : Int} {l : List Nat} (h : fr.length = g.n) (hb : ∀ v ∈ fr, 0 ≤ v ∧ v ≤ M) : LOut g fr M l 0 fr (fun _ => false) :=
  ⟨LInv.start h, (fun _ _ h => by cases h), (fun _ _ h => by simp at h), fun j hj => by
    rw [List.getD_eq_getElem?_getD, List.getElem?_eq_getElem (by omega)]
    have := hb _ (List.getElem_mem (show j < fr.length by omega))
    simpa using this⟩
theorem LOut.next {g : GraphD} {fr : List Int} {M : Int} {l : List Nat} {p : Nat} {d : List Int} {D : Nat → Bool} (h : LOut g fr M l p d D) (hT : Topo g l) (hp : p < l.length) : LSt g fr M l p d D (outUp g l[p] g.arcs.length) := by
  have htk : l.take (p + 1) = l.take p ++ [l[p]] := List.take_succ_eq_append_getElem hp
  refine ⟨h.inv, fun k hk hd => by rw [htk]; exact List.mem_append_left _ (h.done k hk hd), ⟨outUp_nodup _ _ _, fun k hk => ?_, fun k hk hf => ?_⟩, fun j hj => by have := h.bd j hj; omega, fun _ => (h.bd _ (hT.lt _ (List.getElem_mem hp))).2⟩
  · obtain ⟨h1, h2⟩ := outUp_mem.1 hk
    refine ⟨h1, ?_⟩
    cases hD : D k with
    | false => rfl
    | true =>
      have hm := h.done k h1 hD
      rw [h2] at hm
      obtain ⟨r, hr, e2⟩ := List.getElem_of_mem hm
      rw [List.getElem_take] at e2
      have hrq : r < p := by rw [List.length_take] at hr; omega
      exact absurd e2 ((List.pairwise_iff_getElem.1 hT.nodup) r p (by omega) hp (by omega))
  · rw [htk] at hf
    rcases List.mem_append.1 hf with hf | hf
    · exact .inl (h.full k hk hf)
    · exact .inr (outUp_mem.2 ⟨hk, List.mem_singleton.1 hf⟩)
theorem LSt.arc {g : GraphD} {fr : List Int} {M : Int} {l : List Nat} {p : Nat} {d : List Int} {D : Nat → Bool} {k : Nat} {rest : List Nat} (h : LSt g fr M l p d D (k :: rest)) (hg : GGood g) (hT : Topo g l) (hp : p < l.length) (hk : k < g.arcs.length) (hf : (arcAt g k).frm = l[p]) :
    LSt g fr M l p (relax d (arcAt g k)) (upd D k) rest := by
  have ha := hg.arc _ (List.getElem_mem hk)
  rw [← arcAt_get hk] at ha
  have hnew := hT.new hp hk hf
  have hpi : l[p] ∈ l.take (p + 1) := by rw [List.take_succ_eq_append_getElem hp]; exact List.mem_append_right _ (List.mem_singleton.2 rfl)
  have hnd : ∀ m, m < g.arcs.length → D m = true → (arcAt g m).frm ≠ (arcAt g k).dst := fun m hm hd e => hnew (e ▸ h.done m hm hd)
  have hbi := h.bi hp
  obtain ⟨hP1, hP2, hP3⟩ := h.part
  have hP1' := List.nodup_cons.1 hP1
  have hget : ∀ i, (relax d (arcAt g k)).getD i 0 = if (arcAt g k).dst = i then max (d.getD (arcAt g k).dst 0) (d.getD (arcAt g k).frm 0 + (arcAt g k).wt) else d.getD i 0 := fun i => by
    unfold relax
    rw [getD_set_eq]
    by_cases e : (arcAt g k).dst = i
    · rw [if_pos ⟨e, by rw [h.inv.len]; omega⟩, if_pos e]
    · rw [if_neg (fun h => e h.1), if_neg e]
  refine ⟨h.inv.arc hk ha.2.1 (by omega) hnd, fun m hm hd => ?_, ⟨hP1'.2, fun m hm => ?_, fun m hm hfr => ?_⟩, fun j hj => ?_, fun _ => ?_⟩
  · unfold upd at hd
    rcases Bool.or_eq_true_iff.1 hd with e | e
    · rw [beq_iff_eq.1 e, hf]; exact hpi
    · exact h.done m hm e
  · have hmk : m ≠ k := by rintro rfl; exact hP1'.1 hm
    obtain ⟨a, b⟩ := hP2 m (List.mem_cons_of_mem _ hm)
    exact ⟨a, by simp [upd, hmk, b]⟩
  · rcases hP3 m hm hfr with hh | hh
    · exact .inl (by simp [upd, hh])
    · rcases List.mem_cons.1 hh with rfl | hh
      · exact .inl (by simp [upd])
      · exact .inr hh
  · have h1 := h.bd j hj
    rw [hget]
    split
    · rename_i e
      subst e
      rw [hf]
      omega
    · exact h1
  · rw [hget, if_neg (fun e : (arcAt g k).dst = l[p] => hnew (by rw [e]; exact hpi))]
    exact hbi
theorem LSt.done' {g : GraphD} {fr : List Int} {M : Int} {l : List Nat} {p : Nat} {d : List Int} {D : Nat → Bool} (h : LSt g fr M l p d D []) : LOut g fr M l (p + 1) d D :=
  ⟨h.inv, h.done, h.part.full, fun j hj => by have := h.bd j hj; push_cast; exact this⟩
theorem LOut.late {g : GraphD} {fr : List Int} {M : Int} {l : List Nat} {d : List Int} {D : Nat → Bool} (h : LOut g fr M l l.length d D) (hg : GGood g) (hT : Topo g l) : LateOf g fr d := by
  refine h.inv.late fun k hk => h.full k hk ?_
  have ha := hg.arc _ (List.getElem_mem hk)
  rw [← arcAt_get hk] at ha
  rw [List.take_length]
  exact hT.all _ (by omega)
end Go.Proofs.Ytafhjfkdlmijdaa
