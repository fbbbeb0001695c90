/- haul.Trucks in plain words; trucks that a call has laid itself. No program in sight. -/
import Derived.Test.YtafhjfkdlmijdaaOrder
namespace Go.Proofs.Ytafhjfkdlmijdaa
open Go.RowKit

/-- The last truck stops once more. -/
def addLast (out : List (List StopD)) (s : StopD) : List (List StopD) := out.set (out.length - 1) (out.getD (out.length - 1) [] ++ [s])
/-- What one satellite gets, truck by truck. -/
def fillOne (many room : Int) (s : Nat) : Nat → Int → List (List StopD) → Int → Option (List (List StopD) × Int)
  | 0, _, out, left => some (out, left)
  | f + 1, n, out, left =>
    if n ≤ 0 then some (out, left) else
    if left = 0 then
      if (out.length : Int) = many ∨ room = 0 then none else fillOne many room s f (n - min n room) (addLast (out ++ [[]]) ⟨s, min n room⟩) (room - min n room)
    else fillOne many room s f (n - min n left) (addLast out ⟨s, min n left⟩) (left - min n left)
def fillAll (many room : Int) (loads : List Int) : List Nat → List (List StopD) → Int → Option (List (List StopD))
  | [], out, _ => some out
  | s :: ss, out, left => match fillOne many room s (loads.getD s 0).toNat (loads.getD s 0) out left with
    | none => none
    | some (o, l) => fillAll many room loads ss o l
def badLoad (x : InstD) (l : List Int) (i : Nat) : Bool := decide (l.getD i 0 < 0) || decide ((x.sats.getD i ⟨0, 0⟩).room < l.getD i 0)
def badLoads (x : InstD) (l : List Int) (k : Nat) : Bool := (List.range k).any (badLoad x l)
def fillRes : Option (List (List StopD)) → List (List StopD) × Int
  | none => ([], 11)
  | some out => (out, 0)
/-- haul.Trucks: the trucks, the error. -/
def trucksH (x : InstD) (l : List Int) : List (List StopD) × Int :=
  if check x ≠ 0 then ([], check x) else if l.length ≠ x.sats.length then ([], 2) else if badLoads x l l.length then ([], 2) else
  fillRes (fillAll x.tmany x.troom l (orderD x l) [] 0)
theorem fillOne_done {many room : Int} {s f : Nat} {n left : Int} {out : List (List StopD)} (h : n ≤ 0) : fillOne many room s f n out left = some (out, left) := by
  cases f with
  | zero => rfl
  | succ f => unfold fillOne; rw [if_pos h]
theorem badLoads_succ (x : InstD) (l : List Int) (k : Nat) : badLoads x l (k + 1) = (badLoads x l k || badLoad x l k) := by
  unfold badLoads; rw [List.range_succ, List.any_append]; simp
theorem badLoads_ge {x : InstD} {l : List Int} {k n : Nat} (h : badLoads x l k = true) (hk : k ≤ n) : badLoads x l n = true := by
  simp only [badLoads, List.any_eq_true, List.mem_range] at h ⊢
  obtain ⟨i, hi, h⟩ := h
  exact ⟨i, by omega, h⟩

def stopV (s : StopD) : List Value := [.int .i64 s.sat, .int .i64 s.load]
theorem stopV_len (l : List StopD) : (l.flatMap stopV).length = l.length * 2 := by
  induction l with
  | nil => rfl
  | cons a l ih => rw [List.flatMap_cons, List.length_append, ih, List.length_cons]; show 2 + _ = _; omega
/-- Trucks in a row of one's own, each one's stops in a row of its own. -/
structure TOwn (TT TS : Nat) (w : World) (B : Nat) (v : Value) (out : List (List StopD)) (vs : List Value) : Prop where
  own : w.ownsRow B TT 1 v out.length vs
  len : vs.length = out.length
  rows : ∀ i (h : i < out.length) (h' : i < vs.length), w.ownsRow B TS 2 vs[i] out[i].length (out[i].flatMap stopV)
  apart : ∀ i j (hi : i < vs.length) (hj : j < vs.length), i ≠ j → vs[i].ownBlock = none ∨ vs[i].ownBlock ≠ vs[j].ownBlock
theorem TOwn.nil (TT TS : Nat) (w : World) (B : Nat) : TOwn TT TS w B (.slice none 0 0) [] [] :=
  ⟨World.ownsRow_nil _ _ _ _, rfl, fun _ h => absurd h (Nat.not_lt_zero _), fun _ _ h => absurd h (Nat.not_lt_zero _)⟩
theorem TOwn.below {TT TS : Nat} {w w' : World} {B : Nat} {v : Value} {out : List (List StopD)} {vs : List Value} (h : TOwn TT TS w B v out vs) (hb : Below w.heap.size w w') : TOwn TT TS w' B v out vs :=
  ⟨owns_below h.own hb, h.len, fun i h1 h2 => owns_below (h.rows i h1 h2) hb, h.apart⟩
theorem own_type {w : World} {B B' T T' n n' k k' : Nat} {v v' : Value} {xs xs' : List Value} (h : w.ownsRow B T k v n xs) (h' : w.ownsRow B' T' k' v' n' xs') (hne : T ≠ T') : v.ownBlock = none ∨ v.ownBlock ≠ v'.ownBlock := by
  cases e : v.ownBlock with
  | none => exact .inl rfl
  | some g =>
    obtain ⟨cs, hc⟩ := ownBlock_row h e
    exact .inr fun e' => (ne_own_row h' hc hne) e'
/-- One truck more, that stops nowhere yet. -/
theorem TOwn.push {TT TS : Nat} {w w' : World} {B : Nat} {v v' : Value} {out : List (List StopD)} {vs : List Value} (h : TOwn TT TS w B v out vs) (hne : TS ≠ TT) (hg : w.grownBy w' v.ownBlock)
    (ho : w'.ownsRow B TT 1 v' (out.length + 1) (vs ++ [.slice none 0 0])) : TOwn TT TS w' B v' (out ++ [[]]) (vs ++ [.slice none 0 0]) := by
  refine ⟨by rw [List.length_append]; exact ho, by simp [h.len], fun i h1 h2 => ?_, fun i j hi hj hij => ?_⟩
  · by_cases hl : i < out.length
    · have hl' : i < vs.length := by rw [h.len]; exact hl
      rw [List.getElem_append_left hl', List.getElem_append_left hl]
      exact (h.rows i hl hl').kept hg (own_type (h.rows i hl hl') h.own hne)
    · have : i = out.length := by simp at h1; omega
      subst this
      have e1 : (vs ++ [Value.slice none 0 0])[out.length]'h2 = .slice none 0 0 := by rw [List.getElem_append_right (by rw [h.len]; exact Nat.le_refl _)]; simp [h.len]
      have e2 : (out ++ [[]])[out.length]'h1 = [] := by rw [List.getElem_append_right (Nat.le_refl _)]; simp
      rw [e1, e2]
      exact World.ownsRow_nil _ _ _ _
  · have key : ∀ i (hi : i < (vs ++ [Value.slice none 0 0]).length), ((vs ++ [Value.slice none 0 0])[i]).ownBlock = none ∨ ∃ hi' : i < vs.length, (vs ++ [Value.slice none 0 0])[i] = vs[i] := fun i hi => by
      by_cases hl : i < vs.length
      · exact .inr ⟨hl, List.getElem_append_left hl⟩
      · refine .inl ?_
        rw [List.getElem_append_right (by omega)]
        simp only [List.getElem_singleton]; rfl
    rcases key i hi with h1 | ⟨h1, e1⟩
    · exact .inl h1
    · rcases key j hj with h2 | ⟨h2, e2⟩
      · rw [e1, h2]
        cases e : vs[i].ownBlock with
        | none => exact .inl rfl
        | some g => exact .inr (by simp)
      · rw [e1, e2]; exact h.apart i j h1 h2 hij
theorem stored_last {w : World} {B T n g cap : Nat} {xs : List Value} (h : w.ownsRow B T 1 (.slice (some ⟨g, 0, none⟩) n cap) n xs) (j : Nat) (u : Value) : (w.setCell ⟨g, j, none⟩ u).ownsRow B T 1 (.slice (some ⟨g, 0, none⟩) n cap) n (xs.set j u) ∧ w.grownBy (w.setCell ⟨g, j, none⟩ u) (some g) :=
  h.stored j u
/-- The last truck's stops have grown by one, and lie where the truck says. -/
theorem TOwn.stop {TT TS : Nat} {w w1 : World} {B g cap : Nat} {out : List (List StopD)} {vs : List Value} {u : Value} {s : StopD} (h : TOwn TT TS w B (.slice (some ⟨g, 0, none⟩) out.length cap) out vs) (hne : TS ≠ TT) (hpos : 0 < out.length)
    (hg : w.grownBy w1 (vs.getD (out.length - 1) undef).ownBlock) (hu : w1.ownsRow B TS 2 u ((out.getD (out.length - 1) []).length + 1) ((out.getD (out.length - 1) []).flatMap stopV ++ stopV s))
    (hat : u.ownBlock = (vs.getD (out.length - 1) undef).ownBlock ∨ ∃ b, u.ownBlock = some b ∧ w.heap.size ≤ b) :
    TOwn TT TS (w1.setCell ⟨g, out.length - 1, none⟩ u) B (.slice (some ⟨g, 0, none⟩) (addLast out s).length cap) (addLast out s) (vs.set (out.length - 1) u) := by
  have hl : out.length - 1 < out.length := by omega
  have hl' : out.length - 1 < vs.length := by rw [h.len]; exact hl
  have ev : vs.getD (out.length - 1) undef = vs[out.length - 1] := by rw [List.getD_eq_getElem?_getD, List.getElem?_eq_getElem hl']; rfl
  have eo : out.getD (out.length - 1) [] = out[out.length - 1] := by rw [List.getD_eq_getElem?_getD, List.getElem?_eq_getElem hl]; rfl
  rw [ev] at hg hat
  have hrow := h.rows _ hl hl'
  have howngrow : w1.ownsRow B TT 1 (.slice (some ⟨g, 0, none⟩) out.length cap) out.length vs := h.own.kept hg (own_type h.own hrow (Ne.symm hne))
  have hst := stored_last howngrow (out.length - 1) u
  have hlen : (addLast out s).length = out.length := by unfold addLast; simp
  have hug : u.ownBlock = none ∨ u.ownBlock ≠ some g := by
    have := own_type hu howngrow hne
    exact this
  refine ⟨by rw [hlen]; exact hst.1, by rw [List.length_set, h.len, hlen], fun i h1 h2 => ?_, fun i j hi hj hij => ?_⟩
  · have hi : i < out.length := by rw [hlen] at h1; exact h1
    have hi' : i < vs.length := by rw [h.len]; exact hi
    by_cases e : out.length - 1 = i
    · subst e
      have e1 : (vs.set (out.length - 1) u)[out.length - 1]'h2 = u := by simp
      have e2 : (addLast out s)[out.length - 1]'h1 = out.getD (out.length - 1) [] ++ [s] := by simp [addLast]
      rw [e1, e2, List.flatMap_append, List.length_append]
      have := hu.kept hst.2 hug
      simpa using this
    · have e1 : (vs.set (out.length - 1) u)[i]'h2 = vs[i] := by rw [List.getElem_set_ne e]
      have e2 : (addLast out s)[i]'h1 = out[i] := by simp only [addLast, List.getElem_set, if_neg e]
      rw [e1, e2]
      have k1 := (h.rows i hi hi').kept hg (h.apart i _ hi' hl' (Ne.symm e))
      exact k1.kept hst.2 (own_type k1 howngrow hne)
  · have hlt : ∀ i (hi : i < vs.length) b, vs[i].ownBlock = some b → b < w.heap.size := fun i hi b hb => ((h.rows i (by rw [← h.len]; exact hi) hi).lt b hb).2
    simp only [List.length_set] at hi hj
    simp only [List.getElem_set]
    split
    · rename_i ei
      split
      · omega
      · rename_i ej
        rcases hat with e | ⟨b, e, hb⟩
        · rw [e]; exact h.apart _ j hl' hj ej
        · refine .inr fun e' => ?_
          have := hlt j hj b (by rw [← e', e]); omega
    · rename_i ei
      split
      · rename_i ej
        rcases hat with e | ⟨b, e, hb⟩
        · rw [e]; exact h.apart i _ hi hl' (by omega)
        · refine .inr fun e' => ?_
          have := hlt i hi b (by rw [e', e]); omega
      · exact h.apart i j hi hj hij
theorem TOwn.rep {TT TS : Nat} {w : World} {B : Nat} {v : Value} {out : List (List StopD)} {vs : List Value} (h : TOwn TT TS w B v out vs) (hw : ∀ t ∈ out, ∀ s ∈ t, wf64 s.sat ∧ wf64 s.load) : trucksS.rep w (fun b => B ≤ b) out [v] := by
  have hr : ∀ i (h1 : i < out.length) (h2 : i < vs.length), (sliceS stopS).rep w (fun b => B ≤ b) out[i] [vs[i]] := fun i h1 h2 =>
    owns_rep (S := stopS) stopV (fun _ => rfl) (fun s hs => ⟨rfl, hw _ (List.getElem_mem h1) s hs⟩) (h.rows i h1 h2)
  rcases h.own.2 with ⟨rfl, hn⟩ | ⟨g, cap, cur, rfl, hg, hh, hn1, hc, hsz, ht⟩
  · have : out = [] := List.eq_nil_of_length_eq_zero hn
    subst this
    exact nil_rep _ _ _
  · have hR : Row w g TT vs := ⟨cur, cur.toList.drop (out.length * 1), hh, by rw [← ht, List.take_append_drop]⟩
    refine lit_rep (S := sliceS stopS) (T := TT) (vs.map fun v => [v]) (by simp [h.len]) (fun v hv => by obtain ⟨u, _, rfl⟩ := List.mem_map.1 hv; rfl) (fun i h1 h2 => ?_) ?_ hn1 hc hg
    · rw [List.getElem_map]; exact hr i h1 _
    · have : (vs.map fun v => [v]).flatten = vs := by
        clear hR ht hr h
        induction vs with
        | nil => rfl
        | cons a l ih => rw [List.map_cons, List.flatten_cons, ih]; rfl
      rw [this]; exact hR
end Go.Proofs.Ytafhjfkdlmijdaa
