/- Texts of the proof, joined: BOwn, OwnMore, Tail2. -/
import Derived.Test.YtafhjfkdlmijdaaFill
import Derived.Test.YtafhjfkdlmijdaaTrucksW
import Derived.Test.YtafhjfkdlmijdaaGb
/- Bikes that a call has laid itself: a row of one's own, each one's stops in a row of its own. No program in sight. -/
namespace Go.Proofs.Ytafhjfkdlmijdaa
open Go.RowKit

def bCells : List BikeD → List Value → List Value
  | b :: out, u :: vs => .int .i64 b.sat :: u :: bCells out vs
  | _, _ => []
theorem bCells_len : ∀ (out : List BikeD) (vs : List Value), vs.length = out.length → (bCells out vs).length = out.length * 2
  | [], [], _ => rfl
  | b :: out, u :: vs, h => by
    have := bCells_len out vs (by simpa using h)
    simp only [bCells, List.length_cons, this]; omega
  | [], _ :: _, h => by cases h
  | _ :: _, [], h => by cases h
theorem bCells_push : ∀ (out : List BikeD) (vs : List Value) (b : BikeD) (u : Value), vs.length = out.length → bCells (out ++ [b]) (vs ++ [u]) = bCells out vs ++ [.int .i64 b.sat, u]
  | [], [], _, _, _ => rfl
  | a :: out, v :: vs, b, u, h => by
    have := bCells_push out vs b u (by simpa using h)
    simp only [List.cons_append, bCells, this]
  | [], _ :: _, _, _, h => by cases h
  | _ :: _, [], _, _, h => by cases h
theorem bCells_get : ∀ (out : List BikeD) (vs : List Value) (k : Nat) (h : k < out.length) (h' : k < vs.length), (bCells out vs)[2 * k]? = some (.int .i64 out[k].sat) ∧ (bCells out vs)[2 * k + 1]? = some vs[k]
  | a :: out, v :: vs, 0, _, _ => ⟨rfl, rfl⟩
  | a :: out, v :: vs, k + 1, h, h' => by
    have := bCells_get out vs k (by simpa using h) (by simpa using h')
    simp only [bCells, show 2 * (k + 1) = 2 * k + 1 + 1 by omega, List.getElem?_cons_succ, List.getElem_cons_succ]
    exact this
  | [], _, _, h, _ => absurd h (Nat.not_lt_zero _)
  | _ :: _, [], _, _, h => absurd h (Nat.not_lt_zero _)
theorem bCells_set : ∀ (out : List BikeD) (vs : List Value) (k : Nat) (_ : k < out.length) (_ : vs.length = out.length) (b : BikeD) (u : Value), bCells (out.set k b) (vs.set k u) = ((bCells out vs).set (2 * k) (.int .i64 b.sat)).set (2 * k + 1) u
  | a :: out, v :: vs, 0, _, _, b, u => rfl
  | a :: out, v :: vs, k + 1, h, h', b, u => by
    have := bCells_set out vs k (by simpa using h) (by simpa using h') b u
    simp only [bCells, List.set_cons_succ, this, show 2 * (k + 1) = 2 * k + 1 + 1 by omega]
  | [], _, _, h, _, _, _ => absurd h (Nat.not_lt_zero _)
  | _ :: _, [], _, _, h, _, _ => by cases h
theorem set_same {α : Type} {l : List α} {k : Nat} {v : α} (h : l[k]? = some v) : l.set k v = l := by
  apply List.ext_getElem?
  intro i
  rw [List.getElem?_set]
  split
  · rename_i e; subst e
    split
    · exact h.symm
    · rename_i hl; rw [List.getElem?_eq_none (by omega)]
  · rfl
structure BOwn (TB TI : Nat) (w : World) (B : Nat) (v : Value) (out : List BikeD) (vs : List Value) : Prop where
  own : w.ownsRow B TB 2 v out.length (bCells out vs)
  len : vs.length = out.length
  rows : ∀ i (h : i < out.length) (h' : i < vs.length), w.ownsRow B TI 1 vs[i] out[i].stops.length (out[i].stops.map intV)
  apart : ∀ i j (hi : i < vs.length) (hj : j < vs.length), i ≠ j → vs[i].ownBlock = none ∨ vs[i].ownBlock ≠ vs[j].ownBlock
theorem BOwn.nil (TB TI : Nat) (w : World) (B : Nat) : BOwn TB TI w B (.slice none 0 0) [] [] :=
  ⟨World.ownsRow_nil _ _ _ _, rfl, fun _ h => absurd h (Nat.not_lt_zero _), fun _ _ h => absurd h (Nat.not_lt_zero _)⟩
theorem BOwn.below {TB TI : Nat} {w w' : World} {B : Nat} {v : Value} {out : List BikeD} {vs : List Value} (h : BOwn TB TI w B v out vs) (hb : Below w.heap.size w w') : BOwn TB TI w' B v out vs :=
  ⟨owns_below h.own hb, h.len, fun i h1 h2 => owns_below (h.rows i h1 h2) hb, h.apart⟩
theorem BOwn.blockLt {TB TI : Nat} {w : World} {B : Nat} {v : Value} {out : List BikeD} {vs : List Value} (h : BOwn TB TI w B v out vs) : ∀ i (hi : i < vs.length) b, vs[i].ownBlock = some b → b < w.heap.size := fun i hi b hb =>
  ((h.rows i (by rw [← h.len]; exact hi) hi).lt b hb).2
/-- Whatever grows but the bikes and their stops leaves them. -/
theorem BOwn.kept {TB TI : Nat} {w w' : World} {B : Nat} {v : Value} {out : List BikeD} {vs : List Value} {row : Option Nat} (h : BOwn TB TI w B v out vs) (hg : w.grownBy w' row) (h1 : v.ownBlock = none ∨ v.ownBlock ≠ row) (h2 : ∀ i (hi : i < vs.length), vs[i].ownBlock = none ∨ vs[i].ownBlock ≠ row) : BOwn TB TI w' B v out vs :=
  ⟨h.own.kept hg h1, h.len, fun i k1 k2 => (h.rows i k1 k2).kept hg (h2 i k2), h.apart⟩
/-- One bike more. -/
theorem BOwn.push {TB TI : Nat} {w w' : World} {B : Nat} {v v' u : Value} {out : List BikeD} {vs : List Value} {b : BikeD} (h : BOwn TB TI w B v out vs) (hne : TI ≠ TB) (hg : w.grownBy w' v.ownBlock)
    (ho : w'.ownsRow B TB 2 v' (out.length + 1) (bCells out vs ++ [.int .i64 b.sat, u])) (hu : w.ownsRow B TI 1 u b.stops.length (b.stops.map intV))
    (ha : ∀ i (hi : i < vs.length), (vs[i].ownBlock = none ∨ vs[i].ownBlock ≠ u.ownBlock) ∧ (u.ownBlock = none ∨ u.ownBlock ≠ vs[i].ownBlock)) : BOwn TB TI w' B v' (out ++ [b]) (vs ++ [u]) := by
  refine ⟨by rw [bCells_push _ _ _ _ h.len, List.length_append]; exact ho, by simp [h.len], fun i h1 h2 => ?_, fun i j hi hj hij => ?_⟩
  · by_cases hl : i < out.length
    · have hl' : i < vs.length := by rw [h.len]; exact hl
      rw [List.getElem_append_left hl', List.getElem_append_left hl]
      exact (h.rows i hl hl').kept hg (own_type (h.rows i hl hl') h.own hne)
    · have : i = out.length := by simp at h1; omega
      subst this
      have e1 : (vs ++ [u])[out.length]'h2 = u := by rw [List.getElem_append_right (by rw [h.len]; exact Nat.le_refl _)]; simp [h.len]
      have e2 : (out ++ [b])[out.length]'h1 = b := by rw [List.getElem_append_right (Nat.le_refl _)]; simp
      rw [e1, e2]
      exact hu.kept hg (own_type hu h.own hne)
  · simp only [List.length_append, List.length_cons, List.length_nil] at hi hj
    by_cases h1 : i < vs.length
    · by_cases h2 : j < vs.length
      · rw [List.getElem_append_left h1, List.getElem_append_left h2]; exact h.apart i j h1 h2 hij
      · have : j = vs.length := by omega
        subst this
        rw [List.getElem_append_left h1, List.getElem_append_right (Nat.le_refl _)]
        simp only [Nat.sub_self, List.getElem_cons_zero]
        exact (ha i h1).1
    · have : i = vs.length := by omega
      subst this
      have h2 : j < vs.length := by omega
      rw [List.getElem_append_left h2, List.getElem_append_right (Nat.le_refl _)]
      simp only [Nat.sub_self, List.getElem_cons_zero]
      exact (ha j h2).2
/-- A bike's stops are others, that lie where the bike says. -/
theorem BOwn.stops {TB TI : Nat} {w w1 : World} {B g cap k : Nat} {out : List BikeD} {vs : List Value} {u : Value} {sp : List Int} (h : BOwn TB TI w B (.slice (some ⟨g, 0, none⟩) out.length cap) out vs) (hne : TI ≠ TB) (hk : k < out.length)
    (hg : w.grownBy w1 (vs.getD k undef).ownBlock) (hu : w1.ownsRow B TI 1 u sp.length (sp.map intV)) (hat : u.ownBlock = (vs.getD k undef).ownBlock ∨ (∃ b, u.ownBlock = some b ∧ w.heap.size ≤ b) ∨ u.ownBlock = none) :
    BOwn TB TI (w1.setCell ⟨g, 2 * k + 1, none⟩ u) B (.slice (some ⟨g, 0, none⟩) out.length cap) (out.set k ⟨(out.getD k ⟨0, []⟩).sat, sp⟩) (vs.set k u) := by
  have hk' : k < vs.length := by rw [h.len]; exact hk
  have ev : vs.getD k undef = vs[k] := by rw [List.getD_eq_getElem?_getD, List.getElem?_eq_getElem hk']; rfl
  have eo : out.getD k ⟨0, []⟩ = out[k] := by rw [List.getD_eq_getElem?_getD, List.getElem?_eq_getElem hk]; rfl
  rw [ev] at hg hat
  rw [eo]
  have hrow := h.rows k hk hk'
  have howngrow : w1.ownsRow B TB 2 (.slice (some ⟨g, 0, none⟩) out.length cap) out.length (bCells out vs) := h.own.kept hg (own_type h.own hrow (Ne.symm hne))
  have hst := howngrow.stored (2 * k + 1) u
  have hlen : (out.set k ⟨out[k].sat, sp⟩).length = out.length := by simp
  have hcell : bCells (out.set k ⟨out[k].sat, sp⟩) (vs.set k u) = (bCells out vs).set (2 * k + 1) u := by
    rw [bCells_set _ _ _ hk h.len, set_same (bCells_get out vs k hk hk').1]
  have hug : u.ownBlock = none ∨ u.ownBlock ≠ some g := own_type hu howngrow hne
  refine ⟨by rw [hlen, hcell]; exact hst.1, by simp [h.len], fun i h1 h2 => ?_, fun i j hi hj hij => ?_⟩
  · have hi : i < out.length := by simpa using h1
    have hi' : i < vs.length := by rw [h.len]; exact hi
    by_cases e : k = i
    · subst e
      have e1 : (vs.set k u)[k]'h2 = u := by simp
      have e2 : (out.set k ⟨out[k].sat, sp⟩)[k]'h1 = ⟨out[k].sat, sp⟩ := by simp
      rw [e1, e2]
      exact hu.kept hst.2 hug
    · have e1 : (vs.set k u)[i]'h2 = vs[i] := by rw [List.getElem_set_ne e]
      have e2 : (out.set k ⟨out[k].sat, sp⟩)[i]'h1 = out[i] := by simp only [List.getElem_set, if_neg e]
      rw [e1, e2]
      have k1 := (h.rows i hi hi').kept hg (h.apart i _ hi' hk' (Ne.symm e))
      exact k1.kept hst.2 (own_type k1 howngrow hne)
  · have hlt := h.blockLt
    simp only [List.length_set] at hi hj
    simp only [List.getElem_set]
    split
    · rename_i ei
      split
      · omega
      · rename_i ej
        rcases hat with e | ⟨b, e, hb⟩ | e
        · rw [e]; exact h.apart _ j hk' hj ej
        · refine .inr fun e' => ?_
          have := hlt j hj b (by rw [← e', e]); omega
        · exact .inl e
    · rename_i ei
      split
      · rename_i ej
        rcases hat with e | ⟨b, e, hb⟩ | e
        · rw [e]; exact h.apart i _ hi hk' (by omega)
        · refine .inr fun e' => ?_
          have := hlt i hi b (by rw [e', e]); omega
        · rw [e]
          cases hv : vs[i].ownBlock with
          | none => exact .inl rfl
          | some g => exact .inr (by simp)
      · exact h.apart i j hi hj hij
theorem BOwn.rep {TB TI : Nat} {w : World} {B : Nat} {v : Value} {out : List BikeD} {vs : List Value} (h : BOwn TB TI w B v out vs) (hw : ∀ b ∈ out, wf64 b.sat ∧ ∀ s ∈ b.stops, wf64 s) : bikesS.rep w (fun b => B ≤ b) out [v] := by
  have hr : ∀ i (h1 : i < out.length) (h2 : i < vs.length), bikeS.rep w (fun b => B ≤ b) out[i] [.int .i64 out[i].sat, vs[i]] := fun i h1 h2 =>
    ⟨vs[i], rfl, (hw _ (List.getElem_mem h1)).1, owns_ints (h.rows i h1 h2) (hw _ (List.getElem_mem h1)).2⟩
  rcases h.own.2 with ⟨rfl, hn⟩ | ⟨g, cap, cur, rfl, hg, hh, hn1, hc, hsz, ht⟩
  · have : out = [] := List.eq_nil_of_length_eq_zero hn
    subst this
    exact nil_rep _ _ _
  · have hR : Row w g TB (bCells out vs) := ⟨cur, cur.toList.drop (out.length * 2), hh, by rw [← ht, List.take_append_drop]⟩
    refine lit_rep (S := bikeS) (T := TB) (List.zipWith (fun (b : BikeD) u => [.int .i64 b.sat, u]) out vs) (by simp [h.len]) (fun v hv => ?_) (fun i h1 h2 => ?_) ?_ hn1 hc hg
    · obtain ⟨i, hi, rfl⟩ := List.getElem_of_mem hv
      simp only [List.getElem_zipWith]; rfl
    · rw [List.getElem_zipWith]; exact hr i h1 _
    · have : ∀ (out : List BikeD) (vs : List Value), (List.zipWith (fun (b : BikeD) u => [Value.int .i64 b.sat, u]) out vs).flatten = bCells out vs := by
        intro out
        induction out with
        | nil => intro vs; simp [bCells]
        | cons a l ih =>
          intro vs
          cases vs with
          | nil => simp [bCells]
          | cons v vs => simp [bCells, ih]
      rw [this]; exact hR
end Go.Proofs.Ytafhjfkdlmijdaa
/- More on trucks and bikes that a call has laid itself. -/
namespace Go.Proofs.Ytafhjfkdlmijdaa
open Go.RowKit

theorem BOwn.keptSet {TB TI TP : Nat} {w : World} {B p j : Nat} {v u : Value} {cs : List Value} {out : List BikeD} {vs : List Value} (h : BOwn TB TI w B v out vs) (hr : Row w p TP cs) (h1 : TP ≠ TB) (h2 : TP ≠ TI) : BOwn TB TI (w.setCell ⟨p, j, none⟩ u) B v out vs := by
  refine h.kept (grown_set w ⟨p, j, none⟩ u) ?_ fun i hi => ?_
  · cases e : v.ownBlock with
    | none => exact .inl rfl
    | some g => exact .inr (fun e' => ne_own_row h.own hr h1 (by rw [e, ← e']))
  · cases e : vs[i].ownBlock with
    | none => exact .inl rfl
    | some g => exact .inr (fun e' => ne_own_row (h.rows i (by rw [← h.len]; exact hi) hi) hr h2 (by rw [e, ← e']))
theorem TOwn.keptSet {TT TS TP : Nat} {w : World} {B p j : Nat} {v u : Value} {cs : List Value} {out : List (List StopD)} {vs : List Value} (h : TOwn TT TS w B v out vs) (hr : Row w p TP cs) (h1 : TP ≠ TT) (h2 : TP ≠ TS) : TOwn TT TS (w.setCell ⟨p, j, none⟩ u) B v out vs := by
  have hg := grown_set w ⟨p, j, none⟩ u
  refine ⟨h.own.kept hg ?_, h.len, fun i k1 k2 => (h.rows i k1 k2).kept hg ?_, h.apart⟩
  · cases e : v.ownBlock with
    | none => exact .inl rfl
    | some g => exact .inr (fun e' => ne_own_row h.own hr h1 (by rw [e, ← e']))
  · cases e : vs[i].ownBlock with
    | none => exact .inl rfl
    | some g => exact .inr (fun e' => ne_own_row (h.rows i k1 k2) hr h2 (by rw [e, ← e']))
/-- What grows a row of another kind leaves the bikes. -/
theorem BOwn.keptOwn {TB TI T k n : Nat} {w w' : World} {B B' : Nat} {v u : Value} {xs : List Value} {out : List BikeD} {vs : List Value} (h : BOwn TB TI w B v out vs) (ho : w.ownsRow B' T k u n xs) (hg : w.grownBy w' u.ownBlock) (h1 : TB ≠ T) (h2 : TI ≠ T) : BOwn TB TI w' B v out vs :=
  h.kept hg (own_type h.own ho h1) fun i hi => own_type (h.rows i (by rw [← h.len]; exact hi) hi) ho h2
theorem owns_mono {w : World} {B B' T n k : Nat} {v : Value} {xs : List Value} (h : w.ownsRow B T k v n xs) (hb : B' ≤ B) : w.ownsRow B' T k v n xs :=
  ⟨h.1, h.2.imp id fun ⟨g, cap, cur, hv, hg, r⟩ => ⟨g, cap, cur, hv, Nat.le_trans hb hg, r⟩⟩
theorem TOwn.mono {TT TS : Nat} {w : World} {B B' : Nat} {v : Value} {out : List (List StopD)} {vs : List Value} (h : TOwn TT TS w B v out vs) (hb : B' ≤ B) : TOwn TT TS w B' v out vs :=
  ⟨owns_mono h.own hb, h.len, fun i h1 h2 => owns_mono (h.rows i h1 h2) hb, h.apart⟩
theorem BOwn.mono {TT TS : Nat} {w : World} {B B' : Nat} {v : Value} {out : List BikeD} {vs : List Value} (h : BOwn TT TS w B v out vs) (hb : B' ≤ B) : BOwn TT TS w B' v out vs :=
  ⟨owns_mono h.own hb, h.len, fun i h1 h2 => owns_mono (h.rows i h1 h2) hb, h.apart⟩
/-- A cell reads so. -/
def CellIs (a : Addr) (v : Value) (w' : World) : Prop := w'.cell? a = some v
theorem info_bike : (Try.prog.info? 128).map (fun i => (i.zero, i.size, i.bytes)) = some (some (.agg #[.int .i64 0, .slice none 0 0]), 2, 32) := by kernel_rfl
end Go.Proofs.Ytafhjfkdlmijdaa
/- The same rule for a region in which some reads may come behind the stores: T holds all along, S till the first store. -/
namespace Go.Proofs.Ytafhjfkdlmijdaa
open Go.RowKit
section
variable {P : Program} {ops : Array Oper} {Q : Exit → Act → World → Prop} {md : Region.Mode} {S T : World → Prop}

/-- Operations that give a value and enter nothing; a nil check among them. -/
def valB2 : Op → Bool
  | .nilCheck _ => true
  | op => valB op
theorem valB2_spec {ρ : Operand → Value} {o : Oper} (h : valB2 o.op = true) {w w' : World} {r : Next} (hr : (execOp ρ o).run P w = .ok r w') : ∃ v, r = .value v := by
  obtain ⟨dst, op, type, pos, after, guard⟩ := o
  by_cases hn : ∃ x, op = .nilCheck x
  · obtain ⟨x, rfl⟩ := hn
    unfold execOp at hr
    simp only at hr
    split at hr
    · simp [runtimePanic] at hr
    · simp [runtimePanic] at hr
    · simp [runtimePanic] at hr
    · split at hr
      · simp [runtimePanic] at hr
      · simp only [Sem.run_bind] at hr
        generalize hA : Sem.run P program w = A at hr
        cases A with
        | halt k w1 => simp [Result.andThen] at hr
        | ok p w1 =>
          simp only [Result.andThen] at hr
          split at hr
          · split at hr
            · simp [unsupported] at hr
            · exact ⟨_, (Result.ok.inj hr).1.symm⟩
          · cases hr
      · exact ⟨_, (Result.ok.inj hr).1.symm⟩
    · exact ⟨_, (Result.ok.inj hr).1.symm⟩
  · refine valB_spec (o := ⟨dst, op, type, pos, after, guard⟩) ?_ hr
    cases op
    case nilCheck x => exact absurd ⟨x, rfl⟩ hn
    all_goals exact h
theorem quiet_yields2 {o : Oper} {a : Act} {K : Act → Prop} (hv : valB2 o.op = true) (h : o.quiet P a (fun w' => ∃ e : At S, w' = e.val) K) (hw : Region.wanted o (yielded ops a.tmps) = true) :
    ∃ v, YieldsIf P ops S o v a ∧ K (a.put o.dst v) := by
  obtain ⟨v, h1, h2⟩ := h
  refine ⟨v, .inl ⟨hw, fun w' hS' => ?_⟩, h2⟩
  have h3 := h1 w' ⟨⟨w', hS'⟩, rfl⟩
  unfold Oper.quietAt at h3
  cases hr : (execOp a.eval o).run P w' with
  | halt k w1 => rw [hr] at h3; simp only [Oper.quietUpon] at h3
  | ok r w1 =>
    obtain ⟨u, rfl⟩ := valB2_spec hv hr
    rw [hr] at h3
    simp only [Oper.quietUpon] at h3
    rw [h3.1, h3.2]
def quietB2 (md : Region.Mode) (ops : Array Oper) (fins : List Nat) : List Nat → Array Bool → Option (Array Bool)
  | [], listed => some listed
  | i :: rest, listed =>
    if (Region.ready md ops listed).contains i && Region.free md ops listed i && decide (i ∉ fins) && fins.all (fun j => waitsT md ops ops.size j i) && valB2 (ops.getD i default).op && decide (i < ops.size) then quietB2 md ops fins rest (listed.setIfInBounds i true) else none
def mixB2 (md : Region.Mode) (ops : Array Oper) (fins : List Nat) : List (List Nat × Nat × Bool) → Array Bool → Bool
  | [], listed => (Region.ready md ops listed).isEmpty
  | (lq, i, f) :: rest, listed =>
    match quietB2 md ops fins lq listed with
    | none => false
    | some listed' => decide (Region.ready md ops listed' = [i]) && (f == fins.contains i) && (!f || lq.isEmpty && rest.all (fun x => x.2.2 && x.1.isEmpty)) && decide (i < ops.size) && mixB2 md ops fins rest (listed'.setIfInBounds i true)
def anyFin (fins : List Nat) (listed : Array Bool) : Prop := ∃ j ∈ fins, listed.getD j false = true
def wpAnyG (P : Program) (md : Region.Mode) (ops : Array Oper) (Q : Exit → Act → World → Prop) (S T : World → Prop) (fins : List Nat) : Nat → Array Bool → Act → World → Prop
  | 0, listed, a, w => Region.ready md ops listed = [] ∧ Q .normal a w
  | fuel + 1, listed, a, w =>
    (Region.ready md ops listed = [] → Q .normal a w) ∧
    ∀ i ∈ Region.ready md ops listed, wpOp P ops Q i (fun a' w' => ((anyFin fins (listed.setIfInBounds i true) ∨ S w') ∧ T w') ∧ wpAnyG P md ops Q S T fins fuel (listed.setIfInBounds i true) a' w') a w
theorem wpAny_of_G {fins : List Nat} : ∀ (fuel : Nat) (listed : Array Bool) (a : Act) (w : World), wpAnyG P md ops Q S T fins fuel listed a w → wpAny P md ops Q fuel listed a w
  | 0, _, _, _, h => h
  | fuel + 1, _, _, _, h => ⟨h.1, fun i hi => wpOp_mono (fun a' w' h' => wpAny_of_G fuel _ a' w' h'.2) (h.2 i hi)⟩

theorem noFin {fins : List Nat} {i : Nat} {listed : Array Bool} (hcl : Closed md ops listed) (hr : i ∈ Region.ready md ops listed) (hfin : ∀ j ∈ fins, waitsT md ops ops.size j i = true) : ¬ anyFin fins listed := by
  rintro ⟨j, hj, hl⟩
  have hb : ∃ oj, ops[j]? = some oj := by
    have hw := hfin j hj
    rcases hjs : ops[j]? with _ | oj
    · exfalso
      cases hs : ops.size with
      | zero => rw [hs] at hw; cases hw
      | succ f =>
        rw [hs] at hw
        simp only [waitsT, Bool.or_eq_true, List.any_eq_true, Bool.and_eq_true] at hw
        rcases hw with h | ⟨k, _, h1, _⟩
        · obtain ⟨oj, hoj, _⟩ := Region.waitsFor_spec h
          rw [hjs] at hoj; cases hoj
        · obtain ⟨oj, hoj, _⟩ := Region.waitsFor_spec h1
          rw [hjs] at hoj; cases hoj
    · exact ⟨oj, rfl⟩
  obtain ⟨oj, hoj⟩ := hb
  have h1 := waitsT_listed hcl _ _ _ (hfin j hj) (fun oj' hoj' => by
    have : oj' = oj := Option.some.inj (hoj'.symm.trans hoj)
    subst this
    exact hcl j oj' hoj hl)
  rw [getD_both (mem_ready.1 hr).1] at h1
  cases h1
theorem noFin_set {fins : List Nat} {j : Nat} {listed : Array Bool} (h : ¬ anyFin fins listed) (hj : j ∉ fins) : ¬ anyFin fins (listed.setIfInBounds j true) := by
  rintro ⟨k, hk, hl⟩
  by_cases e : j = k
  · subst e; exact hj hk
  · rw [getD_set_ne false e] at hl
    exact h ⟨k, hk, hl⟩

theorem wpAnyG_first {fins : List Nat} {i : Nat} {oi : Oper} {v : Value} (hi : ops[i]? = some oi) (hsel : ∀ (j : Nat) (o : Oper) cs b, ops[j]? = some o → o.op ≠ .select cs b)
    (hQ : ∀ c a w, Q (.panic c) (a.put oi.dst v) w → Q (.panic c) a w) (hfin : ∀ j ∈ fins, waitsT md ops ops.size j i = true) :
    ∀ (fuel : Nat) (listed : Array Bool) (a : Act) (w : World), Closed md ops listed →
      (∀ j oj, ops[j]? = some oj → j ≠ i → listed.getD j true = false → (∀ e ∈ oj.after, Region.binds md e = true → e.on ≠ i) → oi.apart ops oj = true) →
      i ∈ Region.ready md ops listed → YieldsIf P ops S oi v a → S w → T w →
      wpAnyG P md ops Q S T fins fuel (listed.setIfInBounds i true) (a.put oi.dst v) w → wpAnyG P md ops Q S T fins (fuel + 1) listed a w := by
  intro fuel
  induction fuel with
  | zero =>
    intro listed a w _ _ hr hy hS hT H
    refine ⟨fun h => (by rw [h] at hr; cases hr), fun j hj => ?_⟩
    by_cases hji : j = i
    · subst hji; exact hy.wpOp hi hS ⟨⟨.inr hS, hT⟩, H⟩
    · have := ready_mono hj hji
      rw [H.1] at this
      cases this
  | succ fuel ih =>
    intro listed a w hcl hfree hr hy hS hT H
    refine ⟨fun h => (by rw [h] at hr; cases hr), fun j hj => ?_⟩
    by_cases hji : j = i
    · subst hji; exact hy.wpOp hi hS ⟨⟨.inr hS, hT⟩, H⟩
    · have h1 := H.2 j (ready_mono hj hji)
      obtain ⟨hjun, oj, hoj, hall⟩ := mem_ready.1 hj
      have hnot : ∀ e ∈ oj.after, Region.binds md e = true → e.on ≠ i := fun e he hb heq => by
        have h1 := hall e he hb
        have h0 := (mem_ready.1 hr).1
        rw [heq] at h1
        rcases Nat.lt_or_ge i listed.size with h' | h'
        · simp [h'] at h0 h1; rw [h0] at h1; cases h1
        · simp [Array.getElem?_eq_none h'] at h1
      have hjf : j ∉ fins := fun hf => by
        have h1 := waitsT_listed hcl _ _ _ (hfin j hf) (fun oj' hoj' => by
          have : oj' = oj := Option.some.inj (hoj'.symm.trans hoj)
          subst this
          exact hall)
        rw [getD_both (mem_ready.1 hr).1] at h1
        cases h1
      have hnf := noFin_set (noFin hcl hr hfin) hjf
      have h2 := wpOp_putIf hoj (hfree j oj hoj hji hjun hnot) (fun cs b => hsel i oi cs b hi) (fun cs b => hsel j oj cs b hoj) hQ hy h1
      have hfree' : ∀ k ok, ops[k]? = some ok → k ≠ i → (listed.setIfInBounds j true).getD k true = false →
          (∀ e ∈ ok.after, Region.binds md e = true → e.on ≠ i) → oi.apart ops ok = true := fun k ok hk hki hun hno => by
        refine hfree k ok hk hki ?_ hno
        by_cases hjk : j = k
        · subst hjk; exact hjun
        · rw [getD_set_ne true hjk] at hun; exact hun
      refine wpOp_mono (fun a' w' h3 => ?_) h2
      have hnf2 : ¬ anyFin fins ((listed.setIfInBounds i true).setIfInBounds j true) := by
        rintro ⟨k, hk, hl⟩
        have hki : i ≠ k := by
          rintro rfl
          have h5 : waitsT md ops ops.size i i = true := hfin i hk
          have h1 := waitsT_listed hcl _ _ _ h5 (fun oj' hoj' => by
            have : oj' = oi := Option.some.inj (hoj'.symm.trans hi)
            subst this
            obtain ⟨_, oi', hoi', hall'⟩ := mem_ready.1 hr
            have : oi' = oj' := Option.some.inj (hoi'.symm.trans hi)
            subst this
            exact hall')
          rw [getD_both (mem_ready.1 hr).1] at h1
          cases h1
        rw [Array.setIfInBounds_comm _ _ (Ne.symm hji), getD_set_ne false hki] at hl
        exact hnf ⟨k, hk, hl⟩
      have hS' := h3.2.1.1.resolve_left hnf2
      refine ⟨⟨.inr hS', h3.2.1.2⟩, ih (listed.setIfInBounds j true) a' w' (hcl.set hj) hfree' (ready_mono hr (Ne.symm hji)) h3.1 hS' h3.2.1.2 ?_⟩
      rw [Array.setIfInBounds_comm _ _ hji]
      exact h3.2.2
/-- What yields the same all along may be taken first. -/
theorem wpAnyG_free {fins : List Nat} {i : Nat} {oi : Oper} {v : Value} (hi : ops[i]? = some oi) (hsel : ∀ (j : Nat) (o : Oper) cs b, ops[j]? = some o → o.op ≠ .select cs b)
    (hQ : ∀ c a w, Q (.panic c) (a.put oi.dst v) w → Q (.panic c) a w) (hif : i ∉ fins) :
    ∀ (fuel : Nat) (listed : Array Bool) (a : Act) (w : World),
      (∀ j oj, ops[j]? = some oj → j ≠ i → listed.getD j true = false → (∀ e ∈ oj.after, Region.binds md e = true → e.on ≠ i) → oi.apart ops oj = true) →
      i ∈ Region.ready md ops listed → YieldsIf P ops T oi v a → (anyFin fins listed ∨ S w) → T w →
      wpAnyG P md ops Q S T fins fuel (listed.setIfInBounds i true) (a.put oi.dst v) w → wpAnyG P md ops Q S T fins (fuel + 1) listed a w := by
  intro fuel
  have fin_set : ∀ (l : Array Bool) (j : Nat), anyFin fins l → anyFin fins (l.setIfInBounds j true) := fun l j ⟨k, hk, hl⟩ => ⟨k, hk, getD_set_true hl⟩
  induction fuel with
  | zero =>
    intro listed a w _ hr hy hS hT H
    refine ⟨fun h => (by rw [h] at hr; cases hr), fun j hj => ?_⟩
    by_cases hji : j = i
    · subst hji; exact hy.wpOp hi hT ⟨⟨hS.imp (fin_set _ _) id, hT⟩, H⟩
    · have := ready_mono hj hji
      rw [H.1] at this
      cases this
  | succ fuel ih =>
    intro listed a w hfree hr hy hS hT H
    refine ⟨fun h => (by rw [h] at hr; cases hr), fun j hj => ?_⟩
    by_cases hji : j = i
    · subst hji; exact hy.wpOp hi hT ⟨⟨hS.imp (fin_set _ _) id, hT⟩, H⟩
    · have h1 := H.2 j (ready_mono hj hji)
      obtain ⟨hjun, oj, hoj, hall⟩ := mem_ready.1 hj
      have hnot : ∀ e ∈ oj.after, Region.binds md e = true → e.on ≠ i := fun e he hb heq => by
        have h1 := hall e he hb
        have h0 := (mem_ready.1 hr).1
        rw [heq] at h1
        rcases Nat.lt_or_ge i listed.size with h' | h'
        · simp [h'] at h0 h1; rw [h0] at h1; cases h1
        · simp [Array.getElem?_eq_none h'] at h1
      have h2 := wpOp_putIf hoj (hfree j oj hoj hji hjun hnot) (fun cs b => hsel i oi cs b hi) (fun cs b => hsel j oj cs b hoj) hQ hy h1
      have hfree' : ∀ k ok, ops[k]? = some ok → k ≠ i → (listed.setIfInBounds j true).getD k true = false →
          (∀ e ∈ ok.after, Region.binds md e = true → e.on ≠ i) → oi.apart ops ok = true := fun k ok hk hki hun hno => by
        refine hfree k ok hk hki ?_ hno
        by_cases hjk : j = k
        · subst hjk; exact hjun
        · rw [getD_set_ne true hjk] at hun; exact hun
      refine wpOp_mono (fun a' w' h3 => ?_) h2
      have hS' : anyFin fins (listed.setIfInBounds j true) ∨ S w' := by
        rcases h3.2.1.1 with ⟨k, hk, hl⟩ | h
        · left
          have hki : i ≠ k := by rintro rfl; exact hif hk
          rw [Array.setIfInBounds_comm _ _ (Ne.symm hji), getD_set_ne false hki] at hl
          exact ⟨k, hk, hl⟩
        · exact .inr h
      refine ⟨⟨hS', h3.2.1.2⟩, ih (listed.setIfInBounds j true) a' w' hfree' (ready_mono hr (Ne.symm hji)) h3.1 hS' h3.2.1.2 ?_⟩
      rw [Array.setIfInBounds_comm _ _ hji]
      exact h3.2.2

/-- As wpMix; T holds behind the final ones too. -/
def wpMixT (P : Program) (ops : Array Oper) (S T : World → Prop) (Q : Exit → Act → World → Prop) : List (List Oper × Oper × Bool) → Act → World → Prop
  | [], a, w => Q .normal a w
  | (lq, o, true) :: rest, a, w => wpQuiet P ops (fun w' => ∃ e : At S, w' = e.val) (fun a' => wpList P ops (Exit.then (fun a'' w'' => T w'' ∧ wpMixT P ops S T Q rest a'' w'') Q) [o] a' w) lq a
  | (lq, o, false) :: rest, a, w => wpQuiet P ops (fun w' => ∃ e : At S, w' = e.val) (fun a' => wpList P ops (Exit.then (fun a'' w'' => S w'' ∧ wpMixT P ops S T Q rest a'' w'') Q) [o] a' w) lq a
def freeB (md : Region.Mode) (ops : Array Oper) (fins : List Nat) : List Nat → Array Bool → Option (Array Bool)
  | [], listed => some listed
  | i :: rest, listed =>
    if (Region.ready md ops listed).contains i && Region.free md ops listed i && decide (i ∉ fins) && valB2 (ops.getD i default).op && decide (i < ops.size) then freeB md ops fins rest (listed.setIfInBounds i true) else none
theorem free_run {fins : List Nat} (hs : Region.noSelect ops = true) (hQ : ∀ c a d v w, Q (.panic c) (Act.put a d v) w → Q (.panic c) a w) {K : Act → Prop} {w : World} (hS : S w) (hT : T w) {fuel : Nat} :
    ∀ (lq : List Nat) (listed listed' : Array Bool) (a : Act), Closed md ops listed → freeB md ops fins lq listed = some listed' → wpQuiet P ops (fun w' => ∃ e : At T, w' = e.val) K (lq.map fun j => ops.getD j default) a →
      (∀ a', Closed md ops listed' → K a' → wpAnyG P md ops Q S T fins fuel listed' a' w) → wpAnyG P md ops Q S T fins (lq.length + fuel) listed a w
  | [], listed, listed', a, hcl, hB, h, hK => by
    simp only [freeB, Option.some.injEq] at hB
    subst hB
    rw [List.length_nil, Nat.zero_add]
    exact hK a hcl h
  | i :: lq, listed, listed', a, hcl, hB, h, hK => by
    simp only [freeB] at hB
    split at hB
    case isFalse => cases hB
    rename_i hc
    simp only [Bool.and_eq_true, decide_eq_true_eq] at hc
    obtain ⟨⟨⟨⟨h1, h2⟩, h3⟩, h5⟩, h6⟩ := hc
    have ho : ops[i]? = some (ops.getD i default) := by simp [Array.getD, h6]
    rw [show (i :: lq).length + fuel = (lq.length + fuel) + 1 by simp; omega]
    by_cases hw : Region.wanted (ops.getD i default) (yielded ops a.tmps) = true
    · have h7 : (ops.getD i default).quiet P a (fun w' => ∃ e : At T, w' = e.val) (wpQuiet P ops (fun w' => ∃ e : At T, w' = e.val) K (lq.map fun j => ops.getD j default)) := by
        simp only [List.map_cons, wpQuiet, hw, if_true] at h
        exact h
      obtain ⟨v, hy, hn⟩ := quiet_yields2 (ops := ops) h5 h7 hw
      exact wpAnyG_free ho (Region.noSelect_spec hs) (fun c a w => hQ c a _ _ w) h3 _ listed a w (Region.free_spec ho h2) (by simpa using h1) hy (.inr hS) hT
        (free_run hs hQ hS hT lq _ _ _ (hcl.set (by simpa using h1)) hB hn hK)
    · have h7 : wpQuiet P ops (fun w' => ∃ e : At T, w' = e.val) K (lq.map fun j => ops.getD j default) (a.put (ops.getD i default).dst undef) := by
        simp only [List.map_cons, wpQuiet, hw] at h
        exact h
      exact wpAnyG_free ho (Region.noSelect_spec hs) (fun c a w => hQ c a _ _ w) h3 _ listed a w (Region.free_spec ho h2) (by simpa using h1) (.inr ⟨by simpa using hw, rfl⟩) (.inr hS) hT
        (free_run hs hQ hS hT lq _ _ _ (hcl.set (by simpa using h1)) hB h7 hK)
theorem quiet_runT {fins : List Nat} (hs : Region.noSelect ops = true) (hQ : ∀ c a d v w, Q (.panic c) (Act.put a d v) w → Q (.panic c) a w) {K : Act → Prop} {w : World} (hS : S w) (hT : T w) {fuel : Nat} :
    ∀ (lq : List Nat) (listed listed' : Array Bool) (a : Act), Closed md ops listed → quietB2 md ops fins lq listed = some listed' → wpQuiet P ops (fun w' => ∃ e : At S, w' = e.val) K (lq.map fun j => ops.getD j default) a →
      (∀ a', Closed md ops listed' → K a' → wpAnyG P md ops Q S T fins fuel listed' a' w) → wpAnyG P md ops Q S T fins (lq.length + fuel) listed a w
  | [], listed, listed', a, hcl, hB, h, hK => by
    simp only [quietB2, Option.some.injEq] at hB
    subst hB
    rw [List.length_nil, Nat.zero_add]
    exact hK a hcl h
  | i :: lq, listed, listed', a, hcl, hB, h, hK => by
    simp only [quietB2] at hB
    split at hB
    case isFalse => cases hB
    rename_i hc
    simp only [Bool.and_eq_true, decide_eq_true_eq, List.all_eq_true] at hc
    obtain ⟨⟨⟨⟨⟨h1, h2⟩, h3⟩, h4⟩, h5⟩, h6⟩ := hc
    have ho : ops[i]? = some (ops.getD i default) := by simp [Array.getD, h6]
    rw [show (i :: lq).length + fuel = (lq.length + fuel) + 1 by simp; omega]
    by_cases hw : Region.wanted (ops.getD i default) (yielded ops a.tmps) = true
    · have h7 : (ops.getD i default).quiet P a (fun w' => ∃ e : At S, w' = e.val) (wpQuiet P ops (fun w' => ∃ e : At S, w' = e.val) K (lq.map fun j => ops.getD j default)) := by
        simp only [List.map_cons, wpQuiet, hw, if_true] at h
        exact h
      obtain ⟨v, hy, hn⟩ := quiet_yields2 (ops := ops) h5 h7 hw
      exact wpAnyG_first ho (Region.noSelect_spec hs) (fun c a w => hQ c a _ _ w) h4 _ listed a w hcl (Region.free_spec ho h2) (by simpa using h1) hy hS hT
        (quiet_runT hs hQ hS hT lq _ _ _ (hcl.set (by simpa using h1)) hB hn hK)
    · have h7 : wpQuiet P ops (fun w' => ∃ e : At S, w' = e.val) K (lq.map fun j => ops.getD j default) (a.put (ops.getD i default).dst undef) := by
        simp only [List.map_cons, wpQuiet, hw] at h
        exact h
      exact wpAnyG_first ho (Region.noSelect_spec hs) (fun c a w => hQ c a _ _ w) h4 _ listed a w hcl (Region.free_spec ho h2) (by simpa using h1) (.inr ⟨by simpa using hw, rfl⟩) hS hT
        (quiet_runT hs hQ hS hT lq _ _ _ (hcl.set (by simpa using h1)) hB h7 hK)
theorem mix_runT {fins : List Nat} (hs : Region.noSelect ops = true) (hQ : ∀ c a d v w, Q (.panic c) (Act.put a d v) w → Q (.panic c) a w) (hST : ∀ w, S w → T w) :
    ∀ (l : List (List Nat × Nat × Bool)) (listed : Array Bool) (a : Act) (w : World), Closed md ops listed → mixB2 md ops fins l listed = true → (S w ∨ l.all (fun x => x.2.2 && x.1.isEmpty) = true) →
      wpMixT P ops S T Q (mixOf ops l) a w → wpAnyG P md ops Q S T fins (mixFuel l) listed a w
  | [], listed, a, w, _, hB, _, h => ⟨by simpa [mixB2] using hB, h⟩
  | (lq, i, f) :: rest, listed, a, w, hcl, hB, hS, h => by
    simp only [mixB2] at hB
    split at hB
    case h_1 => cases hB
    rename_i listed' hq
    simp only [Bool.and_eq_true, decide_eq_true_eq, beq_iff_eq] at hB
    obtain ⟨⟨⟨⟨h1, h2⟩, h3⟩, h4⟩, h5⟩ := hB
    have ho : ops[i]? = some (ops.getD i default) := by simp [Array.getD, h4]
    have step : ∀ (K : Act → World → Prop) (a' : Act) (w1 : World), wpList P ops (Exit.then K Q) [ops.getD i default] a' w1 → (∀ a'' w'', K a'' w'' → ((i ∈ fins ∨ S w'') ∧ T w'') ∧ wpAnyG P md ops Q S T fins (mixFuel rest) (listed'.setIfInBounds i true) a'' w'') →
        (i < listed'.size) → wpAnyG P md ops Q S T fins (mixFuel rest + 1) listed' a' w1 := fun K a' w1 hl hK hsz => by
      refine ⟨fun h0 => (by rw [h1] at h0; cases h0), fun j hj => ?_⟩
      rw [h1, List.mem_singleton] at hj
      subst hj
      refine wpOp_mono (fun a'' w'' hk => ?_) (wpOp_of_list ho hl)
      have := hK a'' w'' hk
      exact ⟨⟨this.1.1.imp (fun hf => ⟨j, hf, by simp [Array.getD, hsz]⟩) id, this.1.2⟩, this.2⟩
    have hisz : i < listed'.size := by
      have hm : i ∈ Region.ready md ops listed' := by rw [h1]; exact List.mem_singleton.2 rfl
      have := (mem_ready.1 hm).1
      rcases Nat.lt_or_ge i listed'.size with h' | h'
      · exact h'
      · simp [Array.getD, Nat.not_lt.2 h'] at this
    have hfu : mixFuel ((lq, i, f) :: rest) = lq.length + (mixFuel rest + 1) := by simp only [mixFuel]; omega
    rw [hfu]
    cases f with
    | false =>
      have hS1 : S w := by
        rcases hS with hS | hS
        · exact hS
        · simp at hS
      simp only [mixOf, List.map_cons, wpMixT] at h
      exact quiet_runT hs hQ hS1 (hST w hS1) lq listed listed' a hcl hq h fun a' hcl' hl => step _ a' w hl (fun a'' w'' ⟨hs2, hm⟩ => ⟨⟨.inr hs2, hST _ hs2⟩, mix_runT hs hQ hST rest _ a'' w'' (hcl'.set (by rw [h1]; exact List.mem_singleton.2 rfl)) h5 (.inl hs2) hm⟩) hisz
    | true =>
      have hif : i ∈ fins := by simpa using h2.symm
      simp only [Bool.not_true, Bool.false_or, Bool.and_eq_true, List.isEmpty_iff] at h3
      obtain ⟨rfl, hr⟩ := h3
      simp only [quietB2, Option.some.injEq] at hq
      subst hq
      simp only [mixOf, List.map_cons, List.map_nil, wpMixT, wpQuiet] at h
      rw [List.length_nil, Nat.zero_add]
      exact step _ a w h (fun a'' w'' ⟨ht, hm⟩ => ⟨⟨.inl hif, ht⟩, mix_runT hs hQ hST rest _ a'' w'' (hcl.set (by rw [h1]; exact List.mem_singleton.2 rfl)) h5 (.inr hr) hm⟩) hisz
/-- THE RULE: lf: what yields the same all along, taken first. -/
theorem wp_region_mixT {id : Nat} {a : Act} {w : World} (S T : World → Prop) (fins lf : List Nat) (l : List (List Nat × Nat × Bool)) (hm : P.follows .mixedOrders = true)
    (hB : (Region.noSelect ops && (match freeB .any ops fins lf (Array.replicate ops.size false) with
      | none => false
      | some listed => mixB2 .any ops fins l listed) && decide (lf.length + mixFuel l = ops.size)) = true) (hQ : ∀ c a d v w, Q (.panic c) (Act.put a d v) w → Q (.panic c) a w) (hST : ∀ w, S w → T w) (hS : S w.drew)
    (h : wpQuiet P ops (fun w' => ∃ e : At T, w' = e.val) (fun a' => wpMixT P ops S T Q (mixOf ops l) a' w.drew) (lf.map fun j => ops.getD j default) a) : (Code.region id ops true).wp P Q a w := by
  simp only [Bool.and_eq_true, decide_eq_true_eq] at hB
  refine wp_region_any hm (wpAny_of_G (S := S) (T := T) (fins := fins) _ _ _ _ ?_)
  rw [← hB.2]
  obtain ⟨⟨h1, h2⟩, h3⟩ := hB
  split at h2
  · cases h2
  · rename_i listed hf
    exact free_run h1 hQ hS (hST _ hS) lf _ listed a (fun j oj _ hl => by rw [getD_replicate_false] at hl; cases hl) (by rw [h3]; exact hf) h fun a' hcl hk => mix_runT h1 hQ hST l listed a' _ hcl h2 (.inl hS) hk
end
end Go.Proofs.Ytafhjfkdlmijdaa
