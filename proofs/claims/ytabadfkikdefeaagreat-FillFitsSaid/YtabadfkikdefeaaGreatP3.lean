/- Texts of the proof, joined: OwnSet, Drafter, Cost, DraftD, DraftG, KahnD, LateD, SoonD, PlanBd, ClockD, DistD, Clone64. -/
import Derived.Test.YtabadfkikdefeaaGreatPlanClone
set_option linter.all false
set_option maxRecDepth 100000
set_option maxHeartbeats 6400000
namespace Go.Proofs.YtabadfkikdefeaaGreat
open Go.RowKit
theorem getD_at {α : Type} {l : List α} {k : Nat} {d : α} (h : k < l.length) : l.getD k d = l[k] := by rw [List.getD_eq_getElem?_getD, List.getElem?_eq_getElem h]; rfl
theorem TOwn.cell {TT TS : Nat} {w : World} {B gs c k j : Nat} {v u : Value} {out : List (List StopD)} {vs : List Value} {t t' : List StopD} (h : TOwn TT TS w B v out vs) (hne : TS ≠ TT) (hk : k < out.length) (ht : out[k] = t)
  (hv : vs.getD k undef = .slice (some ⟨gs, 0, none⟩) t.length c) (hl : t'.length = t.length) (hc : t'.flatMap stopV = (t.flatMap stopV).set j u) : TOwn TT TS (w.setCell ⟨gs, j, none⟩ u) B v (out.set k t') vs := by
 have hk' : k < vs.length := by rw [h.len]; exact hk
 have hrow := h.rows k hk hk'
 rw [ht, ← getD_at hk', hv] at hrow
 have hst := hrow.stored j u
 have hblk : (vs[k]).ownBlock = some gs := by rw [← getD_at (d := undef) hk', hv]; rfl
 refine ⟨?_, by simp [h.len], fun i h1 h2 => ?_, h.apart⟩
 ·rw [List.length_set]
  refine h.own.kept hst.2 ?_
  rw [← hblk]
  exact own_type h.own (h.rows k hk hk') (Ne.symm hne)
 ·have hi : i < out.length := by simpa using h1
  have hi' : i < vs.length := by rw [h.len]; exact hi
  by_cases e : k = i
  ·subst e
   have e2 : (out.set k t')[k]'h1 = t' := by simp
   rw [e2, hl, hc, ← getD_at (d := undef) hi', hv]
   exact hst.1
  ·have e2 : (out.set k t')[i]'h1 = out[i] := by simp only [List.getElem_set, if_neg e]
   rw [e2]
   refine (h.rows i hi hi').kept hst.2 ?_
   rw [← hblk]
   exact h.apart i _ hi' hk' (Ne.symm e)
theorem TOwn.stops {TT TS : Nat} {w w1 : World} {B g cap k : Nat} {out : List (List StopD)} {vs : List Value} {u : Value} {t' : List StopD} (h : TOwn TT TS w B (.slice (some ⟨g, 0, none⟩) out.length cap) out vs) (hne : TS ≠ TT) (hk : k < out.length)
  (hg : w.grownBy w1 (vs.getD k undef).ownBlock) (hu : w1.ownsRow B TS 2 u t'.length (t'.flatMap stopV)) (hat : u.ownBlock = (vs.getD k undef).ownBlock ∨ ∃ b, u.ownBlock = some b ∧ w.heap.size ≤ b) :
  TOwn TT TS (w1.setCell ⟨g, k, none⟩ u) B (.slice (some ⟨g, 0, none⟩) out.length cap) (out.set k t') (vs.set k u) := by
 have hk' : k < vs.length := by rw [h.len]; exact hk
 rw [getD_at hk'] at hg hat
 have hrow := h.rows k hk hk'
 have howngrow : w1.ownsRow B TT 1 (.slice (some ⟨g, 0, none⟩) out.length cap) out.length vs := h.own.kept hg (own_type h.own hrow (Ne.symm hne))
 have hst := howngrow.stored k u
 have hlen : (out.set k t').length = out.length := by simp
 have hug : u.ownBlock = none ∨ u.ownBlock ≠ some g := own_type hu howngrow hne
 refine ⟨by rw [hlen]; exact hst.1, by simp [h.len], fun i h1 h2 => ?_, fun i j hi hj hij => ?_⟩
 ·have hi : i < out.length := by simpa using h1
  have hi' : i < vs.length := by rw [h.len]; exact hi
  by_cases e : k = i
  ·subst e
   have e1 : (vs.set k u)[k]'h2 = u := by simp
   have e2 : (out.set k t')[k]'h1 = t' := by simp
   rw [e1, e2]
   exact hu.kept hst.2 hug
  ·have e1 : (vs.set k u)[i]'h2 = vs[i] := by rw [List.getElem_set_ne e]
   have e2 : (out.set k t')[i]'h1 = out[i] := by simp only [List.getElem_set, if_neg e]
   rw [e1, e2]
   have k1 := (h.rows i hi hi').kept hg (h.apart i _ hi' hk' (Ne.symm e))
   exact k1.kept hst.2 (own_type k1 howngrow hne)
 ·have hlt := h.blockLt
  simp only [List.length_set] at hi hj
  simp only [List.getElem_set]
  split
  ·rename_i ei
   split
   ·omega
   ·rename_i ej
    rcases hat with e | ⟨b, e, hb⟩
    ·rw [e]; exact h.apart _ j hk' hj ej
    ·refine .inr fun e' => ?_
     have := hlt j hj b (by rw [← e', e]); omega
  ·rename_i ei
   split
   ·rename_i ej
    rcases hat with e | ⟨b, e, hb⟩
    ·rw [e]; exact h.apart i _ hi hk' (by omega)
    ·refine .inr fun e' => ?_
     have := hlt i hi b (by rw [e', e]); omega
   ·exact h.apart i j hi hj hij
theorem BOwn.cell {TB TI : Nat} {w : World} {B gs c k j : Nat} {v : Value} {out : List BikeD} {vs : List Value} {x : Int} (h : BOwn TB TI w B v out vs) (hne : TI ≠ TB) (hk : k < out.length)
  (hv : vs.getD k undef = .slice (some ⟨gs, 0, none⟩) (out[k]).stops.length c) : BOwn TB TI (w.setCell ⟨gs, j, none⟩ (.int .i64 x)) B v (out.set k ⟨(out[k]).sat, (out[k]).stops.set j x⟩) vs := by
 have hk' : k < vs.length := by rw [h.len]; exact hk
 have hrow := h.rows k hk hk'
 rw [← getD_at (d := undef) hk', hv] at hrow
 have hst := hrow.stored j (.int .i64 x)
 have hblk : (vs[k]).ownBlock = some gs := by rw [← getD_at (d := undef) hk', hv]; rfl
 have hvk : vs[k] = .slice (some ⟨gs, 0, none⟩) (out[k]).stops.length c := by rw [← getD_at (d := undef) hk', hv]
 have hcells : bCells (out.set k ⟨(out[k]).sat, (out[k]).stops.set j x⟩) vs = bCells out vs := by
  have h0 := bCells_set out vs k hk h.len ⟨(out[k]).sat, (out[k]).stops.set j x⟩ vs[k]
  rw [set_same (List.getElem?_eq_getElem hk'), set_same (bCells_get out vs k hk hk').1, set_same (bCells_get out vs k hk hk').2] at h0
  exact h0
 refine ⟨?_, by simp [h.len], fun i h1 h2 => ?_, h.apart⟩
 ·rw [List.length_set, hcells]
  refine h.own.kept hst.2 ?_
  rw [← hblk]
  exact own_type h.own (h.rows k hk hk') (Ne.symm hne)
 ·have hi : i < out.length := by simpa using h1
  have hi' : i < vs.length := by rw [h.len]; exact hi
  by_cases e : k = i
  ·subst e
   have e2 : (out.set k ⟨(out[k]).sat, (out[k]).stops.set j x⟩)[k]'h1 = ⟨(out[k]).sat, (out[k]).stops.set j x⟩ := by simp
   rw [e2, hvk]
   simp only [List.length_set, List.map_set]
   exact hst.1
  ·have e2 : (out.set k ⟨(out[k]).sat, (out[k]).stops.set j x⟩)[i]'h1 = out[i] := by simp only [List.getElem_set, if_neg e]
   rw [e2]
   refine (h.rows i hi hi').kept hst.2 ?_
   rw [← hblk]
   exact h.apart i _ hi' hk' (Ne.symm e)
theorem BOwn.sat {TB TI : Nat} {w : World} {B g cap k : Nat} {out : List BikeD} {vs : List Value} {x : Int} (h : BOwn TB TI w B (.slice (some ⟨g, 0, none⟩) out.length cap) out vs) (hne : TI ≠ TB) (hk : k < out.length) :
  BOwn TB TI (w.setCell ⟨g, 2 * k, none⟩ (.int .i64 x)) B (.slice (some ⟨g, 0, none⟩) out.length cap) (out.set k ⟨x, (out[k]).stops⟩) vs := by
 have hk' : k < vs.length := by rw [h.len]; exact hk
 have hst := h.own.stored (2 * k) (.int .i64 x)
 have hcells : bCells (out.set k ⟨x, (out[k]).stops⟩) vs = (bCells out vs).set (2 * k) (.int .i64 x) := by
  have h0 := bCells_set out vs k hk h.len ⟨x, (out[k]).stops⟩ vs[k]
  rw [set_same (List.getElem?_eq_getElem hk')] at h0
  rw [h0, set_same]
  rw [List.getElem?_set_ne (by omega)]
  exact (bCells_get out vs k hk hk').2
 refine ⟨by rw [List.length_set, hcells]; exact hst.1, by simp [h.len], fun i h1 h2 => ?_, h.apart⟩
 have hi : i < out.length := by simpa using h1
 have hi' : i < vs.length := by rw [h.len]; exact hi
 have hkeep := (h.rows i hi hi').kept hst.2 (own_type (h.rows i hi hi') h.own hne)
 by_cases e : k = i
 ·subst e
  have e2 : (out.set k ⟨x, (out[k]).stops⟩)[k]'h1 = ⟨x, (out[k]).stops⟩ := by simp
  rw [e2]
  exact hkeep
 ·have e2 : (out.set k ⟨x, (out[k]).stops⟩)[i]'h1 = out[i] := by simp only [List.getElem_set, if_neg e]
  rw [e2]
  exact hkeep
theorem flat_setSat : ∀ (t : List StopD) (k : Nat) (h : k < t.length) (v : Int), (t.set k ⟨v, t[k].load⟩).flatMap stopV = (t.flatMap stopV).set (2 * k) (.int .i64 v)
 | [], k, h, _ => absurd h (Nat.not_lt_zero _)
 | a :: t, 0, _, v => rfl
 | a :: t, k + 1, h, v => by
  have := flat_setSat t k (by simpa using h) v
  simp only [List.set_cons_succ, List.getElem_cons_succ, List.flatMap_cons, this]
  rw [show 2 * (k + 1) = (2 * k) + 1 + 1 by omega]
  rfl
def spoilB (p : PlanD) (what b i : Nat) (at_ by_ : Int) : List BikeD :=
 match what with
 | 1 => p.bikes.set b ⟨(p.bikes.getD b ⟨0, []⟩).sat, (p.bikes.getD b ⟨0, []⟩).stops.eraseIdx i⟩
 | 2 => p.bikes.set b ⟨(p.bikes.getD b ⟨0, []⟩).sat, (p.bikes.getD b ⟨0, []⟩).stops ++ [(p.bikes.getD b ⟨0, []⟩).stops.getD i 0]⟩
 | 3 => p.bikes.set b ⟨(p.bikes.getD b ⟨0, []⟩).sat, (p.bikes.getD b ⟨0, []⟩).stops.set i ((p.bikes.getD b ⟨0, []⟩).stops.getD i 0 + by_)⟩
 | 4 => p.bikes.set b ⟨(p.bikes.getD b ⟨0, []⟩).sat + by_, (p.bikes.getD b ⟨0, []⟩).stops⟩
 | 9 => p.bikes ++ [⟨by_, []⟩]
 | _ => p.bikes
def spoilT (p : PlanD) (what t k : Nat) (at_ by_ : Int) : List (List StopD) :=
 match what with
 | 5 => p.trucks.set t ((p.trucks.getD t []).set k ⟨((p.trucks.getD t []).getD k ⟨0, 0⟩).sat, ((p.trucks.getD t []).getD k ⟨0, 0⟩).load + by_⟩)
 | 6 => p.trucks.set t ((p.trucks.getD t []).set k ⟨((p.trucks.getD t []).getD k ⟨0, 0⟩).sat + by_, ((p.trucks.getD t []).getD k ⟨0, 0⟩).load⟩)
 | 7 => p.trucks.set t (p.trucks.getD t [] ++ [⟨((p.trucks.getD t []).getD k ⟨0, 0⟩).sat, 1⟩])
 | 8 => p.trucks ++ [[]]
 | 10 => p.trucks.set t (p.trucks.getD t [] ++ [⟨by_, at_⟩])
 | _ => p.trucks
def spoilNo (p : PlanD) (at_ : Nat) : Bool := p.bikes.length == 0 || p.trucks.length == 0 || (p.bikes.getD (at_ % p.bikes.length) ⟨0, []⟩).stops.length == 0 || (p.trucks.getD (at_ % p.trucks.length) []).length == 0
def spoiltD (p : PlanD) (what at_ : Nat) (by_ : Int) : PlanD :=
 if spoilNo p at_ then p else
 ⟨spoilT p (what % 12) (at_ % p.trucks.length) ((at_ / 3) % (p.trucks.getD (at_ % p.trucks.length) []).length) at_ by_, spoilB p (what % 12) (at_ % p.bikes.length) ((at_ / 3) % (p.bikes.getD (at_ % p.bikes.length) ⟨0, []⟩).stops.length) at_ by_⟩
structure Mut (ts : List TypeId) (B : Nat) (w w' : World) : Prop where
 bel : Below B w w'
 old : ∀ (b : Nat) (cs : Array Value) (e : TypeId) (fz : Nat × Nat), w.heap[b]? = some (.cells cs e fz) → e ∉ ts → w'.heap[b]? = some (.cells cs e fz)
section
variable {ts : List TypeId} {B : Nat} {w w1 w' : World}
theorem Mut.refl (ts : List TypeId) (B : Nat) (w : World) : Mut ts B w w := ⟨Below.refl _ _, fun _ _ _ _ h _ => h⟩
theorem Mut.trans (h : Mut ts B w w1) (k : Mut ts B w1 w') : Mut ts B w w' := ⟨h.bel.trans k.bel, fun b cs e fz hb h1 => k.old b cs e fz (h.old b cs e fz hb h1) h1⟩
theorem Mut.of_grown {row : Option Nat} (hg : w.grownBy w' row) (hB : B ≤ w.heap.size) (hr : ∀ b, row = some b → B ≤ b ∧ ∃ cs e fz, w.heap[b]? = some (.cells cs e fz) ∧ e ∈ ts) : Mut ts B w w' := by
 refine ⟨(Below.refl B w).grown hg hB (fun k hk => (hr k hk).1), fun b cs e fz hb h1 => ?_⟩
 rw [hg.block b (Array.getElem?_eq_some_iff.1 hb).1 (fun e' => ?_)]
 ·exact hb
 ·obtain ⟨-, cs', e'', fz', hb', ht⟩ := hr b e'.symm
  rw [hb] at hb'
  simp only [Option.some.injEq, Obj.cells.injEq] at hb'
  obtain ⟨-, rfl, -⟩ := hb'
  exact h1 ht
theorem Mut.below (hb : Below w.heap.size w w') (hB : B ≤ w.heap.size) : Mut ts B w w' :=
 .of_grown (row := none) ⟨hb.os, hb.tape, hb.output, hb.size, fun k hk _ => hb.block k hk⟩ hB fun _ h => by cases h
theorem Mut.set {g : Nat} {e : TypeId} {cs : List Value} (h : Row w g e cs) (he : e ∈ ts) (hB : B ≤ g) (j : Nat) (u : Value) : Mut ts B w (w.setCell ⟨g, j, none⟩ u) := by
 have hl := h.lt
 obtain ⟨cur, rest, h1, -⟩ := h
 exact .of_grown (grown_set w ⟨g, j, none⟩ u) (by omega) fun b hb => by
  obtain rfl := Option.some.inj hb
  exact ⟨hB, cur, e, (0, 0), h1, he⟩
theorem Mut.append {B' k n T : Nat} {v : Value} {xs : List Value} (h : w.ownsRow B' T k v n xs) (hT : T ∈ ts) (hg : w.grownBy w' v.ownBlock) (hB : B ≤ w.heap.size) (hB' : B ≤ B') : Mut ts B w w' :=
 .of_grown hg hB fun b hb => by
  have hl := h.lt b hb
  obtain ⟨cs, cur, rest, h1, -⟩ := ownBlock_row h hb
  exact ⟨by omega, cur, T, _, h1, hT⟩
theorem Mut.row {g : Nat} {e : TypeId} {cs : List Value} (h : Mut ts B w w') (hr : Row w g e cs) (h1 : e ∉ ts) : Row w' g e cs := by
 obtain ⟨cur, rest, h3, h4⟩ := hr
 exact ⟨cur, rest, h.old _ _ _ _ h3 h1, h4⟩
theorem Mut.owns {B' e k n : Nat} {v : Value} {xs : List Value} (h : Mut ts B w w') (hr : w.ownsRow B' e k v n xs) (h1 : e ∉ ts) : w'.ownsRow B' e k v n xs := by
 refine ⟨hr.1, ?_⟩
 rcases hr.2 with hn | ⟨g, cap, cur, rfl, hb, hgg, rest⟩
 ·exact .inl hn
 ·exact .inr ⟨g, cap, cur, rfl, hb, h.old _ _ _ _ hgg h1, rest⟩
theorem Mut.drew (h : Mut ts B w w') : Mut ts B w w'.drew := ⟨h.bel.drew, h.old⟩
end
def DOwn (w : World) (B qd : Nat) (fr : List Int) (arcs : List ArcD) : Prop :=
 ∃ aa ca af cf, Row w qd 288 [.int .i64 (fr.length : Int), .slice aa arcs.length ca, .slice af fr.length cf] ∧ w.ownsRow B 260 3 (.slice aa arcs.length ca) arcs.length (arcs.flatMap arcV) ∧
  w.ownsRow B 2 1 (.slice af fr.length cf) fr.length (fr.map intV) ∧ B ≤ qd
theorem DOwn.below {w w' : World} {B qd : Nat} {fr : List Int} {arcs : List ArcD} (h : DOwn w B qd fr arcs) (hb : Below w.heap.size w w') : DOwn w' B qd fr arcs := by
 obtain ⟨aa, ca, af, cf, R, O1, O2, hq⟩ := h
 exact ⟨aa, ca, af, cf, R.below hb, owns_below O1 hb, owns_below O2 hb, hq⟩
theorem DOwn.le {w : World} {B qd : Nat} {fr : List Int} {arcs : List ArcD} (h : DOwn w B qd fr arcs) : B ≤ w.heap.size := by
 obtain ⟨aa, ca, af, cf, R, O1, O2, hq⟩ := h
 have := R.lt; omega
def CustOk (x : InstD) (c : Int) : Prop := 0 ≤ c ∧ c < x.custs.length
def BikeOk (x : InstD) (b : BikeD) : Prop := (0 ≤ b.sat ∧ b.sat < x.sats.length) ∧ 0 < b.stops.length ∧ ∀ c ∈ b.stops, CustOk x c
structure PlanOk (x : InstD) (p : PlanD) : Prop where
 inst : check x = 0
 many : p.trucks.length ≤ x.tmany ∧ p.bikes.length ≤ x.bmany
 truck : ∀ t ∈ p.trucks, 0 < t.length ∧ ∀ s ∈ t, StopOk x s
 bike : ∀ b ∈ p.bikes, BikeOk x b
structure WishD where
 sats : List Int
 order : List Int
 cuts : List Int
def wishS : Shape WishD where
 sz := 3
 rep := fun w F x cs => ∃ s o c, cs = [s, o, c] ∧ bytesS.rep w F x.sats [s] ∧ bytesS.rep w F x.order [o] ∧ bytesS.rep w F x.cuts [c]
 len := by rintro w F x cs ⟨_, _, _, rfl, _⟩; rfl
 keep := by rintro w w' F x cs ⟨_, _, _, rfl, h1, h2, h3⟩ ha; exact ⟨_, _, _, rfl, bytesS.keep h1 ha, bytesS.keep h2 ha, bytesS.keep h3 ha⟩
 weak := by rintro w F G x cs ⟨_, _, _, rfl, h1, h2, h3⟩ ha; exact ⟨_, _, _, rfl, bytesS.weak h1 ha, bytesS.weak h2 ha, bytesS.weak h3 ha⟩
 lt := by rintro w F x cs ⟨_, _, _, rfl, h1, h2, h3⟩; exact ⟨_, _, _, rfl, bytesS.lt h1, bytesS.lt h2, bytesS.lt h3⟩
def atD (l : List Int) (i : Nat) : Int := l.getD (i % l.length) 0
def Bytes (l : List Int) : Prop := ∀ v ∈ l, wf8 v
theorem at_bd {l : List Int} (h : Bytes l) (i : Nat) : 0 ≤ atD l i ∧ atD l i ≤ 255 := by
 unfold atD
 rw [List.getD_eq_getElem?_getD]
 by_cases hk : i % l.length < l.length
 ·rw [List.getElem?_eq_getElem hk]; exact h _ (List.getElem_mem hk)
 ·rw [List.getElem?_eq_none (by omega)]; simp
def insAt (o : List Int) (c n : Nat) : Nat := (atD o c % ((n : Int) + 1)).toNat
def orderUp (o : List Int) : Nat → List Nat
 | 0 => []
 | c + 1 => (orderUp o c).take (insAt o c (orderUp o c).length) ++ c :: (orderUp o c).drop (insAt o c (orderUp o c).length)
theorem insAt_le {o : List Int} (h : Bytes o) (c n : Nat) : insAt o c n ≤ n ∧ ((insAt o c n : Nat) : Int) = atD o c % ((n : Int) + 1) := by
 have h1 := Int.emod_nonneg (atD o c) (show (n : Int) + 1 ≠ 0 by omega)
 have h2 := Int.emod_lt_of_pos (atD o c) (show 0 < (n : Int) + 1 by omega)
 unfold insAt
 omega
theorem orderUp_len (o : List Int) : ∀ c, (orderUp o c).length = c
 | 0 => rfl
 | c + 1 => by
  have := orderUp_len o c
  simp only [orderUp, List.length_append, List.length_take, List.length_cons, List.length_drop, this]; omega
theorem orderUp_lt (o : List Int) : ∀ c, ∀ i ∈ orderUp o c, i < c
 | 0, i, h => by cases h
 | c + 1, i, h => by
  have ih := orderUp_lt o c
  simp only [orderUp, List.mem_append, List.mem_cons] at h
  rcases h with h | rfl | h
  ·have := ih i (List.mem_of_mem_take h); omega
  ·omega
  ·have := ih i (List.mem_of_mem_drop h); omega
def lastUp (bs : List BikeD) (s : Int) : Nat → Int
 | 0 => -1
 | k + 1 => if (bs.getD k ⟨0, []⟩).sat = s then (k : Int) else lastUp bs s k
theorem lastUp_bd (bs : List BikeD) (s : Int) : ∀ k, -1 ≤ lastUp bs s k ∧ lastUp bs s k < k
 | 0 => by simp [lastUp]
 | k + 1 => by
  have := lastUp_bd bs s k
  simp only [lastUp]
  split <;> push_cast <;> omega
def custD (x : InstD) (c : Int) : CustD := x.custs.getD c.toNat ⟨0, 0, 0, 0⟩
def sumUp (x : InstD) (l : List Int) (n : Int) (j : Nat) : Int := n + ((l.take j).map fun c => (custD x c).load).sum
theorem sumUp_succ {x : InstD} {l : List Int} {n : Int} {j : Nat} (h : j < l.length) : sumUp x l n (j + 1) = sumUp x l n j + (custD x l[j]).load := by
 unfold sumUp
 rw [List.take_succ_eq_append_getElem h, List.map_append, List.sum_append]
 simp only [List.map_cons, List.map_nil, List.sum_cons, List.sum_nil]; omega
def satOfC (x : InstD) (w : WishD) (c : Nat) : Nat := (atD w.sats c % (x.sats.length : Int)).toNat
def joinB (x : InstD) (w : WishD) (i c : Nat) (bs : List BikeD) : Bool :=
 decide (0 ≤ lastUp bs (satOfC x w c) bs.length) && (decide (0 < atD w.cuts i % 4) && decide (sumUp x (bs.getD (lastUp bs (satOfC x w c) bs.length).toNat ⟨0, []⟩).stops (custD x c).load (bs.getD (lastUp bs (satOfC x w c) bs.length).toNat ⟨0, []⟩).stops.length ≤ x.broom))
def addBk (bs : List BikeD) (k : Nat) (c : Int) : List BikeD := bs.set k ⟨(bs.getD k ⟨0, []⟩).sat, (bs.getD k ⟨0, []⟩).stops ++ [c]⟩
def bikeStep (x : InstD) (w : WishD) (i c : Nat) (bs : List BikeD) : List BikeD :=
 if joinB x w i c bs then addBk bs (lastUp bs (satOfC x w c) bs.length).toNat c else bs ++ [⟨satOfC x w c, [(c : Int)]⟩]
def loadStep (x : InstD) (w : WishD) (c : Nat) (lo : List Int) : List Int := lo.set (satOfC x w c) (lo.getD (satOfC x w c) 0 + (custD x c).load)
def draftUp (x : InstD) (w : WishD) (os : List Nat) : Nat → List Int × List BikeD
 | 0 => (List.replicate x.sats.length 0, [])
 | k + 1 => (loadStep x w (os.getD k 0) (draftUp x w os k).1, bikeStep x w k (os.getD k 0) (draftUp x w os k).2)
structure BkOk (x : InstD) (k : Nat) (lo : List Int) (bs : List BikeD) : Prop where
 loL : lo.length = x.sats.length
 loB : ∀ v ∈ lo, 0 ≤ v ∧ v ≤ 1000 * (k : Int)
 bsL : bs.length ≤ k
 bsB : ∀ b ∈ bs, (0 ≤ b.sat ∧ b.sat < x.sats.length) ∧ b.stops.length ≤ k ∧ ∀ c ∈ b.stops, 0 ≤ c ∧ c < x.custs.length
theorem BkOk.nil (x : InstD) : BkOk x 0 (List.replicate x.sats.length 0) [] :=
 ⟨List.length_replicate, fun v hv => by rw [List.eq_of_mem_replicate hv]; simp, Nat.le_refl _, fun _ h => by cases h⟩
theorem satOfC_lt {x : InstD} {w : WishD} (h : 0 < x.sats.length) (c : Nat) : satOfC x w c < x.sats.length ∧ ((satOfC x w c : Nat) : Int) = atD w.sats c % (x.sats.length : Int) := by
 have h1 := Int.emod_nonneg (atD w.sats c) (show (x.sats.length : Int) ≠ 0 by omega)
 have h2 := Int.emod_lt_of_pos (atD w.sats c) (show 0 < (x.sats.length : Int) by omega)
 unfold satOfC
 omega
theorem BkOk.load {x : InstD} {k : Nat} {lo : List Int} {bs : List BikeD} (h : BkOk x k lo bs) (w : WishD) (c : Nat) (hc : 0 ≤ (custD x c).load ∧ (custD x c).load ≤ 1000) :
  (loadStep x w c lo).length = x.sats.length ∧ ∀ v ∈ loadStep x w c lo, 0 ≤ v ∧ v ≤ 1000 * ((k + 1 : Nat) : Int) := by
 refine ⟨by unfold loadStep; rw [List.length_set]; exact h.loL, fun v hv => ?_⟩
 rcases List.mem_or_eq_of_mem_set hv with hv | rfl
 ·have := h.loB v hv; push_cast; omega
 ·have : 0 ≤ lo.getD (satOfC x w c) 0 ∧ lo.getD (satOfC x w c) 0 ≤ 1000 * (k : Int) := by
   rw [List.getD_eq_getElem?_getD]
   by_cases hk : satOfC x w c < lo.length
   ·rw [List.getElem?_eq_getElem hk]; exact h.loB _ (List.getElem_mem hk)
   ·rw [List.getElem?_eq_none (by omega)]; simp; omega
  push_cast; omega
theorem BkOk.step {x : InstD} {k : Nat} {lo : List Int} {bs : List BikeD} (h : BkOk x k lo bs) (w : WishD) {i c : Nat} (hc : 0 ≤ (custD x c).load ∧ (custD x c).load ≤ 1000) (hs : 0 < x.sats.length) (hcl : c < x.custs.length) : BkOk x (k + 1) (loadStep x w c lo) (bikeStep x w i c bs) := by
 have h1 := h.load w c hc
 refine ⟨h1.1, h1.2, ?_, fun b hb => ?_⟩
 ·unfold bikeStep addBk
  have := h.bsL
  split
  ·rw [List.length_set]; omega
  ·rw [List.length_append]; simp; omega
 ·unfold bikeStep at hb
  split at hb
  ·rename_i hj
   unfold joinB at hj
   simp only [Bool.and_eq_true, decide_eq_true_eq] at hj
   have hl := lastUp_bd bs (satOfC x w c) bs.length
   have hk : (lastUp bs (satOfC x w c) bs.length).toNat < bs.length := by omega
   unfold addBk at hb
   rcases List.mem_or_eq_of_mem_set hb with hb | rfl
   ·have := h.bsB b hb; exact ⟨this.1, by omega, this.2.2⟩
   ·rw [List.getD_eq_getElem?_getD, List.getElem?_eq_getElem hk, Option.getD_some]
    have := h.bsB _ (List.getElem_mem hk)
    refine ⟨this.1, by rw [List.length_append]; simp; omega, fun d hd => ?_⟩
    rcases List.mem_append.1 hd with hd | hd
    ·exact this.2.2 d hd
    ·obtain rfl := List.mem_singleton.1 hd; omega
  ·rcases List.mem_append.1 hb with hb | hb
   ·have := h.bsB b hb; exact ⟨this.1, by omega, this.2.2⟩
   ·obtain rfl := List.mem_singleton.1 hb
    have := (satOfC_lt (w := w) hs c).1
    refine ⟨by simp only []; omega, by simp, fun d hd => ?_⟩
    obtain rfl := List.mem_singleton.1 hd; omega
theorem draftUp_ok {x : InstD} (w : WishD) {os : List Nat} (hc : ∀ c ∈ x.custs, 0 ≤ c.load ∧ c.load ≤ 1000) (hs : 0 < x.sats.length) (ho : ∀ c ∈ os, c < x.custs.length) : ∀ k, k ≤ os.length → BkOk x k (draftUp x w os k).1 (draftUp x w os k).2
 | 0, _ => BkOk.nil x
 | k + 1, h => by
  have hk : os.getD k 0 < x.custs.length := by rw [List.getD_eq_getElem?_getD, List.getElem?_eq_getElem (by omega)]; exact ho _ (List.getElem_mem _)
  refine (draftUp_ok w hc hs ho k (by omega)).step w ?_ hs hk
  unfold custD
  rw [Int.toNat_natCast, List.getD_eq_getElem?_getD, List.getElem?_eq_getElem hk]
  exact hc _ (List.getElem_mem hk)
def readyQ (many room : Int) (q : Bool) (st : List (List StopD) × Int) : List (List StopD) × Int := if st.2 = 0 ∨ (q = true ∧ (st.1.length : Int) < many) then (st.1 ++ [[]], room) else st
def dOne (many room : Int) (q : Bool) (s : Nat) : Nat → Int → List (List StopD) × Int → List (List StopD) × Int
 | 0, _, st => st
 | f + 1, n, st => if n ≤ 0 then st else
   dOne many room q s f (n - min n (readyQ many room q st).2) (addLast (readyQ many room q st).1 ⟨s, min n (readyQ many room q st).2⟩, (readyQ many room q st).2 - min n (readyQ many room q st).2)
def cutQ (w : WishD) (s : Nat) : Bool := decide (atD w.cuts s % 7 = 6)
def dUp (x : InstD) (w : WishD) (lo : List Int) : Nat → List (List StopD) × Int
 | 0 => ([], 0)
 | s + 1 => dOne x.tmany x.troom (cutQ w s) s (lo.getD s 0).toNat (lo.getD s 0) (dUp x w lo s)
def draftOrd (x : InstD) (w : WishD) : List Nat := orderUp w.order x.custs.length
def draftLB (x : InstD) (w : WishD) : List Int × List BikeD := draftUp x w (draftOrd x w) (draftOrd x w).length
def draftD (x : InstD) (w : WishD) : PlanD := ⟨(dUp x w (draftLB x w).1 (draftLB x w).1.length).1, (draftLB x w).2⟩
theorem dOne_done {many room : Int} {q : Bool} {s f : Nat} {n : Int} {st : List (List StopD) × Int} (h : n ≤ 0) : dOne many room q s f n st = st := by
 cases f with
 | zero => rfl
 | succ f => unfold dOne; rw [if_pos h]
theorem UnitOk.readyQ {many room left : Int} {q : Bool} {cnt : Nat} {out : List (List StopD)} (h : UnitOk room cnt out left) (hr : 1 ≤ room) :
  ∃ o l, Go.Proofs.YtabadfkikdefeaaGreat.readyQ many room q (out, left) = (o, l) ∧ 0 < l ∧ l ≤ room ∧ 0 < o.length ∧ o.length ≤ cnt + 1 ∧ ∀ t ∈ o, t.length ≤ cnt ∧ ∀ s ∈ t, (0 ≤ s.sat ∧ s.sat ≤ 1000) ∧ 0 ≤ s.load ∧ s.load ≤ cnt := by
 have hl := h.leftB
 have hn := h.lenB
 unfold Go.Proofs.YtabadfkikdefeaaGreat.readyQ
 by_cases hz : left = 0 ∨ (q = true ∧ (out.length : Int) < many)
 ·rw [if_pos hz]
  refine ⟨_, _, rfl, by omega, Int.le_refl _, by simp, by simp; omega, fun t ht => ?_⟩
  rcases List.mem_append.1 ht with ht | ht
  ·exact h.stB t ht
  ·obtain rfl := List.mem_singleton.1 ht
   exact ⟨Nat.zero_le _, fun s hs => by cases hs⟩
 ·rw [if_neg hz]
  have hz2 : left ≠ 0 := fun e => hz (.inl e)
  exact ⟨out, left, rfl, by omega, hl.2, h.someB (by omega), by omega, h.stB⟩
theorem UnitOk.batch {room l much : Int} {cnt s : Nat} {o : List (List StopD)} (hl : 0 < l ∧ l ≤ room) (ho : 0 < o.length ∧ o.length ≤ cnt + 1) (hst : ∀ t ∈ o, t.length ≤ cnt ∧ ∀ s ∈ t, (0 ≤ s.sat ∧ s.sat ≤ 1000) ∧ 0 ≤ s.load ∧ s.load ≤ cnt) (hm : 1 ≤ much ∧ much ≤ l) (hs : s ≤ 1000) :
  UnitOk room (cnt + much.toNat) (addLast o ⟨s, much⟩) (l - much) := by
 refine ⟨by omega, by rw [addLast_len]; omega, fun _ => by rw [addLast_len]; exact ho.1, fun t ht => ?_⟩
 unfold addLast at ht
 rcases List.mem_or_eq_of_mem_set ht with ht | rfl
 ·have := hst t ht; exact ⟨by omega, fun u hu => by have := this.2 u hu; push_cast; omega⟩
 ·have := hst _ (lastT_mem ho.1)
  unfold lastT at this
  refine ⟨by rw [List.length_append, List.length_singleton]; omega, fun u hu => ?_⟩
  rcases List.mem_append.1 hu with hu | hu
  ·have := this.2 u hu; push_cast; omega
  ·obtain rfl := List.mem_singleton.1 hu
   show (0 ≤ (s : Int) ∧ (s : Int) ≤ 1000) ∧ 0 ≤ much ∧ much ≤ ((cnt + much.toNat : Nat) : Int)
   omega
def timeAt (x : InstD) (a b : Int) : Int := (x.time.getD a.toNat []).getD b.toNat 0
theorem timeAt_bd {x : InstD} (g : Good x) (a b : Int) : 0 ≤ timeAt x a b ∧ timeAt x a b ≤ 1000000000 := by
 unfold timeAt
 rw [List.getD_eq_getElem?_getD, List.getD_eq_getElem?_getD]
 by_cases h1 : a.toNat < x.time.length
 ·rw [List.getElem?_eq_getElem h1, Option.getD_some]
  by_cases h2 : b.toNat < (x.time[a.toNat]).length
  ·rw [List.getElem?_eq_getElem h2, Option.getD_some]
   exact g.time _ (List.getElem_mem h1) _ (List.getElem_mem h2)
  ·rw [List.getElem?_eq_none (by omega)]; simp
 ·rw [show x.time[a.toNat]? = none from List.getElem?_eq_none (by omega)]; simp
structure DrS where
 fr : List Int
 arcs : List ArcD
 att : List (List Nat)
structure StT where
 d : DrS
 last : Int
 node : Int
def addAtt (att : List (List Nat)) (s n : Nat) : List (List Nat) := att.set s (att.getD s [] ++ [n])
def stepStop (x : InstD) (st : StT) (s : StopD) : StT :=
 ⟨⟨if st.last < 0 then st.d.fr ++ [timeAt x 0 (1 + s.sat)] else st.d.fr ++ [0],
  if st.last < 0 then st.d.arcs else st.d.arcs ++ [⟨st.last.toNat, st.d.fr.length, timeAt x st.node (1 + s.sat)⟩],
  addAtt st.d.att s.sat.toNat st.d.fr.length⟩, st.d.fr.length, 1 + s.sat⟩
def stepTruck (x : InstD) (d : DrS) (t : List StopD) : DrS := (t.foldl (stepStop x) ⟨d, -1, 0⟩).d
def drStart (x : InstD) : DrS := ⟨[], [], List.replicate x.sats.length []⟩
def drTrucks (x : InstD) (l : List (List StopD)) : DrS := l.foldl (stepTruck x) (drStart x)
structure StB where
 d : DrS
 last : Nat
 node : Int
 stay : Int
def holdOf (x : InstD) (s : Int) : Int := (x.sats.getD s.toNat ⟨0, 0⟩).hold
def stepCust (x : InstD) (st : StB) (c : Int) : StB :=
 ⟨⟨st.d.fr ++ [(custD x c).opn], st.d.arcs ++ [⟨st.last, st.d.fr.length, st.stay + timeAt x st.node (1 + x.sats.length + c)⟩], st.d.att⟩, st.d.fr.length, 1 + x.sats.length + c, (custD x c).stay⟩
def holdArcs (x : InstD) (d : DrS) (b : BikeD) (m : Nat) : List ArcD := ((d.att.getD b.sat.toNat []).take m).map fun n => ⟨n, d.fr.length, holdOf x b.sat⟩
def bikeStart (x : InstD) (d : DrS) (b : BikeD) : StB := ⟨⟨d.fr ++ [0], d.arcs ++ holdArcs x d b (d.att.getD b.sat.toNat []).length, d.att⟩, d.fr.length, 1 + b.sat, 0⟩
def bikeEnd (x : InstD) (st : StB) (b : BikeD) : DrS := ⟨st.d.fr ++ [0], st.d.arcs ++ [⟨st.last, st.d.fr.length, st.stay + timeAt x st.node (1 + b.sat)⟩], st.d.att⟩
def stepBikeG (x : InstD) (d : DrS) (b : BikeD) : DrS := bikeEnd x (b.stops.foldl (stepCust x) (bikeStart x d b)) b
def drAll (x : InstD) (p : PlanD) : DrS := p.bikes.foldl (stepBikeG x) (drTrucks x p.trucks)
structure DrOk (x : InstD) (d : DrS) (n m : Nat) : Prop where
 frL : d.fr.length = n
 arL : d.arcs.length ≤ m
 atL : d.att.length = x.sats.length
 at' : ∀ l ∈ d.att, l.length ≤ n ∧ ∀ k ∈ l, k < n
structure StOk (x : InstD) (st : StT) (n : Nat) : Prop where
 ok : DrOk x st.d n n
 lastB : -1 ≤ st.last ∧ st.last < n
 nodeB : 0 ≤ st.node ∧ st.node < nodes x
theorem att_get {x : InstD} {d : DrS} {n m : Nat} (h : DrOk x d n m) (s : Nat) : (d.att.getD s []).length ≤ n ∧ ∀ k ∈ d.att.getD s [], k < n := by
 rw [List.getD_eq_getElem?_getD]
 by_cases hs : s < d.att.length
 ·rw [List.getElem?_eq_getElem hs]; exact h.at' _ (List.getElem_mem hs)
 ·rw [List.getElem?_eq_none (by omega)]; simp
theorem DrOk.start (x : InstD) : DrOk x (drStart x) 0 0 := ⟨rfl, Nat.le_refl _, by simp [drStart], fun l hl => by rw [List.eq_of_mem_replicate hl]; simp⟩
theorem StOk.start {x : InstD} {d : DrS} {n : Nat} (h : DrOk x d n n) : StOk x ⟨d, -1, 0⟩ n := ⟨h, ⟨Int.le_refl _, by show (-1 : Int) < n; omega⟩, ⟨Int.le_refl _, by show (0 : Int) < (nodes x : Int); unfold nodes; omega⟩⟩
theorem StOk.step {x : InstD} {st : StT} {n : Nat} {s : StopD} (h : StOk x st n) (hs : StopOk x s) : StOk x (stepStop x st s) (n + 1) := by
 have hg := att_get h.ok s.sat.toNat
 have h0 := hs.1
 refine ⟨⟨?_, ?_, ?_, fun l hl => ?_⟩, ?_, ?_⟩
 ·simp only [stepStop]; split <;> rw [List.length_append, List.length_singleton, h.ok.frL]
 ·have := h.ok.arL
  simp only [stepStop]; split
  ·omega
  ·rw [List.length_append, List.length_singleton]; omega
 ·simp only [stepStop, addAtt, List.length_set]; exact h.ok.atL
 ·simp only [stepStop, addAtt] at hl
  rcases List.mem_or_eq_of_mem_set hl with hl | rfl
  ·have := h.ok.at' l hl; exact ⟨by omega, fun k hk => by have := this.2 k hk; omega⟩
  ·refine ⟨by rw [List.length_append, List.length_singleton]; omega, fun k hk => ?_⟩
   rcases List.mem_append.1 hk with hk | hk
   ·have := hg.2 k hk; omega
   ·rw [List.mem_singleton.1 hk, h.ok.frL]; omega
 ·simp only [stepStop]; rw [h.ok.frL]; omega
 ·simp only [stepStop]; unfold nodes; omega
theorem stops_ok {x : InstD} {t : List StopD} (ht : ∀ s ∈ t, StopOk x s) {d : DrS} {n : Nat} (h : DrOk x d n n) : ∀ j, j ≤ t.length → StOk x ((t.take j).foldl (stepStop x) ⟨d, -1, 0⟩) (n + j)
 | 0, _ => StOk.start h
 | j + 1, hj => by
  rw [foldl_take_succ _ _ _ _ (by omega), ← Nat.add_assoc]
  exact (stops_ok ht h j (by omega)).step (ht _ (List.getElem_mem _))
theorem trucks_ok {x : InstD} {l : List (List StopD)} (hl : ∀ t ∈ l, ∀ s ∈ t, StopOk x s) : ∀ k, k ≤ l.length → DrOk x ((l.take k).foldl (stepTruck x) (drStart x)) (tstopsUp l k) (tstopsUp l k)
 | 0, _ => by simpa [tstopsUp] using DrOk.start x
 | k + 1, hk => by
  have hk' : k < l.length := by omega
  rw [foldl_take_succ _ _ _ _ hk', tstopsUp_succ hk']
  have h := (stops_ok (hl _ (List.getElem_mem hk')) (trucks_ok hl k (by omega)) l[k].length (Nat.le_refl _)).ok
  rw [List.take_length] at h
  exact h
structure BkSt (x : InstD) (st : StB) (n m : Nat) : Prop where
 ok : DrOk x st.d n m
 lastB : st.last < n
 nodeB : 0 ≤ st.node ∧ st.node < nodes x
 stayB : 0 ≤ st.stay ∧ st.stay ≤ 1000000000
theorem BkSt.start {x : InstD} {d : DrS} {n m : Nat} {b : BikeD} (h : DrOk x d n m) (hb : 0 ≤ b.sat ∧ b.sat < x.sats.length) : BkSt x (bikeStart x d b) (n + 1) (m + n) := by
 have hg := att_get h b.sat.toNat
 refine ⟨⟨?_, ?_, h.atL, fun l hl => ?_⟩, ?_, ?_, by simp only [bikeStart]; omega⟩
 ·simp only [bikeStart]; rw [List.length_append, List.length_singleton, h.frL]
 ·have := h.arL
  simp only [bikeStart, holdArcs]; rw [List.length_append, List.length_map, List.length_take]; omega
 ·have := h.at' l hl; exact ⟨by omega, fun k hk => by have := this.2 k hk; omega⟩
 ·simp only [bikeStart]; rw [h.frL]; omega
 ·simp only [bikeStart]; unfold nodes; omega
theorem BkSt.step {x : InstD} (gd : Good x) {st : StB} {n m : Nat} {c : Int} (h : BkSt x st n m) (hc : CustOk x c) : BkSt x (stepCust x st c) (n + 1) (m + 1) := by
 have hcu : (custD x c).stay = (custD x c).stay := rfl
 have hcl : c.toNat < x.custs.length := by unfold CustOk at hc; omega
 have hst := (gd.cust _ (List.getElem_mem hcl)).2.2.2
 unfold CustOk at hc
 refine ⟨⟨?_, ?_, h.ok.atL, fun l hl => ?_⟩, ?_, ?_, ?_⟩
 ·simp only [stepCust]; rw [List.length_append, List.length_singleton, h.ok.frL]
 ·have := h.ok.arL
  simp only [stepCust]; rw [List.length_append, List.length_singleton]; omega
 ·have := h.ok.at' l hl; exact ⟨by omega, fun k hk => by have := this.2 k hk; omega⟩
 ·simp only [stepCust]; rw [h.ok.frL]; omega
 ·simp only [stepCust]; unfold nodes; omega
 ·simp only [stepCust, custD]
  rw [List.getD_eq_getElem?_getD, List.getElem?_eq_getElem hcl]
  exact hst
theorem custs_ok {x : InstD} (gd : Good x) {b : BikeD} (hb : BikeOk x b) {d : DrS} {n m : Nat} (h : DrOk x d n m) : ∀ j, j ≤ b.stops.length → BkSt x ((b.stops.take j).foldl (stepCust x) (bikeStart x d b)) (n + 1 + j) (m + n + j)
 | 0, _ => BkSt.start h hb.1
 | j + 1, hj => by
  rw [foldl_take_succ _ _ _ _ (by omega), ← Nat.add_assoc, ← Nat.add_assoc]
  exact (custs_ok gd hb h j (by omega)).step gd (hb.2.2 _ (List.getElem_mem _))
theorem BkSt.done {x : InstD} {st : StB} {n m : Nat} {b : BikeD} (h : BkSt x st n m) : DrOk x (bikeEnd x st b) (n + 1) (m + 1) := by
 refine ⟨?_, ?_, h.ok.atL, fun l hl => ?_⟩
 ·simp only [bikeEnd]; rw [List.length_append, List.length_singleton, h.ok.frL]
 ·have := h.ok.arL
  simp only [bikeEnd]; rw [List.length_append, List.length_singleton]; omega
 ·have := h.ok.at' l hl; exact ⟨by omega, fun k hk => by have := this.2 k hk; omega⟩
def evUp (T : Nat) (l : List BikeD) (k : Nat) : Nat := T + stopsUp l k + 2 * k
theorem evUp_succ {T : Nat} {l : List BikeD} {k : Nat} (h : k < l.length) : evUp T l (k + 1) = evUp T l k + 1 + l[k].stops.length + 1 := by unfold evUp; rw [stopsUp_succ h]; omega
theorem bikes_ok {x : InstD} (gd : Good x) {l : List BikeD} (hl : ∀ b ∈ l, BikeOk x b) {d : DrS} {T : Nat} (h : DrOk x d T T) : ∀ k, k ≤ l.length → ∃ m, m ≤ evUp T l k * (k + 1) ∧ DrOk x ((l.take k).foldl (stepBikeG x) d) (evUp T l k) m
 | 0, _ => ⟨T, by simp [evUp, stopsUp], by simpa [evUp, stopsUp] using h⟩
 | k + 1, hk => by
  have hk' : k < l.length := by omega
  obtain ⟨m, hm, ih⟩ := bikes_ok gd hl h k (by omega)
  rw [foldl_take_succ _ _ _ _ hk', evUp_succ hk']
  have hd := ((custs_ok gd (hl _ (List.getElem_mem hk')) ih l[k].stops.length (Nat.le_refl _)).done (b := l[k]))
  rw [List.take_length] at hd
  refine ⟨_, ?_, hd⟩
  generalize evUp T l k = E at hm ⊢
  have e : (E + 1 + l[k].stops.length + 1) * (k + 1 + 1) = E * (k + 1) + E + (1 + l[k].stops.length + 1) * (k + 1) + (1 + l[k].stops.length + 1) := by
   simp only [Nat.add_mul, Nat.mul_add]; omega
  rw [e]
  have : 0 ≤ (1 + l[k].stops.length + 1) * (k + 1) := Nat.zero_le _
  omega
/-! The table of the trucks' events. -/
structure AOwn (w : World) (B ga : Nat) (att : List (List Nat)) (vs : List Value) : Prop where
 row : Row w ga 68 vs
 len : vs.length = att.length
 rows : ∀ i (h : i < att.length) (h' : i < vs.length), w.ownsRow B 3 1 vs[i] att[i].length (att[i].map natV)
 apart : ∀ i j (hi : i < vs.length) (hj : j < vs.length), i ≠ j → vs[i].ownBlock = none ∨ vs[i].ownBlock ≠ vs[j].ownBlock
theorem AOwn.below {w w' : World} {B ga : Nat} {att : List (List Nat)} {vs : List Value} (h : AOwn w B ga att vs) (hb : Below w.heap.size w w') : AOwn w' B ga att vs :=
 ⟨h.row.below hb, h.len, fun i h1 h2 => owns_below (h.rows i h1 h2) hb, h.apart⟩
theorem AOwn.push {w w1 : World} {B ga s n : Nat} {att : List (List Nat)} {vs : List Value} {u : Value} (h : AOwn w B ga att vs) (hs : s < att.length) (hsv : s < vs.length)
  (hg : w.grownBy w1 vs[s].ownBlock) (hu : w1.ownsRow B 3 1 u (att[s].length + 1) (att[s].map natV ++ [natV n])) (hat : u.ownBlock = vs[s].ownBlock ∨ ∃ b, u.ownBlock = some b ∧ w.heap.size ≤ b) :
  AOwn (w1.setCell ⟨ga, s, none⟩ u) B ga (addAtt att s n) (vs.set s u) := by
 have hrow := h.rows _ hs hsv
 have R1 : Row w1 ga 68 vs := h.row.grown hrow (by decide) hg
 have e0 : att.getD s [] = att[s] := by rw [List.getD_eq_getElem?_getD, List.getElem?_eq_getElem hs]; rfl
 refine ⟨R1.set hsv u, by unfold addAtt; rw [List.length_set, List.length_set, h.len], fun i h1 h2 => ?_, fun i j hi hj hij => ?_⟩
 ·have hi : i < att.length := by unfold addAtt at h1; rw [List.length_set] at h1; exact h1
  have hi' : i < vs.length := by rw [h.len]; exact hi
  by_cases e : s = i
  ·subst e
   have e1 : (vs.set s u)[s]'h2 = u := by simp
   have e2 : (addAtt att s n)[s]'h1 = att[s] ++ [n] := by simp only [addAtt, List.getElem_set_self]; rw [e0]
   rw [e1, e2, List.map_append, List.length_append, List.length_singleton]
   exact owns_setApart hu R1 (by decide) _ _
  ·have e1 : (vs.set s u)[i]'h2 = vs[i] := by rw [List.getElem_set_ne e]
   have e2 : (addAtt att s n)[i]'h1 = att[i] := by simp only [addAtt, List.getElem_set, if_neg e]
   rw [e1, e2]
   exact owns_setApart ((h.rows i hi hi').kept hg (h.apart i _ hi' hsv (Ne.symm e))) R1 (by decide) _ _
 ·have hlt : ∀ i (hi : i < vs.length) b, vs[i].ownBlock = some b → b < w.heap.size := fun i hi b hb => ((h.rows i (by rw [← h.len]; exact hi) hi).lt b hb).2
  simp only [List.length_set] at hi hj
  simp only [List.getElem_set]
  split
  ·rename_i ei
   split
   ·omega
   ·rename_i ej
    rcases hat with e | ⟨b, e, hb⟩
    ·rw [e]; exact h.apart _ j hsv hj ej
    ·refine .inr fun e' => ?_
     have := hlt j hj b (by rw [← e', e]); omega
  ·rename_i ei
   split
   ·rename_i ej
    rcases hat with e | ⟨b, e, hb⟩
    ·rw [e]; exact h.apart i _ hi hsv (by omega)
    ·refine .inr fun e' => ?_
     have := hlt i hi b (by rw [e', e]); omega
   ·exact h.apart i j hi hj hij
theorem AOwn.new (w : World) (B n : Nat) : AOwn (w.alloc (.cells (Array.replicate n (.slice none 0 0)) 68)) B w.heap.size (List.replicate n []) (List.replicate n (.slice none 0 0)) := by
 have h := Row.new (w := w) (g := w.heap.size) (e := 68) (cs := List.replicate n (.slice none 0 0)) rfl
 refine ⟨by simpa using h, by simp, fun i h1 h2 => ?_, fun i j hi hj _ => .inl ?_⟩
 ·simp only [List.getElem_replicate]
  exact World.ownsRow_nil _ _ _ _
 ·simp only [List.getElem_replicate]; rfl
theorem nodup_sub_len {α : Type} [DecidableEq α] : ∀ (l m : List α), l.Nodup → (∀ x ∈ l, x ∈ m) → l.length ≤ m.length
 | [], _, _, _ => Nat.zero_le _
 | a :: l, m, hn, hs => by
  have hn' := List.nodup_cons.1 hn
  have ha := hs a (List.mem_cons_self ..)
  have ih := nodup_sub_len l (m.erase a) hn'.2 fun x hx => (List.mem_erase_of_ne (by rintro rfl; exact hn'.1 hx)).2 (hs x (List.mem_cons_of_mem _ hx))
  rw [List.length_erase_of_mem ha] at ih
  have := List.length_pos_of_mem ha
  rw [List.length_cons]; omega
theorem nodup_lt_len {l : List Nat} {n : Nat} (hn : l.Nodup) (h : ∀ i ∈ l, i < n) : l.length ≤ n := by
 have := nodup_sub_len l (List.range n) hn fun x hx => List.mem_range.2 (h x hx)
 rwa [List.length_range] at this
def cntN (g : GraphD) (D : Nat → Bool) (j : Nat) : Nat → Nat
 | 0 => 0
 | n + 1 => cntN g D j n + if (arcAt g n).dst == j && !D n then 1 else 0
def upd (D : Nat → Bool) (k : Nat) : Nat → Bool := fun m => m == k || D m
theorem cntN_le (g : GraphD) (D : Nat → Bool) (j : Nat) : ∀ n, cntN g D j n ≤ n
 | 0 => Nat.le_refl _
 | n + 1 => by have := cntN_le g D j n; unfold cntN; split <;> omega
theorem cntN_other {g : GraphD} {D : Nat → Bool} {j k : Nat} (h : (arcAt g k).dst ≠ j) : ∀ n, cntN g (upd D k) j n = cntN g D j n
 | 0 => rfl
 | n + 1 => by
  unfold cntN
  rw [cntN_other h n]
  congr 1
  by_cases e : n = k
  ·subst e; simp [h]
  ·simp [upd, e]
theorem cntN_ge {g : GraphD} {D : Nat → Bool} {j k : Nat} : ∀ n, n ≤ k → cntN g (upd D k) j n = cntN g D j n
 | 0, _ => rfl
 | n + 1, h => by
  unfold cntN
  rw [cntN_ge n (by omega)]
  have e : n ≠ k := by omega
  simp [upd, e]
theorem cntN_done {g : GraphD} {D : Nat → Bool} {j k : Nat} (hd : D k = false) (hj : (arcAt g k).dst = j) : ∀ n, k < n → cntN g (upd D k) j n + 1 = cntN g D j n
 | 0, h => absurd h (Nat.not_lt_zero _)
 | n + 1, h => by
  unfold cntN
  by_cases e : n = k
  ·subst e
   rw [cntN_ge n (Nat.le_refl _)]
   simp [upd, hd, hj]
  ·have ih := cntN_done hd hj n (by omega)
   have e2 : upd D k n = D n := by simp [upd, e]
   rw [e2]; omega
theorem cntN_zero {g : GraphD} {D : Nat → Bool} {j : Nat} : ∀ n, cntN g D j n = 0 ↔ ∀ k, k < n → (arcAt g k).dst = j → D k = true
 | 0 => by simp [cntN]
 | n + 1 => by
  have ih := cntN_zero (g := g) (D := D) (j := j) n
  unfold cntN
  rw [Nat.add_eq_zero_iff, ih]
  constructor
  ·rintro ⟨h1, h2⟩ k hk hd
   by_cases e : k = n
   ·subst e
    cases hD : D k with
    | true => rfl
    | false => simp [hd, hD] at h2
   ·exact h1 k (by omega) hd
  ·intro h
   refine ⟨fun k hk => h k (by omega), ?_⟩
   by_cases e : (arcAt g n).dst = j
   ·simp [h n (by omega) e]
   ·simp [e]
structure Kahn (g : GraphD) (out : List Nat) (D : Nat → Bool) (ins : List Int) (ids : List Nat) : Prop where
 len : ins.length = g.n
 ins : ∀ j, j < g.n → ins.getD j 0 = (cntN g D j g.arcs.length : Int)
 nodup : out.Nodup
 lt : ∀ i ∈ out, i < g.n
 idsN : ids.Nodup
 idsM : ∀ j, j ∈ ids ↔ j < g.n ∧ j ∉ out ∧ cntN g D j g.arcs.length = 0
 topo : ∀ p (h : p < out.length), ∀ k, k < g.arcs.length → (arcAt g k).dst = out[p] → (arcAt g k).frm ∈ out.take p
 doneOut : ∀ k, k < g.arcs.length → D k = true → (arcAt g k).frm ∈ out
theorem Kahn.start {g : GraphD} {ins : List Int} {ids : List Nat} (hl : ins.length = g.n) (hi : ∀ j, j < g.n → ins.getD j 0 = (cntN g (fun _ => false) j g.arcs.length : Int)) (hn : ids.Nodup)
  (hm : ∀ j, j ∈ ids ↔ j < g.n ∧ cntN g (fun _ => false) j g.arcs.length = 0) : Kahn g [] (fun _ => false) ins ids :=
 ⟨hl, hi, List.nodup_nil, (fun _ h => by cases h), hn, fun j => by rw [hm]; simp, fun p h => absurd h (Nat.not_lt_zero _), fun _ _ h => by cases h⟩
def Full (g : GraphD) (out : List Nat) (D : Nat → Bool) : Prop := ∀ k, k < g.arcs.length → (arcAt g k).frm ∈ out → D k = true
def Partly (g : GraphD) (out : List Nat) (D : Nat → Bool) (rest : List Nat) : Prop := rest.Nodup ∧ (∀ k ∈ rest, k < g.arcs.length ∧ D k = false) ∧ ∀ k, k < g.arcs.length → (arcAt g k).frm ∈ out → D k = true ∨ k ∈ rest
theorem outUp_mem {g : GraphD} {i n k : Nat} : k ∈ outUp g i n ↔ k < n ∧ (arcAt g k).frm = i := by
 unfold outUp; simp [List.mem_filter]
theorem outUp_nodup (g : GraphD) (i n : Nat) : (outUp g i n).Nodup := List.Pairwise.filter _ List.nodup_range
theorem Kahn.take {g : GraphD} {out : List Nat} {D : Nat → Bool} {ins : List Int} {ids ids' : List Nat} {i : Nat} (h : Kahn g out D ins ids) (hf : Full g out D) (hp : (i :: ids').Perm ids) :
  i < g.n ∧ Kahn g (out ++ [i]) D ins ids' ∧ Partly g (out ++ [i]) D (outUp g i g.arcs.length) := by
 obtain ⟨hi1, hi2, hi3⟩ := (h.idsM i).1 (hp.mem_iff.1 (List.mem_cons_self ..))
 have hn := List.nodup_cons.1 (hp.nodup_iff.2 h.idsN)
 refine ⟨hi1, ⟨h.len, h.ins, ?_, ?_, hn.2, fun j => ?_, fun p hpl k hk hd => ?_, fun k hk hd => List.mem_append_left _ (h.doneOut k hk hd)⟩, outUp_nodup _ _ _, fun k hk => ?_, fun k hk hfr => ?_⟩
 ·rw [List.nodup_append]
  exact ⟨h.nodup, by simp, fun a ha b hb e => hi2 (by rw [List.mem_singleton] at hb; rw [← hb, ← e]; exact ha)⟩
 ·intro j hj
  rcases List.mem_append.1 hj with hj | hj
  ·exact h.lt j hj
  ·rw [List.mem_singleton.1 hj]; exact hi1
 ·have e : j ∈ ids' ↔ j ∈ ids ∧ j ≠ i := by
   rw [← hp.mem_iff, List.mem_cons]
   constructor
   ·intro hj; exact ⟨.inr hj, by rintro rfl; exact hn.1 hj⟩
   ·rintro ⟨hj, hne⟩; exact hj.resolve_left hne
  rw [e, h.idsM, List.mem_append, List.mem_singleton]
  constructor
  ·rintro ⟨⟨a, b, c⟩, d⟩; exact ⟨a, fun h => h.elim b d, c⟩
  ·rintro ⟨a, b, c⟩; exact ⟨⟨a, fun h => b (.inl h), c⟩, fun h => b (.inr h)⟩
 ·by_cases hpo : p < out.length
  ·rw [List.getElem_append_left hpo] at hd
   rw [List.take_append_of_le_length (by omega)]
   exact h.topo p hpo k hk hd
  ·have hpe : p = out.length := by rw [List.length_append, List.length_singleton] at hpl; omega
   subst hpe
   rw [List.getElem_append_right (Nat.le_refl _)] at hd
   simp only [Nat.sub_self, List.getElem_cons_zero] at hd
   rw [List.take_append_of_le_length (Nat.le_refl _), List.take_length]
   exact h.doneOut k hk ((cntN_zero _).1 hi3 k hk hd)
 ·obtain ⟨h1, h2⟩ := outUp_mem.1 hk
  refine ⟨h1, ?_⟩
  cases hD : D k with
  | false => rfl
  | true => exact absurd (h2 ▸ h.doneOut k h1 hD) hi2
 ·rcases List.mem_append.1 hfr with hfr | hfr
  ·exact .inl (hf k hk hfr)
  ·exact .inr (outUp_mem.2 ⟨hk, List.mem_singleton.1 hfr⟩)
theorem Kahn.dst_new {g : GraphD} {o : List Nat} {i : Nat} {D : Nat → Bool} {ins : List Int} {ids : List Nat} (h : Kahn g (o ++ [i]) D ins ids) {k : Nat} (hk : k < g.arcs.length) (hf : (arcAt g k).frm = i) : (arcAt g k).dst ∉ o ++ [i] := by
 intro hm
 obtain ⟨p, hp, e⟩ := List.getElem_of_mem hm
 have ht := h.topo p hp k hk e.symm
 rw [hf] at ht
 have hpo : p ≤ o.length := by rw [List.length_append, List.length_singleton] at hp; omega
 rw [List.take_append_of_le_length hpo] at ht
 have hn := h.nodup
 rw [List.nodup_append] at hn
 exact hn.2.2 i (List.mem_of_mem_take ht) i (List.mem_singleton.2 rfl) rfl
theorem Kahn.arc {g : GraphD} {o : List Nat} {i : Nat} {D : Nat → Bool} {ins : List Int} {ids : List Nat} (h : Kahn g (o ++ [i]) D ins ids) {k : Nat} {rest : List Nat} (hP : Partly g (o ++ [i]) D (k :: rest)) (hf : (arcAt g k).frm = i) (hd : (arcAt g k).dst < g.n)
  {v : Int} (hv : ins.getD (arcAt g k).dst 0 = v) {ids' : List Nat} (hi : if v - 1 = 0 then ids'.Perm ((arcAt g k).dst :: ids) else ids' = ids) :
  (1 ≤ v ∧ v ≤ g.arcs.length) ∧ Kahn g (o ++ [i]) (upd D k) (ins.set (arcAt g k).dst (v - 1)) ids' ∧ Partly g (o ++ [i]) (upd D k) rest := by
 obtain ⟨hP1, hP2, hP3⟩ := hP
 have hP1' := List.nodup_cons.1 hP1
 obtain ⟨hk, hDk⟩ := hP2 k (List.mem_cons_self ..)
 have hnew := h.dst_new hk hf
 have hvc := h.ins _ hd
 rw [hv] at hvc
 have hdone := cntN_done (g := g) hDk rfl g.arcs.length hk
 have hle := cntN_le g D (arcAt g k).dst g.arcs.length
 have hnid : (arcAt g k).dst ∉ ids := fun hm => by have := ((h.idsM _).1 hm).2.2; omega
 have key : ∀ j, j ∈ ids' ↔ j < g.n ∧ j ∉ o ++ [i] ∧ cntN g (upd D k) j g.arcs.length = 0 := fun j => by
  by_cases e : (arcAt g k).dst = j
  ·subst e
   split at hi
   ·rw [hi.mem_iff]
    exact ⟨fun _ => ⟨hd, hnew, by omega⟩, fun _ => List.mem_cons_self ..⟩
   ·subst hi
    constructor
    ·exact fun hm => absurd hm hnid
    ·rintro ⟨_, _, h0⟩; omega
  ·rw [cntN_other e]
   rw [← h.idsM j]
   split at hi
   ·rw [hi.mem_iff, List.mem_cons]
    exact ⟨fun hj => hj.resolve_left (fun h => e h.symm), .inr⟩
   ·subst hi; exact Iff.rfl
 refine ⟨⟨by omega, by omega⟩, ⟨by rw [List.length_set]; exact h.len, fun j hj => ?_, h.nodup, h.lt, ?_, key, h.topo, fun m hm hD => ?_⟩, hP1'.2, fun m hm => ?_, fun m hm hfr => ?_⟩
 ·rw [List.getD_eq_getElem?_getD, List.getElem?_set]
  by_cases e : (arcAt g k).dst = j
  ·subst e
   rw [if_pos rfl, if_pos (by rw [h.len]; exact hj), Option.getD_some]; omega
  ·rw [if_neg e, cntN_other e, ← h.ins j hj, List.getD_eq_getElem?_getD]
 ·split at hi
  ·exact hi.nodup_iff.2 (List.nodup_cons.2 ⟨hnid, h.idsN⟩)
  ·rw [hi]; exact h.idsN
 ·unfold upd at hD
  rcases Bool.or_eq_true_iff.1 hD with e | e
  ·rw [beq_iff_eq.1 e, hf]; simp
  ·exact h.doneOut m hm e
 ·have hmk : m ≠ k := by rintro rfl; exact hP1'.1 hm
  obtain ⟨a, b⟩ := hP2 m (List.mem_cons_of_mem _ hm)
  exact ⟨a, by simp [upd, hmk, b]⟩
 ·rcases hP3 m hm hfr with hh | hh
  ·exact .inl (by simp [upd, hh])
  ·rcases List.mem_cons.1 hh with rfl | hh
   ·exact .inl (by simp [upd])
   ·exact .inr hh
theorem Partly.full {g : GraphD} {out : List Nat} {D : Nat → Bool} (h : Partly g out D []) : Full g out D := fun k hk hf => (h.2.2 k hk hf).resolve_right (fun h => by cases h)
structure Topo (g : GraphD) (out : List Nat) : Prop where
 nodup : out.Nodup
 lt : ∀ i ∈ out, i < g.n
 all : ∀ i, i < g.n → i ∈ out
 before : ∀ p (h : p < out.length), ∀ k, k < g.arcs.length → (arcAt g k).dst = out[p] → (arcAt g k).frm ∈ out.take p
theorem Topo.len {g : GraphD} {out : List Nat} (h : Topo g out) : out.length = g.n := by
 have h1 := nodup_lt_len h.nodup h.lt
 have h2 := nodup_sub_len (List.range g.n) out List.nodup_range fun x hx => h.all x (List.mem_range.1 hx)
 rw [List.length_range] at h2
 omega
theorem getD_set_eq (l : List Int) (k i : Nat) (v : Int) : (l.set k v).getD i 0 = if k = i ∧ i < l.length then v else l.getD i 0 := by
 rw [List.getD_eq_getElem?_getD, List.getElem?_set, List.getD_eq_getElem?_getD]
 by_cases e : k = i
 ·subst e
  by_cases h : k < l.length
  ·rw [if_pos rfl, if_pos h, if_pos ⟨rfl, h⟩]; rfl
  ·rw [if_pos rfl, if_neg h, if_neg (fun h' => h h'.2), List.getElem?_eq_none (by omega)]
 ·rw [if_neg e, if_neg (fun h => e h.1)]
structure LInv (g : GraphD) (fr d : List Int) (D : Nat → Bool) : Prop where
 len : d.length = g.n
 lo : ∀ j, j < g.n → fr.getD j 0 ≤ d.getD j 0
 up : ∀ k, k < g.arcs.length → D k = true → d.getD (arcAt g k).frm 0 + (arcAt g k).wt ≤ d.getD (arcAt g k).dst 0
 eq : ∀ j, j < g.n → d.getD j 0 = fr.getD j 0 ∨ ∃ k, k < g.arcs.length ∧ D k = true ∧ (arcAt g k).dst = j ∧ d.getD j 0 = d.getD (arcAt g k).frm 0 + (arcAt g k).wt
def relax (d : List Int) (s : ArcD) : List Int := d.set s.dst (max (d.getD s.dst 0) (d.getD s.frm 0 + s.wt))
theorem LInv.start {g : GraphD} {fr : List Int} (h : fr.length = g.n) : LInv g fr fr (fun _ => false) := ⟨h, fun _ _ => Int.le_refl _, (fun _ _ h => by cases h), fun _ _ => .inl rfl⟩
theorem LInv.arc {g : GraphD} {fr d : List Int} {D : Nat → Bool} (h : LInv g fr d D) {k : Nat} (hk : k < g.arcs.length) (hn : (arcAt g k).dst < g.n) (hne : (arcAt g k).frm ≠ (arcAt g k).dst) (hD : ∀ m, m < g.arcs.length → D m = true → (arcAt g m).frm ≠ (arcAt g k).dst) :
  LInv g fr (relax d (arcAt g k)) (upd D k) := by
 have hl : (arcAt g k).dst < d.length := by rw [h.len]; exact hn
 have hget : ∀ i, (relax d (arcAt g k)).getD i 0 = if (arcAt g k).dst = i then max (d.getD (arcAt g k).dst 0) (d.getD (arcAt g k).frm 0 + (arcAt g k).wt) else d.getD i 0 := fun i => by
  unfold relax
  rw [getD_set_eq]
  by_cases e : (arcAt g k).dst = i
  ·rw [if_pos ⟨e, by omega⟩, if_pos e]
  ·rw [if_neg (fun h => e h.1), if_neg e]
 have hfk : (relax d (arcAt g k)).getD (arcAt g k).frm 0 = d.getD (arcAt g k).frm 0 := by rw [hget, if_neg (fun e => hne e.symm)]
 have hfm : ∀ m, m < g.arcs.length → D m = true → (relax d (arcAt g k)).getD (arcAt g m).frm 0 = d.getD (arcAt g m).frm 0 := fun m hm hd => by rw [hget, if_neg (fun e => hD m hm hd e.symm)]
 have hge : ∀ i, d.getD i 0 ≤ (relax d (arcAt g k)).getD i 0 := fun i => by
  rw [hget]
  by_cases e : (arcAt g k).dst = i
  ·subst e; rw [if_pos rfl]; omega
  ·rw [if_neg e]; exact Int.le_refl _
 refine ⟨by unfold relax; rw [List.length_set]; exact h.len, fun j hj => Int.le_trans (h.lo j hj) (hge j), fun m hm hd => ?_, fun j hj => ?_⟩
 ·unfold upd at hd
  by_cases e : m = k
  ·subst e
   rw [hfk, hget, if_pos rfl]; omega
  ·have hd' : D m = true := by simpa [e] using hd
   rw [hfm m hm hd']
   exact Int.le_trans (h.up m hm hd') (hge _)
 ·by_cases e : (arcAt g k).dst = j
  ·subst e
   rw [hget, if_pos rfl]
   by_cases hc : d.getD (arcAt g k).frm 0 + (arcAt g k).wt ≤ d.getD (arcAt g k).dst 0
   ·rw [show max (d.getD (arcAt g k).dst 0) (d.getD (arcAt g k).frm 0 + (arcAt g k).wt) = d.getD (arcAt g k).dst 0 by omega]
    rcases h.eq _ hj with h0 | ⟨m, hm, hd, h1, h2⟩
    ·exact .inl h0
    ·exact .inr ⟨m, hm, by simp [upd, hd], h1, by rw [hfm m hm hd]; exact h2⟩
   ·exact .inr ⟨k, hk, by simp [upd], rfl, by rw [hfk]; omega⟩
  ·rw [hget, if_neg e]
   rcases h.eq _ hj with h0 | ⟨m, hm, hd, h1, h2⟩
   ·exact .inl h0
   ·exact .inr ⟨m, hm, by simp [upd, hd], h1, by rw [hfm m hm hd]; exact h2⟩
def LateOf (g : GraphD) (fr d : List Int) : Prop := LInv g fr d (fun _ => true)
theorem LInv.late {g : GraphD} {fr d : List Int} {D : Nat → Bool} (h : LInv g fr d D) (hD : ∀ k, k < g.arcs.length → D k = true) : LateOf g fr d :=
 ⟨h.len, h.lo, fun k hk _ => h.up k hk (hD k hk), fun j hj => (h.eq j hj).imp id fun ⟨k, h1, h2, h3⟩ => ⟨k, h1, rfl, h3⟩⟩
theorem LateOf.unique {g : GraphD} {fr d d' : List Int} (hg : ∀ a ∈ g.arcs, a.frm < a.dst ∧ a.dst < g.n) (h : LateOf g fr d) (h' : LateOf g fr d') : d = d' := by
 have key : ∀ j, j < g.n → d.getD j 0 = d'.getD j 0 := by
  intro j
  induction j using Nat.strongRecOn with
  | _ j ih =>
   intro hj
   have step : ∀ k, k < g.arcs.length → (arcAt g k).dst = j → d.getD (arcAt g k).frm 0 = d'.getD (arcAt g k).frm 0 := fun k hk hd => by
    have := hg _ (List.getElem_mem hk)
    rw [← arcAt_get hk] at this
    exact ih _ (by omega) (by omega)
   have le1 : d.getD j 0 ≤ d'.getD j 0 := by
    rcases h.eq j hj with h0 | ⟨k, hk, _, h1, h2⟩
    ·have := h'.lo j hj; omega
    ·have := h'.up k hk rfl
     rw [h1, ← step k hk h1] at this; omega
   have le2 : d'.getD j 0 ≤ d.getD j 0 := by
    rcases h'.eq j hj with h0 | ⟨k, hk, _, h1, h2⟩
    ·have := h.lo j hj; omega
    ·have := h.up k hk rfl
     rw [h1, step k hk h1] at this; omega
   omega
 refine List.ext_getElem (by rw [h.len, h'.len]) fun i h1 h2 => ?_
 have := key i (by rw [← h.len]; exact h1)
 rw [List.getD_eq_getElem?_getD, List.getD_eq_getElem?_getD, List.getElem?_eq_getElem h1, List.getElem?_eq_getElem h2] at this
 exact this
theorem Topo.new {g : GraphD} {l : List Nat} (h : Topo g l) {p : Nat} (hp : p < l.length) {k : Nat} (hk : k < g.arcs.length) (hf : (arcAt g k).frm = l[p]) : (arcAt g k).dst ∉ l.take (p + 1) := by
 intro hm
 obtain ⟨q, hq, e⟩ := List.getElem_of_mem hm
 rw [List.getElem_take] at e
 have hq' : q < p + 1 := by rw [List.length_take] at hq; omega
 have ht := h.before q (by omega) k hk e.symm
 rw [hf] at ht
 obtain ⟨r, hr, e2⟩ := List.getElem_of_mem ht
 rw [List.getElem_take] at e2
 have hrq : r < q := by rw [List.length_take] at hr; omega
 exact (List.pairwise_iff_getElem.1 h.nodup) r p (by omega) hp (by omega) e2
structure LSt (g : GraphD) (fr : List Int) (M : Int) (l : List Nat) (p : Nat) (d : List Int) (D : Nat → Bool) (rest : List Nat) : Prop where
 inv : LInv g fr d D
 done : ∀ k, k < g.arcs.length → D k = true → (arcAt g k).frm ∈ l.take (p + 1)
 part : Partly g (l.take (p + 1)) D rest
 bd : ∀ j, j < g.n → 0 ≤ d.getD j 0 ∧ d.getD j 0 ≤ M + 1099511627776 * ((p : Int) + 1)
 bi : ∀ (h : p < l.length), d.getD l[p] 0 ≤ M + 1099511627776 * (p : Int)
structure LOut (g : GraphD) (fr : List Int) (M : Int) (l : List Nat) (p : Nat) (d : List Int) (D : Nat → Bool) : Prop where
 inv : LInv g fr d D
 done : ∀ k, k < g.arcs.length → D k = true → (arcAt g k).frm ∈ l.take p
 full : Full g (l.take p) D
 bd : ∀ j, j < g.n → 0 ≤ d.getD j 0 ∧ d.getD j 0 ≤ M + 1099511627776 * (p : Int)
theorem LOut.start {g : GraphD} {fr : List Int} {M : Int} {l : List Nat} (h : fr.length = g.n) (hb : ∀ v ∈ fr, 0 ≤ v ∧ v ≤ M) : LOut g fr M l 0 fr (fun _ => false) :=
 ⟨LInv.start h, (fun _ _ h => by cases h), (fun _ _ h => by simp at h), fun j hj => by
  rw [List.getD_eq_getElem?_getD, List.getElem?_eq_getElem (by omega)]
  have := hb _ (List.getElem_mem (show j < fr.length by omega))
  simpa using this⟩
theorem LOut.next {g : GraphD} {fr : List Int} {M : Int} {l : List Nat} {p : Nat} {d : List Int} {D : Nat → Bool} (h : LOut g fr M l p d D) (hT : Topo g l) (hp : p < l.length) : LSt g fr M l p d D (outUp g l[p] g.arcs.length) := by
 have htk : l.take (p + 1) = l.take p ++ [l[p]] := List.take_succ_eq_append_getElem hp
 refine ⟨h.inv, fun k hk hd => by rw [htk]; exact List.mem_append_left _ (h.done k hk hd), ⟨outUp_nodup _ _ _, fun k hk => ?_, fun k hk hf => ?_⟩, fun j hj => by have := h.bd j hj; omega, fun _ => (h.bd _ (hT.lt _ (List.getElem_mem hp))).2⟩
 ·obtain ⟨h1, h2⟩ := outUp_mem.1 hk
  refine ⟨h1, ?_⟩
  cases hD : D k with
  | false => rfl
  | true =>
   have hm := h.done k h1 hD
   rw [h2] at hm
   obtain ⟨r, hr, e2⟩ := List.getElem_of_mem hm
   rw [List.getElem_take] at e2
   have hrq : r < p := by rw [List.length_take] at hr; omega
   exact absurd e2 ((List.pairwise_iff_getElem.1 hT.nodup) r p (by omega) hp (by omega))
 ·rw [htk] at hf
  rcases List.mem_append.1 hf with hf | hf
  ·exact .inl (h.full k hk hf)
  ·exact .inr (outUp_mem.2 ⟨hk, List.mem_singleton.1 hf⟩)
theorem LSt.arc {g : GraphD} {fr : List Int} {M : Int} {l : List Nat} {p : Nat} {d : List Int} {D : Nat → Bool} {k : Nat} {rest : List Nat} (h : LSt g fr M l p d D (k :: rest)) (hg : GGood g) (hT : Topo g l) (hp : p < l.length) (hk : k < g.arcs.length) (hf : (arcAt g k).frm = l[p]) :
  LSt g fr M l p (relax d (arcAt g k)) (upd D k) rest := by
 have ha := hg.arc _ (List.getElem_mem hk)
 rw [← arcAt_get hk] at ha
 have hnew := hT.new hp hk hf
 have hpi : l[p] ∈ l.take (p + 1) := by rw [List.take_succ_eq_append_getElem hp]; exact List.mem_append_right _ (List.mem_singleton.2 rfl)
 have hnd : ∀ m, m < g.arcs.length → D m = true → (arcAt g m).frm ≠ (arcAt g k).dst := fun m hm hd e => hnew (e ▸ h.done m hm hd)
 have hbi := h.bi hp
 obtain ⟨hP1, hP2, hP3⟩ := h.part
 have hP1' := List.nodup_cons.1 hP1
 have hget : ∀ i, (relax d (arcAt g k)).getD i 0 = if (arcAt g k).dst = i then max (d.getD (arcAt g k).dst 0) (d.getD (arcAt g k).frm 0 + (arcAt g k).wt) else d.getD i 0 := fun i => by
  unfold relax
  rw [getD_set_eq]
  by_cases e : (arcAt g k).dst = i
  ·rw [if_pos ⟨e, by rw [h.inv.len]; omega⟩, if_pos e]
  ·rw [if_neg (fun h => e h.1), if_neg e]
 refine ⟨h.inv.arc hk ha.2.1 (by omega) hnd, fun m hm hd => ?_, ⟨hP1'.2, fun m hm => ?_, fun m hm hfr => ?_⟩, fun j hj => ?_, fun _ => ?_⟩
 ·unfold upd at hd
  rcases Bool.or_eq_true_iff.1 hd with e | e
  ·rw [beq_iff_eq.1 e, hf]; exact hpi
  ·exact h.done m hm e
 ·have hmk : m ≠ k := by rintro rfl; exact hP1'.1 hm
  obtain ⟨a, b⟩ := hP2 m (List.mem_cons_of_mem _ hm)
  exact ⟨a, by simp [upd, hmk, b]⟩
 ·rcases hP3 m hm hfr with hh | hh
  ·exact .inl (by simp [upd, hh])
  ·rcases List.mem_cons.1 hh with rfl | hh
   ·exact .inl (by simp [upd])
   ·exact .inr hh
 ·have h1 := h.bd j hj
  rw [hget]
  split
  ·rename_i e
   subst e
   rw [hf]
   omega
  ·exact h1
 ·rw [hget, if_neg (fun e : (arcAt g k).dst = l[p] => hnew (by rw [e]; exact hpi))]
  exact hbi
theorem LOut.late {g : GraphD} {fr : List Int} {M : Int} {l : List Nat} {d : List Int} {D : Nat → Bool} (h : LOut g fr M l l.length d D) (hg : GGood g) (hT : Topo g l) : LateOf g fr d := by
 refine h.inv.late fun k hk => h.full k hk ?_
 have ha := hg.arc _ (List.getElem_mem hk)
 rw [← arcAt_get hk] at ha
 rw [List.take_length]
 exact hT.all _ (by omega)
structure SnT where
 now : Int
 node : Int
 ready : List Int
 l : List Int
def soonStop (x : InstD) (st : SnT) (s : StopD) : SnT :=
 ⟨st.now + timeAt x st.node (1 + s.sat), 1 + s.sat, st.ready.set s.sat.toNat (max (st.ready.getD s.sat.toNat 0) (st.now + timeAt x st.node (1 + s.sat) + holdOf x s.sat)), st.l ++ [st.now + timeAt x st.node (1 + s.sat)]⟩
structure SnA where
 ready : List Int
 ts : List (List Int)
def soonTruckE (x : InstD) (a : SnA) (t : List StopD) : SnT := t.foldl (soonStop x) ⟨0, 0, a.ready, []⟩
def soonTruck (x : InstD) (a : SnA) (t : List StopD) : SnA := ⟨(soonTruckE x a t).ready, a.ts ++ [(soonTruckE x a t).l]⟩
def soonTrucks (x : InstD) (l : List (List StopD)) : SnA := l.foldl (soonTruck x) ⟨List.replicate x.sats.length 0, []⟩
structure SnB where
 now : Int
 node : Int
 starts : List Int
def soonCust (x : InstD) (st : SnB) (c : Int) : SnB :=
 ⟨max (st.now + timeAt x st.node (1 + x.sats.length + c)) (custD x c).opn + (custD x c).stay, 1 + x.sats.length + c, st.starts ++ [max (st.now + timeAt x st.node (1 + x.sats.length + c)) (custD x c).opn]⟩
def soonBikeE (x : InstD) (ready : List Int) (b : BikeD) : SnB := b.stops.foldl (soonCust x) ⟨ready.getD b.sat.toNat 0, 1 + b.sat, []⟩
def soonBike (x : InstD) (ready : List Int) (b : BikeD) : RideD :=
 ⟨ready.getD b.sat.toNat 0, (soonBikeE x ready b).starts, (soonBikeE x ready b).now + timeAt x (soonBikeE x ready b).node (1 + b.sat)⟩
def soonD (x : InstD) (p : PlanD) : TimesD := ⟨(soonTrucks x p.trucks).ts, p.bikes.map (soonBike x (soonTrucks x p.trucks).ready)⟩
def flatR (r : RideD) : List Int := r.out :: (r.starts ++ [r.back])
def flatT (t : TimesD) : List Int := t.trucks.flatten ++ t.bikes.flatMap flatR
theorem late_iff {n : Nat} {arcs : List ArcD} {fr d : List Int} : LateOf ⟨n, arcs⟩ fr d ↔ d.length = n ∧ (∀ j, j < n → fr.getD j 0 ≤ d.getD j 0) ∧ (∀ a ∈ arcs, d.getD a.frm 0 + a.wt ≤ d.getD a.dst 0) ∧ ∀ j, j < n → d.getD j 0 = fr.getD j 0 ∨ ∃ a ∈ arcs, a.dst = j ∧ d.getD j 0 = d.getD a.frm 0 + a.wt := by
 constructor
 ·intro h
  refine ⟨h.len, h.lo, fun a ha => ?_, fun j hj => ?_⟩
  ·obtain ⟨k, hk, rfl⟩ := List.getElem_of_mem ha
   have h1 := h.up k hk rfl
   rw [arcAt_get (g := ⟨n, arcs⟩) hk] at h1
   exact h1
  ·rcases h.eq j hj with h1 | ⟨k, hk, -, h1, h2⟩
   ·exact .inl h1
   ·rw [arcAt_get (g := ⟨n, arcs⟩) hk] at h1 h2
    exact .inr ⟨arcs[k]'hk, List.getElem_mem _, h1, h2⟩
 ·rintro ⟨h1, h2, h3, h4⟩
  refine ⟨h1, h2, fun k hk _ => ?_, fun j hj => ?_⟩
  ·rw [arcAt_get (g := ⟨n, arcs⟩) hk]; exact h3 _ (List.getElem_mem _)
  ·rcases h4 j hj with h5 | ⟨a, ha, h5, h6⟩
   ·exact .inl h5
   ·obtain ⟨k, hk, rfl⟩ := List.getElem_of_mem ha
    exact .inr ⟨k, hk, rfl, by rw [arcAt_get (g := ⟨n, arcs⟩) hk]; exact h5, by rw [arcAt_get (g := ⟨n, arcs⟩) hk]; exact h6⟩
theorem getD_snoc (l : List Int) (v : Int) (i : Nat) : (l ++ [v]).getD i 0 = if i < l.length then l.getD i 0 else if i = l.length then v else 0 := by
 rw [List.getD_eq_getElem?_getD, List.getD_eq_getElem?_getD]
 by_cases h : i < l.length
 ·rw [if_pos h, List.getElem?_append_left h]
 ·rw [if_neg h, List.getElem?_append_right (by omega)]
  by_cases h2 : i = l.length
  ·rw [if_pos h2, h2, Nat.sub_self]; rfl
  ·rw [if_neg h2, List.getElem?_eq_none (by simp only [List.length_singleton]; omega)]; rfl
theorem getD_snoc_lt {l : List Int} {v : Int} {i : Nat} (h : i < l.length) : (l ++ [v]).getD i 0 = l.getD i 0 := by rw [getD_snoc, if_pos h]
theorem getD_snoc_len (l : List Int) (v : Int) : (l ++ [v]).getD l.length 0 = v := by rw [getD_snoc, if_neg (by omega), if_pos rfl]
theorem late_grow {n : Nat} {arcs new : List ArcD} {fr d : List Int} {f v : Int} (h : LateOf ⟨n, arcs⟩ fr d) (hfr : fr.length = n) (ho : ∀ a ∈ arcs, a.frm < n ∧ a.dst < n) (hn : ∀ a ∈ new, a.frm < n ∧ a.dst = n)
  (hf : f ≤ v) (hu : ∀ a ∈ new, d.getD a.frm 0 + a.wt ≤ v) (he : v = f ∨ ∃ a ∈ new, v = d.getD a.frm 0 + a.wt) : LateOf ⟨n + 1, arcs ++ new⟩ (fr ++ [f]) (d ++ [v]) := by
 obtain ⟨h1, h2, h3, h4⟩ := late_iff.1 h
 subst h1
 have hv : ∀ j, j < d.length → (fr ++ [f]).getD j 0 = fr.getD j 0 := fun j hj => getD_snoc_lt (by omega)
 have hvl : (fr ++ [f]).getD d.length 0 = f := by rw [← hfr, getD_snoc_len]
 refine late_iff.2 ⟨by simp, fun j hj => ?_, fun a ha => ?_, fun j hj => ?_⟩
 ·rcases Nat.lt_or_ge j d.length with hj' | hj'
  ·rw [hv j hj', getD_snoc_lt hj']; exact h2 j hj'
  ·obtain rfl : j = d.length := by omega
   rw [hvl, getD_snoc_len]; exact hf
 ·rcases List.mem_append.1 ha with ha | ha
  ·obtain ⟨p, q⟩ := ho a ha
   rw [getD_snoc_lt p, getD_snoc_lt q]; exact h3 a ha
  ·obtain ⟨p, q⟩ := hn a ha
   rw [getD_snoc_lt p, q, getD_snoc_len]; exact hu a ha
 ·rcases Nat.lt_or_ge j d.length with hj' | hj'
  ·rw [hv j hj', getD_snoc_lt hj']
   rcases h4 j hj' with h5 | ⟨a, ha, h5, h6⟩
   ·exact .inl h5
   ·exact .inr ⟨a, List.mem_append_left _ ha, h5, by rw [getD_snoc_lt (ho a ha).1]; exact h6⟩
  ·obtain rfl : j = d.length := by omega
   rw [hvl, getD_snoc_len]
   rcases he with he | ⟨a, ha, h6⟩
   ·exact .inl he
   ·exact .inr ⟨a, List.mem_append_right _ ha, (hn a ha).2, by rw [getD_snoc_lt (hn a ha).1]; exact h6⟩
structure SoonI (x : InstD) (d : DrS) (ts ready : List Int) : Prop where
 late : LateOf ⟨d.fr.length, d.arcs⟩ d.fr ts
 arc : ∀ a ∈ d.arcs, a.frm < a.dst ∧ a.dst < d.fr.length ∧ 0 ≤ a.wt ∧ a.wt ≤ 1099511627776
 frB : ∀ f ∈ d.fr, 0 ≤ f ∧ f ≤ 1000000000
 tsB : ∀ i, 0 ≤ ts.getD i 0
 rdyL : ready.length = x.sats.length
 attL : d.att.length = x.sats.length
 rdy : ∀ s, s < x.sats.length → 0 ≤ ready.getD s 0 ∧ (∀ n ∈ d.att.getD s [], n < d.fr.length ∧ ts.getD n 0 + holdOf x s ≤ ready.getD s 0) ∧ (ready.getD s 0 = 0 ∨ ∃ n ∈ d.att.getD s [], ready.getD s 0 = ts.getD n 0 + holdOf x s)
theorem SoonI.len {x : InstD} {d : DrS} {ts ready : List Int} (h : SoonI x d ts ready) : ts.length = d.fr.length := (late_iff.1 h.late).1
theorem SoonI.event {x : InstD} {d : DrS} {ts ready : List Int} {f v : Int} {new : List ArcD} (h : SoonI x d ts ready) (hn : ∀ a ∈ new, a.frm < d.fr.length ∧ a.dst = d.fr.length ∧ 0 ≤ a.wt ∧ a.wt ≤ 1099511627776)
  (hf0 : 0 ≤ f ∧ f ≤ 1000000000) (hf : f ≤ v) (hu : ∀ a ∈ new, ts.getD a.frm 0 + a.wt ≤ v) (he : v = f ∨ ∃ a ∈ new, v = ts.getD a.frm 0 + a.wt) : SoonI x ⟨d.fr ++ [f], d.arcs ++ new, d.att⟩ (ts ++ [v]) ready := by
 have hl := h.len
 refine ⟨?_, fun a ha => ?_, fun g hg => ?_, fun i => ?_, h.rdyL, h.attL, fun s hs => ?_⟩
 ·rw [List.length_append, List.length_singleton]
  exact late_grow h.late rfl (fun a ha => ⟨by have := h.arc a ha; omega, (h.arc a ha).2.1⟩) (fun a ha => ⟨(hn a ha).1, (hn a ha).2.1⟩) hf hu he
 ·rw [List.length_append, List.length_singleton]
  rcases List.mem_append.1 ha with ha | ha
  ·have := h.arc a ha; omega
  ·have := hn a ha; omega
 ·rcases List.mem_append.1 hg with hg | hg
  ·exact h.frB g hg
  ·rw [List.mem_singleton.1 hg]; exact hf0
 ·have := h.tsB i
  rw [getD_snoc]
  split
  ·exact this
  ·split <;> omega
 ·obtain ⟨h1, h2, h3⟩ := h.rdy s hs
  refine ⟨h1, fun n hn' => ?_, ?_⟩
  ·obtain ⟨p, q⟩ := h2 n hn'
   rw [List.length_append, List.length_singleton, getD_snoc_lt (by omega)]
   exact ⟨by omega, q⟩
  ·rcases h3 with h3 | ⟨n, hn', h3⟩
   ·exact .inl h3
   ·exact .inr ⟨n, hn', by rw [getD_snoc_lt (by have := (h2 n hn').1; omega)]; exact h3⟩
theorem getD_setL {α : Type} (l : List α) (k i : Nat) (v z : α) (hk : k < l.length) : (l.set k v).getD i z = if k = i then v else l.getD i z := by
 rw [List.getD_eq_getElem?_getD, List.getD_eq_getElem?_getD, List.getElem?_set]
 by_cases e : k = i
 ·rw [if_pos e, if_pos e, if_pos hk]; rfl
 ·rw [if_neg e, if_neg e]
theorem hold_bd {x : InstD} (g : Good x) (s : Int) : 0 ≤ holdOf x s ∧ holdOf x s ≤ 1000000000 := by
 unfold holdOf
 rw [List.getD_eq_getElem?_getD]
 by_cases h : s.toNat < x.sats.length
 ·rw [List.getElem?_eq_getElem h, Option.getD_some]; exact (g.sat _ (List.getElem_mem h)).2
 ·rw [List.getElem?_eq_none (by omega)]; simp
theorem custD_bd {x : InstD} (g : Good x) {c : Int} (hc : CustOk x c) : (0 ≤ (custD x c).opn ∧ (custD x c).opn ≤ 1000000000) ∧ ((custD x c).opn ≤ (custD x c).cls ∧ (custD x c).cls ≤ 1000000000) ∧ 0 ≤ (custD x c).stay ∧ (custD x c).stay ≤ 1000000000 := by
 unfold custD
 obtain ⟨h1, h2⟩ := hc
 have h : c.toNat < x.custs.length := by omega
 rw [List.getD_eq_getElem?_getD, List.getElem?_eq_getElem h, Option.getD_some]
 exact (g.cust _ (List.getElem_mem h)).2
theorem SoonI.att {x : InstD} {d : DrS} {ts ready : List Int} {s : Int} {v : Int} {fr : List Int} {arcs : List ArcD} {n : Nat} (h : SoonI x ⟨fr, arcs, d.att⟩ ts ready) (hs : 0 ≤ s ∧ s < x.sats.length) (hn : n < fr.length) (hv : ts.getD n 0 = v) (gd : Good x) :
  SoonI x ⟨fr, arcs, addAtt d.att s.toNat n⟩ ts (ready.set s.toNat (max (ready.getD s.toNat 0) (v + holdOf x s))) := by
 have ha : s.toNat < d.att.length := by have := h.attL; show s.toNat < (DrS.mk fr arcs d.att).att.length; omega
 have hr : s.toNat < ready.length := by have := h.rdyL; omega
 have hh := hold_bd gd s
 have hv0 := h.tsB n
 refine ⟨h.late, h.arc, h.frB, h.tsB, by rw [List.length_set]; exact h.rdyL, by show (addAtt d.att s.toNat n).length = _; unfold addAtt; rw [List.length_set]; exact h.attL, fun k hk => ?_⟩
 obtain ⟨h1, h2, h3⟩ := h.rdy k hk
 show 0 ≤ _ ∧ (∀ m ∈ (addAtt d.att s.toNat n).getD k [], _) ∧ (_ ∨ ∃ m ∈ (addAtt d.att s.toNat n).getD k [], _)
 unfold addAtt
 rw [getD_setL _ _ _ _ _ ha, getD_setL _ _ _ _ _ hr]
 by_cases e : s.toNat = k
 ·rw [if_pos e, if_pos e]
  have es : holdOf x (k : Int) = holdOf x s := by rw [← e, Int.toNat_of_nonneg hs.1]
  rw [es] at h2 h3 ⊢
  rw [e]
  refine ⟨by omega, fun m hm => ?_, ?_⟩
  ·rcases List.mem_append.1 hm with hm | hm
   ·obtain ⟨p, q⟩ := h2 m hm
    exact ⟨p, by omega⟩
   ·rw [List.mem_singleton.1 hm]; exact ⟨hn, by omega⟩
  ·rcases Int.le_total (v + holdOf x s) (ready.getD k 0) with hle | hle
   ·rw [Int.max_eq_left hle]
    rcases h3 with h3 | ⟨m, hm, h3⟩
    ·exact .inl h3
    ·exact .inr ⟨m, List.mem_append_left _ hm, h3⟩
   ·rw [Int.max_eq_right hle]
    exact .inr ⟨n, List.mem_append_right _ (List.mem_singleton.2 rfl), by rw [hv]⟩
 ·rw [if_neg e, if_neg e]
  exact ⟨h1, h2, h3⟩
structure SoonT (x : InstD) (st : StT) (sn : SnT) (ts0 : List Int) : Prop where
 inv : SoonI x st.d (ts0 ++ sn.l) sn.ready
 node : st.node = sn.node
 first : st.last < 0 → sn.now = 0 ∧ sn.node = 0
 next : 0 ≤ st.last → st.last.toNat < st.d.fr.length ∧ (ts0 ++ sn.l).getD st.last.toNat 0 = sn.now
theorem SoonT.step {x : InstD} (gd : Good x) {st : StT} {sn : SnT} {ts0 : List Int} {s : StopD} (h : SoonT x st sn ts0) (hs : StopOk x s) : SoonT x (stepStop x st s) (soonStop x sn s) ts0 := by
 have hw := timeAt_bd gd st.node (1 + s.sat)
 have hw0 := timeAt_bd gd 0 (1 + s.sat)
 have hl := h.inv.len
 have key : ∃ f arcs, (stepStop x st s).d = ⟨st.d.fr ++ [f], st.d.arcs ++ arcs, addAtt st.d.att s.sat.toNat st.d.fr.length⟩ ∧ SoonI x ⟨st.d.fr ++ [f], st.d.arcs ++ arcs, st.d.att⟩ ((ts0 ++ sn.l) ++ [sn.now + timeAt x sn.node (1 + s.sat)]) sn.ready := by
  by_cases hlast : st.last < 0
  ·obtain ⟨h1, h2⟩ := h.first hlast
   refine ⟨timeAt x 0 (1 + s.sat), [], ?_, h.inv.event (by simp) hw0 ?_ (by simp) (.inl ?_)⟩
   ·simp only [stepStop, if_pos hlast, List.append_nil]
   ·rw [h1, h2]; omega
   ·rw [h1, h2]; omega
  ·obtain ⟨h1, h2⟩ := h.next (by omega)
   have hb := h.inv.tsB st.last.toNat
   refine ⟨0, [⟨st.last.toNat, st.d.fr.length, timeAt x st.node (1 + s.sat)⟩], ?_, h.inv.event (fun a ha => ?_) (by omega) ?_ (fun a ha => ?_) (.inr ⟨_, List.mem_singleton.2 rfl, ?_⟩)⟩
   ·simp only [stepStop, if_neg hlast]
   ·rw [List.mem_singleton.1 ha]; exact ⟨h1, rfl, hw.1, by show timeAt x st.node (1 + s.sat) ≤ _; omega⟩
   ·rw [h.node] at hw; omega
   ·rw [List.mem_singleton.1 ha]
    show (ts0 ++ sn.l).getD st.last.toNat 0 + timeAt x st.node (1 + s.sat) ≤ _
    rw [h2, h.node]; exact Int.le_refl _
   ·show _ = (ts0 ++ sn.l).getD st.last.toNat 0 + timeAt x st.node (1 + s.sat)
    rw [h2, h.node]
 obtain ⟨f, arcs, he, hi⟩ := key
 have ha := SoonI.att (s := s.sat) (n := st.d.fr.length) (v := sn.now + timeAt x sn.node (1 + s.sat)) hi hs.1 (by simp) (by rw [← hl, getD_snoc_len]) gd
 refine ⟨?_, rfl, fun hn => ?_, fun _ => ?_⟩
 ·rw [he]
  simp only [soonStop, ← List.append_assoc]
  exact ha
 ·exfalso
  simp only [stepStop] at hn
  omega
 ·rw [he]
  simp only [stepStop, soonStop, ← List.append_assoc, Int.toNat_natCast]
  exact ⟨by simp, by rw [← hl, getD_snoc_len]⟩
theorem stops_inv {x : InstD} (gd : Good x) {ts0 : List Int} : ∀ (l : List StopD) (st : StT) (sn : SnT), (∀ s ∈ l, StopOk x s) → SoonT x st sn ts0 → SoonT x (l.foldl (stepStop x) st) (l.foldl (soonStop x) sn) ts0
 | [], _, _, _, h => h
 | s :: l, st, sn, hl, h => stops_inv gd l _ _ (fun t ht => hl t (List.mem_cons_of_mem _ ht)) (h.step gd (hl s List.mem_cons_self))
theorem truck_inv {x : InstD} (gd : Good x) {d : DrS} {a : SnA} {t : List StopD} (ht : ∀ s ∈ t, StopOk x s) (h : SoonI x d a.ts.flatten a.ready) : SoonI x (stepTruck x d t) (soonTruck x a t).ts.flatten (soonTruck x a t).ready := by
 have h0 : SoonT x ⟨d, -1, 0⟩ ⟨0, 0, a.ready, []⟩ a.ts.flatten := ⟨by rw [List.append_nil]; exact h, rfl, fun _ => ⟨rfl, rfl⟩, fun hh => absurd hh (by show ¬ ((0 : Int) ≤ -1); omega)⟩
 have h1 := (stops_inv gd t _ _ ht h0).inv
 have e : (soonTruck x a t).ts.flatten = a.ts.flatten ++ (t.foldl (soonStop x) ⟨0, 0, a.ready, []⟩).l := by
  simp only [soonTruck, soonTruckE, List.flatten_append, List.flatten_cons, List.flatten_nil, List.append_nil]
 rw [e]
 exact h1
theorem trucks_inv {x : InstD} (gd : Good x) : ∀ (l : List (List StopD)) (d : DrS) (a : SnA), (∀ t ∈ l, ∀ s ∈ t, StopOk x s) → SoonI x d a.ts.flatten a.ready → SoonI x (l.foldl (stepTruck x) d) (l.foldl (soonTruck x) a).ts.flatten (l.foldl (soonTruck x) a).ready
 | [], _, _, _, h => h
 | t :: l, d, a, hl, h => trucks_inv gd l _ _ (fun u hu => hl u (List.mem_cons_of_mem _ hu)) (truck_inv gd (hl t List.mem_cons_self) h)
theorem start_inv (x : InstD) : SoonI x (drStart x) [] (List.replicate x.sats.length 0) := by
 refine ⟨late_iff.2 ⟨rfl, fun j hj => absurd hj (by simp [drStart]), fun a ha => (by cases ha), fun j hj => absurd hj (by simp [drStart])⟩, (fun a ha => by cases ha), (fun f hf => by cases hf), fun i => by simp, by simp, by simp [drStart], fun s hs => ?_⟩
 have e1 : (drStart x).att.getD s [] = [] := by simp only [drStart, List.getD_eq_getElem?_getD, List.getElem?_replicate]; split <;> rfl
 have e2 : (List.replicate x.sats.length (0 : Int)).getD s 0 = 0 := by simp only [List.getD_eq_getElem?_getD, List.getElem?_replicate]; split <;> rfl
 rw [e1, e2]
 exact ⟨by omega, (fun n hn => by cases hn), .inl rfl⟩
structure SoonB (x : InstD) (st : StB) (sn : SnB) (ts0 ready : List Int) : Prop where
 inv : SoonI x st.d (ts0 ++ sn.starts) ready
 node : st.node = sn.node
 last : st.last < st.d.fr.length ∧ (ts0 ++ sn.starts).getD st.last 0 + st.stay = sn.now
 stay : 0 ≤ st.stay ∧ st.stay ≤ 1000000000
theorem SoonB.step {x : InstD} (gd : Good x) {st : StB} {sn : SnB} {ts0 ready : List Int} {c : Int} (h : SoonB x st sn ts0 ready) (hc : CustOk x c) : SoonB x (stepCust x st c) (soonCust x sn c) ts0 ready := by
 have hw := timeAt_bd gd st.node (1 + x.sats.length + c)
 have hb := custD_bd gd hc
 have hl := h.inv.len
 have h1 := h.last
 have h2 := h.stay
 have hi := h.inv.event (f := (custD x c).opn) (v := max (sn.now + timeAt x sn.node (1 + x.sats.length + c)) (custD x c).opn) (new := [⟨st.last, st.d.fr.length, st.stay + timeAt x st.node (1 + x.sats.length + c)⟩])
  (fun a ha => by rw [List.mem_singleton.1 ha]; exact ⟨h1.1, rfl, by show 0 ≤ st.stay + timeAt x st.node _; omega, by show st.stay + timeAt x st.node _ ≤ _; omega⟩) hb.1 (by omega)
  (fun a ha => by
   rw [List.mem_singleton.1 ha]
   show (ts0 ++ sn.starts).getD st.last 0 + (st.stay + timeAt x st.node _) ≤ _
   rw [h.node]; omega)
  (by
   rcases Int.le_total (sn.now + timeAt x sn.node (1 + x.sats.length + c)) (custD x c).opn with hle | hle
   ·exact .inl (by omega)
   ·refine .inr ⟨_, List.mem_singleton.2 rfl, ?_⟩
    show _ = (ts0 ++ sn.starts).getD st.last 0 + (st.stay + timeAt x st.node _)
    rw [h.node]; omega)
 refine ⟨?_, rfl, ⟨by simp [stepCust], ?_⟩, hb.2.2⟩
 ·simp only [stepCust, soonCust, ← List.append_assoc]
  exact hi
 ·simp only [stepCust, soonCust, ← List.append_assoc]
  rw [← hl, getD_snoc_len]
theorem bcusts_inv {x : InstD} (gd : Good x) {ts0 ready : List Int} : ∀ (l : List Int) (st : StB) (sn : SnB), (∀ c ∈ l, CustOk x c) → SoonB x st sn ts0 ready → SoonB x (l.foldl (stepCust x) st) (l.foldl (soonCust x) sn) ts0 ready
 | [], _, _, _, h => h
 | s :: l, st, sn, hl, h => bcusts_inv gd l _ _ (fun t ht => hl t (List.mem_cons_of_mem _ ht)) (h.step gd (hl s List.mem_cons_self))
theorem bike_inv {x : InstD} (gd : Good x) {d : DrS} {ts ready : List Int} {b : BikeD} (hb : BikeOk x b) (h : SoonI x d ts ready) : SoonI x (stepBikeG x d b) (ts ++ flatR (soonBike x ready b)) ready := by
 have hl := h.len
 obtain ⟨r1, r2, r3⟩ := h.rdy b.sat.toNat (by have := hb.1; omega)
 have hnat : ((b.sat.toNat : Nat) : Int) = b.sat := Int.toNat_of_nonneg hb.1.1
 rw [hnat] at r2 r3
 have hh := hold_bd gd b.sat
 have hi := h.event (f := 0) (v := ready.getD b.sat.toNat 0) (new := holdArcs x d b (d.att.getD b.sat.toNat []).length)
  (fun a ha => by
   unfold holdArcs at ha
   rw [List.take_length] at ha
   obtain ⟨n, hn, rfl⟩ := List.mem_map.1 ha
   exact ⟨(r2 n hn).1, rfl, hh.1, by show holdOf x b.sat ≤ _; omega⟩) (by omega) r1
  (fun a ha => by
   unfold holdArcs at ha
   rw [List.take_length] at ha
   obtain ⟨n, hn, rfl⟩ := List.mem_map.1 ha
   exact (r2 n hn).2)
  (by
   rcases r3 with r3 | ⟨n, hn, r3⟩
   ·exact .inl r3
   ·refine .inr ⟨⟨n, d.fr.length, holdOf x b.sat⟩, ?_, r3⟩
    unfold holdArcs
    rw [List.take_length]
    exact List.mem_map.2 ⟨n, hn, rfl⟩)
 have h0 : SoonB x (bikeStart x d b) ⟨ready.getD b.sat.toNat 0, 1 + b.sat, []⟩ (ts ++ [ready.getD b.sat.toNat 0]) ready := by
  refine ⟨by rw [List.append_nil]; exact hi, rfl, ⟨by simp [bikeStart], ?_⟩, by simp [bikeStart]⟩
  simp only [bikeStart, List.append_nil]
  rw [← hl, getD_snoc_len]; omega
 have h1 := bcusts_inv gd b.stops _ _ hb.2.2 h0
 have hw := timeAt_bd gd (b.stops.foldl (stepCust x) (bikeStart x d b)).node (1 + b.sat)
 have hs := h1.stay
 have hn := h1.node
 have hla := h1.last
 have hge := h1.inv.tsB (b.stops.foldl (stepCust x) (bikeStart x d b)).last
 generalize hE : b.stops.foldl (stepCust x) (bikeStart x d b) = E at *
 have hS : soonBikeE x ready b = b.stops.foldl (soonCust x) ⟨ready.getD b.sat.toNat 0, 1 + b.sat, []⟩ := rfl
 rw [← hS] at h1 hn hla
 have hfin : (soonBikeE x ready b).now + timeAt x (soonBikeE x ready b).node (1 + b.sat) = ((ts ++ [ready.getD b.sat.toNat 0]) ++ (soonBikeE x ready b).starts).getD E.last 0 + (E.stay + timeAt x E.node (1 + b.sat)) := by rw [hn]; omega
 have h2 := h1.inv.event (f := 0) (v := (soonBikeE x ready b).now + timeAt x (soonBikeE x ready b).node (1 + b.sat)) (new := [⟨E.last, E.d.fr.length, E.stay + timeAt x E.node (1 + b.sat)⟩])
  (fun a ha => by rw [List.mem_singleton.1 ha]; exact ⟨hla.1, rfl, by show 0 ≤ E.stay + timeAt x _ _; omega, by show E.stay + timeAt x _ _ ≤ _; omega⟩) (by omega)
  (by rw [hfin]; have := h1.inv.tsB E.last; omega)
  (fun a ha => by
   rw [List.mem_singleton.1 ha]
   exact Int.le_of_eq hfin.symm)
  (.inr ⟨_, List.mem_singleton.2 rfl, hfin⟩)
 have e : ts ++ flatR (soonBike x ready b) = ((ts ++ [ready.getD b.sat.toNat 0]) ++ (b.stops.foldl (soonCust x) ⟨ready.getD b.sat.toNat 0, 1 + b.sat, []⟩).starts) ++ [(soonBikeE x ready b).now + timeAt x (soonBikeE x ready b).node (1 + b.sat)] := by
  simp only [flatR, soonBike, soonBikeE, List.append_assoc, List.cons_append, List.nil_append]
 rw [e, ← hS]
 show SoonI x (bikeEnd x (b.stops.foldl (stepCust x) (bikeStart x d b)) b) _ _
 rw [hE]
 exact h2
theorem bikes_inv {x : InstD} (gd : Good x) {ready : List Int} : ∀ (l : List BikeD) (d : DrS) (ts : List Int), (∀ b ∈ l, BikeOk x b) → SoonI x d ts ready → SoonI x (l.foldl (stepBikeG x) d) (ts ++ (l.map (soonBike x ready)).flatMap flatR) ready
 | [], _, _, _, h => by simpa using h
 | b :: l, d, ts, hl, h => by
  rw [List.foldl_cons, List.map_cons, List.flatMap_cons, ← List.append_assoc]
  exact bikes_inv gd l _ _ (fun u hu => hl u (List.mem_cons_of_mem _ hu)) (bike_inv gd (hl b List.mem_cons_self) h)
theorem soon_inv {x : InstD} {p : PlanD} (hok : PlanOk x p) : SoonI x (drAll x p) (flatT (soonD x p)) (soonTrucks x p.trucks).ready :=
 bikes_inv (good_of hok.inst) p.bikes _ _ hok.bike (trucks_inv (good_of hok.inst) p.trucks _ _ (fun t ht => (hok.truck t ht).2) (start_inv x))
structure PlanBd (x : InstD) (p : PlanD) : Prop where
 ok : PlanOk x p
 tl : p.trucks.length ≤ 60
 t : tstopsUp p.trucks p.trucks.length ≤ 720
 t1 : ∀ t ∈ p.trucks, t.length ≤ 12
 b : p.bikes.length ≤ 6
 s : stopsUp p.bikes p.bikes.length ≤ 6
theorem PlanBd.fr {x : InstD} {p : PlanD} (h : PlanBd x p) : (drAll x p).fr.length = tstopsUp p.trucks p.trucks.length + stopsUp p.bikes p.bikes.length + 2 * p.bikes.length ∧ (drAll x p).arcs.length ≤ 20000 := by
 have gd := good_of h.ok.inst
 have h1 := trucks_ok (fun t ht => (h.ok.truck t ht).2) p.trucks.length (Nat.le_refl _)
 obtain ⟨m, hm, h2⟩ := bikes_ok gd h.ok.bike h1 p.bikes.length (Nat.le_refl _)
 rw [List.take_length, List.take_length] at h2
 have h3 : DrOk x (drAll x p) _ _ := h2
 refine ⟨h3.frL, Nat.le_trans h3.arL (Nat.le_trans hm ?_)⟩
 have hb := h.b
 have ht := h.t
 have hs := h.s
 have h5 : evUp (tstopsUp p.trucks p.trucks.length) p.bikes p.bikes.length ≤ 738 := by unfold evUp; omega
 exact Nat.le_trans (Nat.mul_le_mul h5 (show p.bikes.length + 1 ≤ 7 by omega)) (by decide)
theorem PlanBd.graph {x : InstD} {p : PlanD} (h : PlanBd x p) : GGood ⟨(drAll x p).fr.length, (drAll x p).arcs⟩ := by
 have hb := h.b
 have ht := h.t
 have hs := h.s
 exact ⟨by show (drAll x p).fr.length ≤ 1000; rw [h.fr.1]; omega, h.fr.2, (soon_inv h.ok).arc⟩
theorem PlanBd.late {x : InstD} {p : PlanD} (h : PlanBd x p) {d : List Int} (hd : LateOf ⟨(drAll x p).fr.length, (drAll x p).arcs⟩ (drAll x p).fr d) : d = flatT (soonD x p) :=
 LateOf.unique (fun a ha => ⟨((soon_inv h.ok).arc a ha).1, ((soon_inv h.ok).arc a ha).2.1⟩) hd (soon_inv h.ok).late
end Go.Proofs.YtabadfkikdefeaaGreat

namespace Go.Proofs.YtabadfkikdefeaaGreat
theorem eq_nil_or_snoc {α : Type} (l : List α) : l = [] ∨ ∃ m c, l = m ++ [c] := by
 rcases List.eq_nil_or_concat l with h | ⟨m, c, h⟩
 ·exact .inl h
 ·exact .inr ⟨m, c, by rw [h, List.concat_eq_append]⟩
def pc (w : Nat → Nat → Int) : List Nat → Int
 | a :: b :: l => w a b + pc w (b :: l)
 | _ => 0
structure IsWay (ok : Nat → Prop) (i k : Nat) (l : List Nat) : Prop where
 hd : l.head? = some i
 lt : l.getLast? = some k
 all : ∀ a ∈ l, ok a
theorem pc_append (w : Nat → Nat → Int) (j : Nat) : ∀ (l : List Nat) (m : List Nat), l.getLast? = some j → pc w (l ++ m) = pc w l + pc w (j :: m)
 | [], _, h => by simp at h
 | [a], m, h => by
  obtain rfl : a = j := by simpa using h
  simp [pc]
 | a :: b :: l, m, h => by
  have ih := pc_append w j (b :: l) m (by simpa using h)
  simp only [List.cons_append, pc] at ih ⊢
  omega
theorem IsWay.join {ok : Nat → Prop} {i j k : Nat} {l m : List Nat} (h1 : IsWay ok i j l) (h2 : IsWay ok j k (j :: m)) (w : Nat → Nat → Int) : IsWay ok i k (l ++ m) ∧ pc w (l ++ m) = pc w l + pc w (j :: m) := by
 refine ⟨⟨?_, ?_, fun a ha => ?_⟩, pc_append w j l m h1.lt⟩
 ·cases l with
  | nil => have := h1.hd; simp at this
  | cons a l => simpa using h1.hd
 ·cases m with
  | nil =>
   have := h2.lt
   simp at this
   subst this
   simpa using h1.lt
  | cons b m =>
   have := h2.lt
   rw [List.getLast?_cons_cons] at this
   rw [List.getLast?_append, this]
   rfl
 ·rcases List.mem_append.1 ha with h | h
  ·exact h1.all a h
  ·exact h2.all a (List.mem_cons_of_mem _ h)
theorem IsWay.cons {ok : Nat → Prop} {i k : Nat} {l : List Nat} (h : IsWay ok i k l) : ∃ m, l = i :: m := by
 cases l with
 | nil => have := h.hd; simp at this
 | cons a m => have := h.hd; simp at this; exact ⟨m, by rw [this]⟩
theorem way_nodup {w : Nat → Nat → Int} {ok : Nat → Prop} (hw : ∀ a b, ok a → ok b → 0 ≤ w a b) : ∀ (l : List Nat) {i k : Nat}, IsWay ok i k l → ∃ m, IsWay ok i k m ∧ m.Nodup ∧ pc w m ≤ pc w l
 | [], i, k, h => by have := h.hd; simp at this
 | [a], i, k, h => ⟨[a], h, by simp, Int.le_refl _⟩
 | a :: b :: l, i, k, h => by
  obtain rfl : a = i := by have := h.hd; simpa using this
  have hb : IsWay ok b k (b :: l) := ⟨rfl, by simpa using h.lt, fun c hc => h.all c (List.mem_cons_of_mem _ hc)⟩
  obtain ⟨m, hm, hn, hc⟩ := way_nodup hw (b :: l) hb
  by_cases ha : a ∈ m
  ·obtain ⟨s, t, rfl⟩ := List.append_of_mem ha
   have hlast : (a :: t).getLast? = some k := by
    have := hm.lt
    rw [List.getLast?_append] at this
    cases ht : (a :: t).getLast? with
    | none => simp at ht
    | some v => rw [ht] at this; simpa using this
   refine ⟨a :: t, ⟨rfl, hlast, fun c hc => hm.all c (List.mem_append_right _ hc)⟩, (List.nodup_append.1 hn).2.1, ?_⟩
   have h1 : pc w (a :: t) ≤ pc w (s ++ a :: t) := by
    clear hc hn hlast hb ha
    have hall := hm.all
    clear hm h
    induction s with
    | nil => exact Int.le_refl _
    | cons c s ih =>
     have h2 := ih (fun d hd => hall d (List.mem_cons_of_mem _ hd))
     cases s with
     | nil =>
      have := hw c a (hall c (by simp)) (hall a (by simp))
      simp only [List.nil_append, List.cons_append, pc] at h2 ⊢
      omega
     | cons d s =>
      have := hw c d (hall c (by simp)) (hall d (by simp))
      simp only [List.cons_append, pc] at h2 ⊢
      omega
   have h3 := hw a b (h.all a (by simp)) (h.all b (by simp))
   simp only [pc]
   omega
  ·obtain ⟨m', rfl⟩ := hm.cons
   refine ⟨a :: b :: m', ⟨rfl, by rw [List.getLast?_cons_cons]; exact hm.lt, fun c hc => ?_⟩, List.nodup_cons.2 ⟨ha, hn⟩, by simp only [pc]; omega⟩
   rcases List.mem_cons.1 hc with rfl | hc
   ·exact h.all _ (by simp)
   ·exact hm.all c hc
structure IsDist (w : Nat → Nat → Int) (ok : Nat → Prop) (i k : Nat) (d : Int) : Prop where
 at_ : ∃ l, IsWay ok i k l ∧ pc w l = d
 le : ∀ l, IsWay ok i k l → d ≤ pc w l
theorem IsDist.unique {w : Nat → Nat → Int} {ok : Nat → Prop} {i k : Nat} {d e : Int} (h1 : IsDist w ok i k d) (h2 : IsDist w ok i k e) : d = e := by
 obtain ⟨l, a1, rfl⟩ := h1.at_
 obtain ⟨m, b1, rfl⟩ := h2.at_
 have := h1.le m b1
 have := h2.le l a1
 omega
theorem nodup_len : ∀ (n : Nat) {l : List Nat}, l.Nodup → (∀ a ∈ l, a < n) → l.length ≤ n
 | 0, l, _, hl => by
  cases l with
  | nil => simp
  | cons a l => exact absurd (hl a (by simp)) (by omega)
 | n + 1, l, h, hl => by
  have h1 : (l.erase n).Nodup := h.erase n
  have h2 := nodup_len n h1 (fun a ha => by
   have h3 := (h.mem_erase_iff.1 ha)
   have := hl a h3.2
   have := h3.1
   omega)
  have h4 := List.length_erase (a := n) (l := l)
  split at h4 <;> omega
structure Swept (n r : Nat) (time : Nat → Nat → Int) (stay : Nat → Int) (ok : Nat → Prop) (D : Nat → Nat → Int) : Prop where
 at_ : ∀ i k, ok i → ok k → i ≠ k → ∃ l, IsWay ok i k l ∧ pc (fun a b => time a b + stay a) l = stay i + D i k
 le : ∀ i k, ok i → ok k → i ≠ k → ∀ l, IsWay ok i k l → l.Nodup → l.length ≤ r + 2 → stay i + D i k ≤ pc (fun a b => time a b + stay a) l
theorem swept_dist {n r : Nat} {time : Nat → Nat → Int} {stay : Nat → Int} {ok : Nat → Prop} {D : Nat → Nat → Int} (h : Swept n r time stay ok D) (hn : n ≤ r + 2) (hok : ∀ a, ok a → a < n) (hw : ∀ a b, ok a → ok b → 0 ≤ time a b + stay a) {i k : Nat} (hi : ok i) (hk : ok k) (hne : i ≠ k) :
  IsDist (fun a b => time a b + stay a) ok i k (stay i + D i k) :=
 ⟨h.at_ i k hi hk hne, fun l hl => by
  obtain ⟨m, hm, hnd, hle⟩ := way_nodup hw l hl
  have := h.le i k hi hk hne m hm hnd (by have := nodup_len n hnd (fun a ha => hok a (hm.all a ha)); omega)
  omega⟩
structure Sweep (time : Nat → Nat → Int) (stay : Nat → Int) (ok : Nat → Prop) (D0 D : Nat → Nat → Int) (seen : Nat → Nat → Nat → Prop) : Prop where
 at_ : ∀ i k, ok i → ok k → i ≠ k → ∃ l, IsWay ok i k l ∧ pc (fun a b => time a b + stay a) l = stay i + D i k
 mono : ∀ i k, D i k ≤ D0 i k
 done : ∀ i k j, seen i k j → ok i → ok k → ok j → i ≠ j → j ≠ k → D i k ≤ D0 i j + stay j + D0 j k
theorem Swept.begin {n r : Nat} {time : Nat → Nat → Int} {stay : Nat → Int} {ok : Nat → Prop} {D : Nat → Nat → Int} (h : Swept n r time stay ok D) : Sweep time stay ok D D (fun _ _ _ => False) :=
 ⟨h.at_, fun _ _ => Int.le_refl _, fun _ _ _ h => h.elim⟩
theorem swept_last {n : Nat} {time : Nat → Nat → Int} {stay : Nat → Int} {ok : Nat → Prop} {D0 D : Nat → Nat → Int} {r : Nat} {seen : Nat → Nat → Nat → Prop} (h0 : Swept n r time stay ok D0) (h : Sweep time stay ok D0 D seen) (ha : ∀ i k j, i < n → k < n → j < n → seen i k j) (hok : ∀ a, ok a → a < n) (hinit : ∀ i k, ok i → ok k → i ≠ k → D0 i k ≤ time i k) :
  Swept n (r + 1) time stay ok D := by
 refine ⟨h.at_, fun i k hi hk hne l hl hnd hlen => ?_⟩
 by_cases hle : l.length ≤ r + 2
 ·have h1 := h0.le i k hi hk hne l hl hnd hle
  have h2 := h.mono i k
  omega
 ·
  obtain ⟨m, c, rfl⟩ : ∃ m c, l = m ++ [c] := by
   rcases eq_nil_or_snoc l with rfl | ⟨m, c, rfl⟩
   ·have := hl.hd; simp at this
   ·exact ⟨m, c, rfl⟩
  obtain rfl : c = k := by have := hl.lt; simpa using this
  obtain ⟨m, j, rfl⟩ : ∃ m' j, m = m' ++ [j] := by
   rcases eq_nil_or_snoc m with rfl | ⟨m', j, rfl⟩
   ·simp at hlen hle
   ·exact ⟨m', j, rfl⟩
  have hj : ok j := hl.all j (by simp)
  have hw1 : IsWay ok i j (m ++ [j]) := ⟨by
   have := hl.hd
   cases m with
   | nil => simp at hlen hle
   | cons a m => simpa using this, by simp, fun a ha => hl.all a (List.mem_append_left _ ha)⟩
  have hjk : j ≠ c := by
   have := (List.nodup_append.1 hnd).2.2 j (by simp) c (by simp)
   exact this
  have hij : i ≠ j := by
   rintro rfl
   cases m with
   | nil => simp at hlen hle
   | cons a m =>
    obtain rfl : a = i := by have := hl.hd; simpa using this
    have := (List.nodup_append.1 hnd).1
    simp at this
  have hpc := pc_append (fun a b => time a b + stay a) j (m ++ [j]) [c] (by simp)
  have h1 := h0.le i j hi hj hij (m ++ [j]) hw1 (List.nodup_append.1 hnd).1 (by simp at hlen ⊢; omega)
  have h2 := h.done i c j (ha i c j (hok i hi) (hok c hk) (hok j hj)) hi hk hj hij hjk
  have h3 := hinit j c hj hk hjk
  rw [hpc]
  simp only [pc]
  omega
theorem eq_nil_or_two {l : List Nat} {i k : Nat} {ok : Nat → Prop} (h : IsWay ok i k l) (hne : i ≠ k) (hl : l.length ≤ 2) : l = [i, k] := by
 match l, h, hl with
 | [], h, _ => have := h.hd; simp at this
 | [a], h, _ =>
  have h1 := h.hd
  have h2 := h.lt
  simp at h1 h2
  omega
 | [a, b], h, _ =>
  have h1 := h.hd
  have h2 := h.lt
  simp at h1 h2
  subst h1; subst h2; rfl
 | _ :: _ :: _ :: _, _, hl => simp at hl
theorem Swept.first {n : Nat} {time : Nat → Nat → Int} {stay : Nat → Int} {ok : Nat → Prop} {D : Nat → Nat → Int} (h : ∀ i k, ok i → ok k → i ≠ k → D i k = time i k) : Swept n 0 time stay ok D := by
 refine ⟨fun i k hi hk hne => ⟨[i, k], ⟨rfl, rfl, fun a ha => ?_⟩, ?_⟩, fun i k hi hk hne l hl _ hlen => ?_⟩
 ·rcases List.mem_cons.1 ha with rfl | ha
  ·exact hi
  ·rw [List.mem_singleton.1 ha]; exact hk
 ·rw [h i k hi hk hne]; simp only [pc]; omega
 ·rw [eq_nil_or_two hl hne hlen, h i k hi hk hne]; simp only [pc]; omega
def updD (D : Nat → Nat → Int) (i k : Nat) (v : Int) : Nat → Nat → Int := fun a b => if a = i ∧ b = k then v else D a b
theorem updD_at (D : Nat → Nat → Int) (i k : Nat) (v : Int) : updD D i k v i k = v := if_pos ⟨rfl, rfl⟩
theorem updD_le {D : Nat → Nat → Int} {i k : Nat} {v : Int} (h : v ≤ D i k) (a b : Nat) : updD D i k v a b ≤ D a b := by
 unfold updD
 split
 ·rename_i e; rw [e.1, e.2]; exact h
 ·exact Int.le_refl _
theorem Sweep.step {time : Nat → Nat → Int} {stay : Nat → Int} {ok : Nat → Prop} {D0 D : Nat → Nat → Int} {seen seen' : Nat → Nat → Nat → Prop} (h : Sweep time stay ok D0 D seen) {i k j : Nat} (hi : ok i) (hk : ok k) (hj : ok j) (hij : i ≠ j) (hjk : j ≠ k) (hs : ∀ a b c, seen' a b c → seen a b c ∨ (a = i ∧ b = k ∧ c = j)) :
  Sweep time stay ok D0 (updD D i k (min (D i k) (D i j + stay j + D j k))) seen' := by
 have hle : min (D i k) (D i j + stay j + D j k) ≤ D i k := Int.min_le_left _ _
 refine ⟨fun a b ha hb hne => ?_, fun a b => Int.le_trans (updD_le hle a b) (h.mono a b), fun a b c hsn ha hb hc h1 h2 => ?_⟩
 ·by_cases e : a = i ∧ b = k
  ·obtain ⟨rfl, rfl⟩ := e
   rw [updD_at]
   by_cases hm : D a b ≤ D a j + stay j + D j b
   ·rw [Int.min_eq_left hm]; exact h.at_ a b ha hb hne
   ·rw [Int.min_eq_right (by omega)]
    obtain ⟨l, l1, l2⟩ := h.at_ a j ha hj hij
    obtain ⟨m, m1, m2⟩ := h.at_ j b hj hb hjk
    obtain ⟨m', rfl⟩ := m1.cons
    obtain ⟨k1, k2⟩ := l1.join m1 (fun a b => time a b + stay a)
    exact ⟨l ++ m', k1, by rw [k2, l2, m2]; omega⟩
  ·have : updD D i k (min (D i k) (D i j + stay j + D j k)) a b = D a b := if_neg e
   rw [this]; exact h.at_ a b ha hb hne
 ·rcases hs a b c hsn with hs | ⟨rfl, rfl, rfl⟩
  ·exact Int.le_trans (updD_le hle a b) (h.done a b c hs ha hb hc h1 h2)
  ·rw [updD_at]
   have e1 := h.mono a c
   have e2 := h.mono c b
   have : min (D a b) (D a c + stay c + D c b) ≤ D a c + stay c + D c b := Int.min_le_right _ _
   omega
theorem Sweep.skip {time : Nat → Nat → Int} {stay : Nat → Int} {ok : Nat → Prop} {D0 D : Nat → Nat → Int} {seen seen' : Nat → Nat → Nat → Prop} (h : Sweep time stay ok D0 D seen) {i k j : Nat} (hc : ¬ (i ≠ j ∧ j ≠ k ∧ ok j ∧ ok i ∧ ok k)) (hs : ∀ a b c, seen' a b c → seen a b c ∨ (a = i ∧ b = k ∧ c = j)) : Sweep time stay ok D0 D seen' :=
 ⟨h.at_, h.mono, fun a b c hsn ha hb hcc h1 h2 => by
  rcases hs a b c hsn with hs | ⟨rfl, rfl, rfl⟩
  ·exact h.done a b c hs ha hb hcc h1 h2
  ·exact absurd ⟨h1, h2, hcc, ha, hb⟩ hc⟩
def seen3 (i k j : Nat) (a b c : Nat) : Prop := a < i ∨ (a = i ∧ (b < k ∨ (b = k ∧ c < j)))
theorem pc_reverse (w : Nat → Nat → Int) : ∀ l : List Nat, pc (fun a b => w b a) l.reverse = pc w l
 | [] => rfl
 | [_] => rfl
 | a :: b :: l => by
  have ih := pc_reverse w (b :: l)
  have h := pc_append (fun a b => w b a) b ((b :: l).reverse) [a] (by simp)
  rw [List.reverse_cons, h, ih]
  simp only [pc]
  omega
theorem IsWay.reverse {ok : Nat → Prop} {i k : Nat} {l : List Nat} (h : IsWay ok i k l) : IsWay ok k i l.reverse :=
 ⟨by rw [List.head?_reverse]; exact h.lt, by rw [List.getLast?_reverse]; exact h.hd, fun a ha => h.all a (List.mem_reverse.1 ha)⟩
theorem IsDist.reverse {w : Nat → Nat → Int} {ok : Nat → Prop} {i k : Nat} {d : Int} (h : IsDist (fun a b => w b a) ok i k d) : IsDist w ok k i d := by
 refine ⟨?_, fun l hl => ?_⟩
 ·obtain ⟨l, h1, h2⟩ := h.at_
  exact ⟨l.reverse, h1.reverse, by rw [← h2]; exact pc_reverse (fun a b => w b a) l⟩
 ·have := h.le l.reverse hl.reverse
  rwa [pc_reverse] at this
open Go.RowKit
theorem cloneI64_c {w : World} {F : Nat → Prop} {l : List Int} {v : Value} (h : (sliceS intS).rep w F l [v]) (hn : l.length ≤ 1000000) :
  Calls Tryz.prog 149 #[v] w fun e w' => ∃ u, e = .returned u ∧ w'.ownsRow w.heap.size 2 1 u l.length (l.map intV) ∧ Below w.heap.size w w' := by
 obtain ⟨a, b, off, c, hs, -, -, ha, -, hcell, -⟩ := ints_open h
 obtain rfl := List.cons.inj hs |>.1
 clear h hs
 cases a with
 | none =>
  have h0 : l = [] := by
   cases l with
   | nil => rfl
   | cons s l => have := ha (by simp); cases this
  subst h0
  clear hcell ha
  have q22 : ∀ (w : World) (a : Option Addr) (n c n' c' : Nat), (binOp .eql 78 (.slice a n c) (.slice none n' c')).run Tryz.prog w = .ok (.bool a.isNone) w := fun w a n c n' c' => Lib.run_eql_slice_nil w _ _ a n c n' c' Tryz.underlying78
  go_enter Tryz.func149, Tryz.ntmps149
  go_wp2
  go_ret
  exact ⟨_, rfl, World.ownsRow_nil _ _ _ _, Below.refl _ _⟩
 | some a =>
  have hnews : ∀ j u, (l.map intV)[j]? = some u → (w.alloc (.cells #[] 2)).cell? (a.add j) = some u := fun j u hj => by
   have hjl := (List.getElem?_eq_some_iff.1 hj).1
   rw [List.length_map] at hjl
   obtain rfl := Option.some.inj (ha (by omega))
   rw [Addr.add_lit]
   have := hcell j hjl
   rw [← (List.getElem?_eq_some_iff.1 hj).2, List.getElem_map]
   exact below_cell ((Below.refl _ _).alloc (Nat.le_refl _) _) this
  have hone : ∀ u ∈ l.map intV, u.oneCell' = true := fun u hu => by
   obtain ⟨s, _, rfl⟩ := List.mem_map.1 hu; rfl
  have hfl : (l.map intV).length = l.length * 1 := by rw [List.length_map, Nat.mul_one]
  have HNEWS := hid hnews
  have HONE := hid hone
  clear hcell hnews hone ha
  obtain ⟨i1, hi, hi0, hi1, hi2⟩ := info_parts info_i64
  have hown1 := World.ownsRow_lit (base := w.heap.size) (e := 2) (size := 1) w #[] 0 (Nat.le_refl _) (by unfold maxLen; omega) rfl
  have q22 : ∀ (w : World) (a : Option Addr) (n c n' c' : Nat), (binOp .eql 78 (.slice a n c) (.slice none n' c')).run Tryz.prog w = .ok (.bool a.isNone) w := fun w a n c n' c' => Lib.run_eql_slice_nil w _ _ a n c n' c' Tryz.underlying78
  go_enter Tryz.func149, Tryz.ntmps149
  go_wp2_with (at_builtin; refine wpList_append_own _ rfl _ _ 78 rfl w.heap.size 2 i1 (.int .i64 0) 1 8 Tryz.underlying78 hi hi0 hi1 hi2 rfl (by decide) _ _ _ rfl hown1 a l.length c (l.map intV) rfl hfl HNEWS.out HONE.out ?c3 ?c4 ?c5 ?_)
  case c3 => unfold maxLen; omega
  case c4 => omega
  intro v' w2 hown' hgrow _
  have HB := hid (below_owned (w := w.alloc (.cells #[] 2)) ((Below.refl w.heap.size w).alloc (Nat.le_refl _) _) hown1 (by simp) (Nat.le_refl _) hgrow)
  have HO := hid (show w2.ownsRow w.heap.size 2 1 v' l.length (l.map intV) from by simpa using hown')
  clear hown' hgrow hown1 hi hi0 hi1 hi2
  go_wp2
  go_ret
  exact ⟨_, rfl, HO.out, HB.out⟩
end Go.Proofs.YtabadfkikdefeaaGreat
