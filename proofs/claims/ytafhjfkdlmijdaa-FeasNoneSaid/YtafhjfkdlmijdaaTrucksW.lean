/- Contract: wharfagelaw22.Trucks, load by load. -/
import Derived.Test.YtafhjfkdlmijdaaUnit
import Derived.Test.YtafhjfkdlmijdaaOrderW
import Derived.BigRegion
namespace Go.Proofs.Ytafhjfkdlmijdaa
open Go.RowKit

/-- What holds of the trucks after so many loads. -/
structure UnitOk (room : Int) (cnt : Nat) (out : List (List StopD)) (left : Int) : Prop where
  leftB : 0 ≤ left ∧ left ≤ room
  lenB : out.length ≤ cnt
  someB : 0 < left → 0 < out.length
  stB : ∀ t ∈ out, t.length ≤ cnt ∧ ∀ s ∈ t, (0 ≤ s.sat ∧ s.sat ≤ 1000) ∧ 0 ≤ s.load ∧ s.load ≤ cnt
theorem lastT_mem {out : List (List StopD)} (h : 0 < out.length) : lastT out ∈ out := by
  unfold lastT
  rw [List.getD_eq_getElem?_getD, List.getElem?_eq_getElem (by omega)]; exact List.getElem_mem _
theorem lastS_mem {t : List StopD} (h : 0 < t.length) : lastS t ∈ t := by
  unfold lastS
  rw [List.getD_eq_getElem?_getD, List.getElem?_eq_getElem (by omega)]; exact List.getElem_mem _
/-- The satellite stops there, with nothing yet, if it is new. -/
def readyS (s : Int) (t : List StopD) : List StopD := if newS s t then t ++ [⟨s, 0⟩] else t
theorem readyS_pos (s : Int) (t : List StopD) : 0 < (readyS s t).length := by
  unfold readyS
  by_cases h : newS s t = true
  · rw [if_pos h]; simp
  · rw [if_neg h]
    unfold newS at h
    simp only [Bool.or_eq_true, beq_iff_eq, not_or] at h
    omega
theorem readyS_sat (s : Int) (t : List StopD) : (lastS (readyS s t)).sat = s := by
  unfold readyS
  by_cases h : newS s t = true
  · rw [if_pos h, lastS_snoc]
  · rw [if_neg h]
    unfold newS at h
    simp only [Bool.or_eq_true, bne_iff_ne, ne_eq, not_or, Decidable.not_not] at h
    exact h.2
theorem bump_ready (s : Int) (t : List StopD) : bumpD s t = (readyS s t).set ((readyS s t).length - 1) ⟨s, (lastS (readyS s t)).load + 1⟩ := by
  unfold readyS
  by_cases h : newS s t = true
  · rw [if_pos h, bump_new h, lastS_snoc, List.length_append, List.length_singleton, Nat.add_sub_cancel, List.set_append_right _ _ (Nat.le_refl _), Nat.sub_self]; rfl
  · rw [if_neg h]; unfold bumpD; rw [if_neg h]
theorem UnitOk.nil {room : Int} (h : 0 ≤ room) : UnitOk room 0 [] 0 := ⟨by omega, Nat.le_refl _, fun h => absurd h (by decide), fun _ h => by cases h⟩
theorem UnitOk.ready {room left : Int} {cnt : Nat} {out : List (List StopD)} (h : UnitOk room cnt out left) (hr : 1 ≤ room) : UnitOk room (cnt + 1) (readyT room (out, left)).1 (readyT room (out, left)).2 ∧ 0 < (readyT room (out, left)).2 := by
  have hl := h.leftB
  unfold readyT
  by_cases hz : left = 0
  · rw [if_pos hz]
    refine ⟨⟨⟨by show 0 ≤ room; omega, Int.le_refl _⟩, by have := h.lenB; simp; omega, fun _ => by simp, fun t ht => ?_⟩, by show 0 < room; omega⟩
    rcases List.mem_append.1 ht with ht | ht
    · have := h.stB t ht; exact ⟨by omega, fun s hs => by have := this.2 s hs; push_cast; omega⟩
    · simp at ht; subst ht; exact ⟨by simp, fun s hs => by cases hs⟩
  · rw [if_neg hz]
    refine ⟨⟨hl, by have := h.lenB; show out.length ≤ _; omega, h.someB, fun t ht => ?_⟩, by show 0 < left; omega⟩
    have := h.stB t ht; exact ⟨by omega, fun s hs => by have := this.2 s hs; push_cast; omega⟩
theorem UnitOk.step {room left : Int} {cnt s : Nat} {out : List (List StopD)} (h : UnitOk room cnt out left) (hr : 1 ≤ room) (hs : s ≤ 1000) : UnitOk room (cnt + 1) (unit1 room s (out, left)).1 (unit1 room s (out, left)).2 := by
  have hl := h.leftB
  have hrd := h.ready hr
  have hst : ∀ t ∈ (readyT room (out, left)).1, t.length ≤ cnt ∧ ∀ u ∈ t, (0 ≤ u.sat ∧ u.sat ≤ 1000) ∧ 0 ≤ u.load ∧ u.load ≤ cnt := by
    unfold readyT
    split
    · intro t ht
      rcases List.mem_append.1 ht with ht | ht
      · exact h.stB t ht
      · simp at ht; subst ht; exact ⟨Nat.zero_le _, fun s hs => by cases hs⟩
    · exact h.stB
  unfold unit1
  generalize readyT room (out, left) = st at *
  have hp := hrd.1.someB hrd.2
  have hlm := hst _ (lastT_mem hp)
  have hlr := hrd.1.leftB
  have hlen := hrd.1.lenB
  refine ⟨⟨by show 0 ≤ st.2 - 1; omega, by show st.2 - 1 ≤ room; omega⟩, by show (setLast st.1 _).length ≤ _; rw [setLast_len]; exact hlen, fun _ => by show 0 < (setLast st.1 _).length; rw [setLast_len]; exact hp, fun t ht => ?_⟩
  have ht' : t ∈ setLast st.1 (bumpD s (lastT st.1)) := ht
  unfold setLast at ht'
  rcases List.mem_or_eq_of_mem_set ht' with hm | rfl
  · have := hst t hm; exact ⟨by omega, fun u hu => by have := this.2 u hu; push_cast; omega⟩
  · generalize lastT st.1 = t at hlm
    unfold bumpD
    split
    · refine ⟨by rw [List.length_append]; simp; omega, fun u hu => ?_⟩
      rcases List.mem_append.1 hu with hu | hu
      · have := hlm.2 u hu; push_cast; omega
      · obtain rfl := List.mem_singleton.1 hu
        show (0 ≤ (s : Int) ∧ (s : Int) ≤ 1000) ∧ (0 : Int) ≤ 1 ∧ (1 : Int) ≤ ((cnt + 1 : Nat) : Int)
        omega
    · rename_i hn
      refine ⟨by rw [List.length_set]; omega, fun u hu => ?_⟩
      rcases List.mem_or_eq_of_mem_set hu with hu | rfl
      · have := hlm.2 u hu; push_cast; omega
      · have h0 : 0 < t.length := by
          unfold newS at hn
          simp only [Bool.or_eq_true, beq_iff_eq, not_or] at hn
          omega
        have := hlm.2 _ (lastS_mem h0)
        simp only []; push_cast; omega
theorem unitAll_snoc (room : Int) (l : List Int) (s : Nat) : ∀ (ss : List Nat) (st : List (List StopD) × Int), unitAll room l (ss ++ [s]) st = unitN room s (l.getD s 0).toNat (unitAll room l ss st)
  | [], _ => rfl
  | _ :: ss, _ => unitAll_snoc room l s ss _
theorem unitAll_take {room : Int} {l : List Int} {ss : List Nat} {k : Nat} (h : k < ss.length) (st : List (List StopD) × Int) : unitAll room l (ss.take (k + 1)) st = unitN room ss[k] (l.getD ss[k] 0).toNat (unitAll room l (ss.take k) st) := by
  rw [List.take_succ_eq_append_getElem h, unitAll_snoc]

theorem flat_set : ∀ (t : List StopD) (k : Nat) (h : k < t.length) (v : Int), (t.set k ⟨t[k].sat, v⟩).flatMap stopV = (t.flatMap stopV).set (2 * k + 1) (.int .i64 v)
  | [], k, h, _ => absurd h (Nat.not_lt_zero _)
  | a :: t, 0, _, v => rfl
  | a :: t, k + 1, h, v => by
    have := flat_set t k (by simpa using h) v
    simp only [List.set_cons_succ, List.getElem_cons_succ, List.flatMap_cons, this]
    rw [show 2 * (k + 1) + 1 = (2 * k + 1) + 1 + 1 by omega]
    rfl
theorem flat_get : ∀ (t : List StopD) (k : Nat) (h : k < t.length) (h' : 2 * k + 1 < (t.flatMap stopV).length) (h'' : 2 * k < (t.flatMap stopV).length), (t.flatMap stopV)[2 * k] = .int .i64 t[k].sat ∧ (t.flatMap stopV)[2 * k + 1] = .int .i64 t[k].load
  | [], k, h, _, _ => absurd h (Nat.not_lt_zero _)
  | a :: t, 0, _, _, _ => ⟨rfl, rfl⟩
  | a :: t, k + 1, h, h', h'' => by
    have hl : (t.flatMap stopV).length = t.length * 2 := stopV_len t
    have hk : k < t.length := by simpa using h
    have := flat_get t k hk (by omega) (by omega)
    have e : (a :: t).flatMap stopV = .int .i64 a.sat :: .int .i64 a.load :: t.flatMap stopV := rfl
    simp only [e, show 2 * (k + 1) = 2 * k + 1 + 1 by omega, List.getElem_cons_succ]
    exact this
/-- The last truck's last stop's load is another one. -/
theorem TOwn.load {TT TS : Nat} {w : World} {B gs c : Nat} {v : Value} {out : List (List StopD)} {vs : List Value} (h : TOwn TT TS w B v out vs) (hne : TS ≠ TT) (hpos : 0 < out.length)
    (hv : vs.getD (out.length - 1) undef = .slice (some ⟨gs, 0, none⟩) (lastT out).length c) {k : Nat} (hk : k < (lastT out).length) (x : Int) :
    TOwn TT TS (w.setCell ⟨gs, 2 * k + 1, none⟩ (.int .i64 x)) B v (setLast out ((lastT out).set k ⟨(lastT out)[k].sat, x⟩)) vs ∧ w.grownBy (w.setCell ⟨gs, 2 * k + 1, none⟩ (.int .i64 x)) (some gs) := by
  have hl : out.length - 1 < out.length := by omega
  have hl' : out.length - 1 < vs.length := by rw [h.len]; exact hl
  have ev : vs.getD (out.length - 1) undef = vs[out.length - 1] := by rw [List.getD_eq_getElem?_getD, List.getElem?_eq_getElem hl']; rfl
  have eo : lastT out = out[out.length - 1] := by unfold lastT; rw [List.getD_eq_getElem?_getD, List.getElem?_eq_getElem hl]; rfl
  have hrow := h.rows _ hl hl'
  rw [← ev, hv, ← eo] at hrow
  have hst := hrow.stored (2 * k + 1) (.int .i64 x)
  have hblk : (vs[out.length - 1]).ownBlock = some gs := by rw [← ev, hv]; rfl
  refine ⟨⟨?_, by rw [setLast_len]; exact h.len, fun i h1 h2 => ?_, h.apart⟩, hst.2⟩
  · rw [setLast_len]
    refine h.own.kept hst.2 ?_
    rw [← hblk]
    exact own_type h.own (h.rows _ hl hl') (Ne.symm hne)
  · have hi : i < out.length := by rw [setLast_len] at h1; exact h1
    have hi' : i < vs.length := by rw [h.len]; exact hi
    by_cases e : out.length - 1 = i
    · subst e
      have e2 : (setLast out ((lastT out).set k ⟨(lastT out)[k].sat, x⟩))[out.length - 1]'h1 = (lastT out).set k ⟨(lastT out)[k].sat, x⟩ := by simp [setLast]
      rw [e2, flat_set _ _ hk, List.length_set, ← ev, hv]
      exact hst.1
    · have e2 : (setLast out ((lastT out).set k ⟨(lastT out)[k].sat, x⟩))[i]'h1 = out[i] := by simp only [setLast, List.getElem_set, if_neg e]
      rw [e2]
      refine (h.rows i hi hi').kept hst.2 ?_
      rw [← hblk]
      exact h.apart i _ hi' hl' (Ne.symm e)

theorem UnitOk.one {room left : Int} {cnt s : Nat} {out : List (List StopD)} (h : UnitOk room cnt out left) (hr : 1 ≤ room) (hs : s ≤ 1000) :
    ∃ o l, readyT room (out, left) = (o, l) ∧ UnitOk room (cnt + 1) o l ∧ 0 < l ∧ 0 < o.length ∧ (∀ t ∈ o, t.length ≤ cnt ∧ ∀ u ∈ t, (0 ≤ u.sat ∧ u.sat ≤ 1000) ∧ 0 ≤ u.load ∧ u.load ≤ cnt) ∧ unit1 room s (out, left) = (setLast o (bumpD s (lastT o)), l - 1) ∧ UnitOk room (cnt + 1) (setLast o (bumpD s (lastT o))) (l - 1) := by
  have h1 := h.ready hr
  have h2 := h.step hr hs
  have hst : ∀ t ∈ (readyT room (out, left)).1, t.length ≤ cnt ∧ ∀ u ∈ t, (0 ≤ u.sat ∧ u.sat ≤ 1000) ∧ 0 ≤ u.load ∧ u.load ≤ cnt := by
    unfold readyT
    split
    · intro t ht
      rcases List.mem_append.1 ht with ht | ht
      · exact h.stB t ht
      · obtain rfl := List.mem_singleton.1 ht
        exact ⟨Nat.zero_le _, fun s hs => by cases hs⟩
    · exact h.stB
  exact ⟨_, _, rfl, h1.1, h1.2, h1.1.someB h1.2, hst, rfl, h2⟩

theorem ready_load {s : Int} {t : List StopD} {cnt : Nat} (h : ∀ u ∈ t, 0 ≤ u.load ∧ u.load ≤ cnt) : 0 ≤ (lastS (readyS s t)).load ∧ (lastS (readyS s t)).load ≤ cnt := by
  unfold readyS
  by_cases hn : newS s t = true
  · rw [if_pos hn, lastS_snoc]; exact ⟨Int.le_refl _, by show (0 : Int) ≤ cnt; omega⟩
  · rw [if_neg hn]
    refine h _ (lastS_mem ?_)
    unfold newS at hn
    simp only [Bool.or_eq_true, beq_iff_eq, not_or] at hn
    omega
theorem ready_len (s : Int) (t : List StopD) : (readyS s t).length ≤ t.length + 1 := by unfold readyS; split <;> simp

set_option maxRecDepth 100000 in
set_option maxHeartbeats 3200000 in
theorem trucksW_c {w : World} {F G : Nat → Prop} {x : InstD} {cs : List Value} {l : List Int} {v : Value} (h : instS.rep w F x cs) (hl : (sliceS intS).rep w G l [v]) (hck : check x = 0) (hll : l.length = x.sats.length) (hlb : ∀ v ∈ l, 0 ≤ v ∧ v ≤ 255) (hroom : 1 ≤ x.troom) :
    Calls Try.prog 29 #[.agg cs.toArray, v] w fun e w' => ∃ u, e = .returned (.tuple #[u, .bool (decide (((trucksW x l).length : Int) ≤ x.tmany))]) ∧ trucksS.rep w' (fun b => w.heap.size ≤ b) (trucksW x l) [u] ∧ Below w.heap.size w w' := by
  have hrep := h
  have hlrep := hl
  obtain ⟨s, c, co, ti, rfl, -, h1, -, -, -⟩ := h
  obtain ⟨a, b, off, c1, hs, -, -, -, -, -, -⟩ := sats_open h1
  obtain rfl := List.cons.inj hs |>.1
  obtain ⟨a2, b2, off2, c2, hs2, hl2, hc2, ha2, -, hcell2, hwf2⟩ := ints_open hl
  obtain rfl := List.cons.inj hs2 |>.1
  clear hs hs2 h1 hl
  have gd := good_of hck
  have hnl := gd.sats
  have htm := gd.tmany
  have htr := gd.troom
  have hln : l.length ≤ 12 := by omega
  have R := Row.new (w := w) (e := 33) (cs := [.int .i64 x.fin, .int .i64 x.tmany, .int .i64 x.troom, .int .i64 x.bmany, .int .i64 x.broom, .slice a x.sats.length c1, c, co, ti]) rfl
  have hb0 : Below w.heap.size w (w.alloc (.cells #[.int .i64 x.fin, .int .i64 x.tmany, .int .i64 x.troom, .int .i64 x.bmany, .int .i64 x.broom, .slice a x.sats.length c1, c, co, ti] 33)) := (Below.refl _ _).alloc (Nat.le_refl _) _
  obtain ⟨q0, q1, q2, q3, q4, q5, q6, q7, q8⟩ := row9 R
  have HREP := hid (instS.below hrep hb0)
  have HLREP := hid ((sliceS intS).below hlrep hb0)
  have HLL := hid hll
  have HCK := hid hck
  clear hll hck
  go_enter Try.func29, Try.ntmps29
  go_wp2_with fail
  refine (orderW_c HREP.out HLREP.out HCK.out HLL.out (fun v hv => by have := hlb v hv; omega)).mono ?_
  rintro e wO ⟨ov, rfl, hor, hbO⟩
  have RO := R.below hbO
  have hBO := below_step hb0 hbO
  have hzO := RO.lt
  have hsO := hBO.size
  obtain ⟨a5, b5, off5, c5, hs5, hl5, hc5, ha5, -, hcell5, -⟩ := ints_open hor
  obtain rfl := List.cons.inj hs5 |>.1
  clear q0 q1 q2 q3 q4 q5 q6 q7 q8 R hbO hor hs5 hb0 HREP HLREP hrep hlrep
  have hlo : ((orderW x l l.length).map fun i : Nat => (i : Int)).length = (orderW x l l.length).length := List.length_map _
  have hom : ∀ i ∈ orderW x l l.length, i < l.length := fun i hi => orderW_lt hi
  have hcO : ∀ k (h : k < (orderW x l l.length).length), wO.cell? ⟨b5, off5 + k, none⟩ = some (.int .i64 ((orderW x l l.length)[k] : Nat)) := fun k h => by
    have := hcell5 k (by rw [hlo]; exact h)
    rwa [List.getElem_map] at this
  have HTW := hid (show trucksW x l = (unitAll x.troom l (orderW x l l.length) ([], 0)).1 from rfl)
  have hol := orderW_len x l l.length
  rw [hlo] at hl5 ha5 ⊢
  obtain ⟨os, hos⟩ : ∃ os, os = orderW x l l.length := ⟨_, rfl⟩
  rw [← hos] at hl5 ha5 hom hcO HTW hol ⊢
  clear hos hlo hcell5
  have HCO := hid hcO
  have HOM := hid hom
  have HLB := hid hlb
  obtain ⟨q0, q1, q2, q3, q4, q5, q6, q7, q8⟩ := row9 RO
  clear hcO hom hlb
  go_wp2
  go_loopw [6, 7, 16] (fun vo vl i wr => ∃ (k : Nat) (ao : Option Addr) (cp : Nat) (out : List (List StopD)) (left : Int) (vs : List Value), k ≤ os.length ∧ i = .int .i64 k ∧ vo = .slice ao out.length cp ∧ vl = .int .i64 left ∧
      TOwn 108 105 wr wO.heap.size (.slice ao out.length cp) out vs ∧ UnitOk x.troom (255 * k) out left ∧ unitAll x.troom l (os.take k) ([], 0) = (out, left) ∧ Below wO.heap.size wO wr) (fun _ _ i _ => os.length - (intOf i).toNat)
  case atStart => exact ⟨0, none, 0, [], 0, [], Nat.zero_le _, rfl, rfl, rfl, TOwn.nil _ _ _ _, UnitOk.nil (by omega), rfl, Below.refl _ _⟩
  case round =>
    obtain ⟨k, ao, cp, out, left, vs, hk, rfl, rfl, rfl, hT, hU, hua, hb⟩ := hrel
    obtain ⟨wp, rfl⟩ : ∃ wp : World, wp = wr := ⟨_, rfl⟩
    by_cases hlt : k < os.length
    · have hx := idx_at1 (c := c5) Try.underlying49 sz_int (ha5 (by omega)) hlt
      have g0 := below_cell hb (HCO.out k hlt)
      have hsl := HOM.out _ (List.getElem_mem hlt)
      have HUA := hid (unitAll_take (room := x.troom) (l := l) hlt ([], 0))
      rw [hua] at HUA
      obtain ⟨s0, hs0⟩ : ∃ s0, s0 = os[k] := ⟨_, rfl⟩
      rw [← hs0] at g0 hsl HUA
      have hxl := idx_at1 (c := c2) Try.underlying34 sz_i64 (ha2 (by omega)) hsl
      have g1 := below_cell hb (below_cell hBO (hcell2 s0 hsl))
      have hnb := HLB.out _ (List.getElem_mem hsl)
      have hgd : l.getD s0 0 = l[s0] := by rw [List.getD_eq_getElem?_getD, List.getElem?_eq_getElem hsl]; rfl
      obtain ⟨n0, hn0⟩ := Int.eq_ofNat_of_zero_le hnb.1
      rw [hgd, hn0, Int.toNat_natCast] at HUA
      rw [hn0] at g1 hnb
      have HT3 := hid hT
      have HU3 := hid hU
      clear hs0 hn0 hT hU hua hgd
      go_wp2
      go_loopw [6, 7, 24] (fun vo vl vn wx => ∃ (j : Nat) (ao : Option Addr) (cp : Nat) (out2 : List (List StopD)) (left2 : Int) (vs2 : List Value), j ≤ n0 ∧ vn = .int .i64 j ∧ vo = .slice ao out2.length cp ∧ vl = .int .i64 left2 ∧
          TOwn 108 105 wx wO.heap.size (.slice ao out2.length cp) out2 vs2 ∧ UnitOk x.troom (255 * k + j) out2 left2 ∧ unitN x.troom s0 j (out, left) = (out2, left2) ∧ Below wO.heap.size wO wx) (fun _ _ vn _ => n0 - (intOf vn).toNat)
      case atStart => exact ⟨0, ao, cp, out, left, vs, Nat.zero_le _, rfl, rfl, rfl, HT3.out, HU3.out, rfl, hb⟩
      case round =>
        clear g0 g1 hb HT3 HU3
        obtain ⟨j, ao2, cp2, out2, left2, vs2, hj, rfl, rfl, rfl, hT, hU, hun, hb⟩ := hrel
        obtain ⟨wx, rfl⟩ : ∃ wx : World, wx = wr := ⟨_, rfl⟩
        by_cases hjt : j < n0
        · have hlb2 := hU.leftB
          have hob2 := hU.lenB
          have hsz := hb.size
          have p1 := below_cell hb q1
          have p2 := below_cell hb q2
          have hcnt : 255 * k + j ≤ 3500 := by omega
          have HUN := hid (show unitN x.troom s0 (j + 1) (out, left) = unit1 x.troom s0 (out2, left2) from by rw [← hun]; rfl)
          have HT4 := hid hT
          have HU4 := hid hU
          obtain ⟨o3, l3, hrd, hU3, hl3, ho3, hst3, hu1, hU5⟩ := hU.one (s := s0) hroom (by omega)
          have HRD := hid hrd
          have HU1 := hid hu1
          have HU5 := hid hU5
          have HST3 := hid hst3
          have hl3b := hU3.leftB
          have hlen3 := hU3.lenB
          clear hT hU hun hrd hu1 hU5 hU3 hst3
          go_upto_if 27 with fail
          go_cut [6, 7] (fun vo vl wz => ∃ (ao : Option Addr) (cp : Nat) (vs3 : List Value), vo = .slice ao o3.length cp ∧ vl = .int .i64 l3 ∧ TOwn 108 105 wz wO.heap.size (.slice ao o3.length cp) o3 vs3 ∧ Below wO.heap.size wO wz)
          case first =>
            by_cases hz : left2 = 0
            · have hz2 : (left2 == 0) = true := by simpa using hz
              have HE := hid (show (out2 ++ [[]], x.troom) = (o3, l3) from by rw [← HRD.out]; unfold readyT; rw [if_pos hz])
              have hrow := HT4.out.own
              have o2 := ne_own_old hrow (cell_lt q2)
              generalize hro : (Value.slice ao2 out2.length cp2).ownBlock = row at *
              have HRO := hid hro
              clear hz hro
              go_wp2
              have z2 : ∀ e : At (OldBut row wx), _ := fun e => e.ok.cell p2 o2
              refine wp_region_mix (OldBut row wx) [] [([0, 1, 4, 5, 6], 2, false), ([], 3, false), ([7], 8, false)] (by kernel_rfl) (by kernel_rfl) (fun _ _ d _ _ h => by cases d <;> exact h) (OldBut.refl _ _).drew ?_
              simp only [mixOf, List.map_cons, List.map_nil, Array.getD_eq_getD_getElem?, List.getElem?_toArray, List.getElem?_cons_succ, List.getElem?_cons_zero, Option.getD_some, wpMix]
              repeat (go_big_quiet_step (fail))
              refine wpQuiet_nil ?_
              go_wp2_with fail
              have hS0 : OldBut row wx (wx.alloc (.cells #[.slice none 0 0] 108)).drew := ((OldBut.refl row wx).below ((Below.refl _ _).alloc (Nat.le_refl _) _)).drew
              have hown1 := (hrow.alloc (.cells #[.slice none 0 0] 108)).drew
              refine ⟨hS0, wpQuiet_nil ?_⟩
              obtain ⟨i1, hi, hi0, hi1, hi2⟩ := info_parts info_truck
              go_wp2_with (at_builtin; refine wpList_append_own _ rfl _ _ 39 rfl wO.heap.size 108 i1 (.agg #[.slice none 0 0]) 1 24 Try.underlying39 hi hi0 hi1 hi2 rfl (by decide) _ _ _ rfl hown1 ⟨wx.heap.size, 0, none⟩ 1 1 [.slice none 0 0] rfl rfl ?c1 ?c2 ?c3 ?c4 ?c5 ?_)
              case c1 => exact cell_one_new _ _ _
              case c2 => intro u hu; simp at hu; subst hu; rfl
              case c3 => unfold maxLen; omega
              case c4 => omega
              case c5 => simp; omega
              intro v' w2 hown' hgrow _
              obtain ⟨ao', cp', hv', -, -⟩ := owns_slice hown'
              subst hv'
              have hTa : TOwn 108 105 (wx.alloc (.cells #[.slice none 0 0] 108)).drew wO.heap.size (.slice ao2 out2.length cp2) out2 vs2 := HT4.out.below ((Below.refl _ _).alloc (Nat.le_refl _) _).drew
              have HT5 := hid (hTa.push (by decide) hgrow hown')
              have HB5 := hid (below_owned (w := (wx.alloc (.cells #[.slice none 0 0] 108)).drew) (hb.alloc hsz _).drew hown1 (by simp; omega) (Nat.le_refl _) hgrow)
              have hS1 := hS0.grown (by rw [HRO.out] at hgrow; exact hgrow)
              clear hown' hgrow hown1 hi hi0 hi1 hi2 hTa hS0
              refine ⟨hS1, ?_⟩
              repeat (go_big_quiet_step (fail))
              refine wpQuiet_nil ?_
              go_wp2_with fail
              refine ⟨hS1, ?_⟩
              have e1 := congrArg Prod.fst HE.out
              have e2 := congrArg Prod.snd HE.out
              simp only at e1 e2
              have e3 : o3.length = out2.length + 1 := by rw [← e1]; simp
              go_wp2
              go_meet
              exact ⟨ao', cp', vs2 ++ [.slice none 0 0], by rw [e3], by rw [← e2], by rw [e3, ← e1]; exact HT5.out, HB5.out⟩
            · have hz2 : (left2 == 0) = false := by simpa using hz
              have HE := hid (show (out2, left2) = (o3, l3) from by rw [← HRD.out]; unfold readyT; rw [if_neg hz])
              have e1 := congrArg Prod.fst HE.out
              have e2 := congrArg Prod.snd HE.out
              simp only at e1 e2
              subst e1
              subst e2
              clear hz
              go_wp2
              go_meet
              exact ⟨ao2, cp2, vs2, rfl, rfl, HT4.out, hb⟩
          case rest =>
            clear p1 p2 hlb2 hob2 hsz HT4 HU4 hb HRD
            obtain ⟨ao3, cp3, vs3, rfl, rfl, hT, hb⟩ := hcut
            obtain ⟨wz, rfl⟩ : ∃ wz : World, wz = wc := ⟨_, rfl⟩
            have hsz := hb.size
            have hl3' : o3.length - 1 < vs3.length := by rw [hT.len]; omega
            have hlx : o3.length - 1 < o3.length := by omega
            have ev : vs3.getD (o3.length - 1) undef = vs3[o3.length - 1] := by rw [List.getD_eq_getElem?_getD, List.getElem?_eq_getElem hl3']; rfl
            have eo : lastT o3 = o3[o3.length - 1] := by unfold lastT; rw [List.getD_eq_getElem?_getD, List.getElem?_eq_getElem hlx]; rfl
            have hro := hT.rows _ hlx hl3'
            rw [← ev, ← eo] at hro
            obtain ⟨a9, c9, hv9, hc9, hm9⟩ := owns_slice hro
            obtain ⟨g, cap, hv3, hcap1, hcap2, hgB, hRow⟩ := Row.of_owns hT.own ho3
            simp only [Value.slice.injEq] at hv3
            obtain ⟨rfl, -, rfl⟩ := hv3
            have hgc := hRow.cell hl3'
            have hgf := hRow.frozen (o3.length - 1)
            have hgl := hRow.lt
            rw [← ev, hv9] at hgc
            have htl := HST3.out _ (lastT_mem ho3)
            have hix : ∀ w, (Instr.indexAt 39 (.slice (some ⟨g, 0, none⟩) o3.length cp3) (.int .i64 ((o3.length : Int) - 1))).run Try.prog w = .ok (.pointer (some ⟨g, o3.length - 1, none⟩)) w := fun w => by
              have := idx_at1 (c := cp3) Try.underlying39 sz_truck (a := some ⟨g, 0, none⟩) rfl hlx w
              rw [show ((o3.length - 1 : Nat) : Int) = (o3.length : Int) - 1 by omega, Nat.zero_add] at this
              exact this
            have h1L : (1 : Int) ≤ (o3.length : Int) := by omega
            have h2L : (o3.length : Int) ≤ 4000 := by omega
            rw [hv9] at hro
            have hap9 : (lastT o3).length ≤ 4000 := by omega
            have hxs : ∀ (_ : 0 < (lastT o3).length), ∃ g9, a9 = some ⟨g9, 0, none⟩ ∧ (∀ w, (Instr.indexAt 106 (.slice a9 (lastT o3).length c9) (.int .i64 (((lastT o3).length : Int) - 1))).run Try.prog w = .ok (.pointer (some ⟨g9, ((lastT o3).length - 1) * 2, none⟩)) w) ∧
                wz.cell? ⟨g9, ((lastT o3).length - 1) * 2, none⟩ = some (.int .i64 (lastS (lastT o3)).sat) := fun h0 => by
              obtain ⟨g9, cap9, hv9', -, -, -, hRow9⟩ := Row.of_owns hro h0
              simp only [Value.slice.injEq] at hv9'
              refine ⟨g9, hv9'.1, fun w => ?_, ?_⟩
              · have := idx_at (c := c9) Try.underlying106 sz_stop (a := a9) hv9'.1 (k := (lastT o3).length - 1) (n := (lastT o3).length) (by omega) w
                rw [show (((lastT o3).length - 1 : Nat) : Int) = ((lastT o3).length : Int) - 1 by omega, Nat.zero_add] at this
                exact this
              · have hk : (lastT o3).length - 1 < (lastT o3).length := by omega
                have hfl : ((lastT o3).flatMap stopV).length = (lastT o3).length * 2 := stopV_len _
                have hfg := flat_get (lastT o3) ((lastT o3).length - 1) hk (by omega) (by omega)
                have := hRow9.cell (j := 2 * ((lastT o3).length - 1)) (by omega)
                rw [hfg.1] at this
                rw [Nat.mul_comm]
                have e : lastS (lastT o3) = (lastT o3)[(lastT o3).length - 1] := by unfold lastS; rw [List.getD_eq_getElem?_getD, List.getElem?_eq_getElem hk]; rfl
                rw [e]; exact this
            have HXS := hid hxs
            have HTOWN := hid hT
            have HRO := hid hro
            have HROW := hid hRow
            have HEV := hid hv9
            obtain ⟨tl, htl'⟩ : ∃ tl, tl = lastT o3 := ⟨_, rfl⟩
            rw [← htl'] at hgc htl HXS HRO hap9 HEV
            have HTL := hid htl'
            clear hxs hT hro hRow ev eo hv9 htl' hl3' hlx hc9 hm9 hcap1 hcap2
            go_upto_region 12 with fail
            obtain ⟨nb, hnb'⟩ : ∃ nb, nb = newS (s0 : Int) tl := ⟨_, rfl⟩
            have HNB := hid hnb'
            clear hnb'
            go_cut [59] (fun c wy => c = .bool nb ∧ wy = wz)
            case first =>
              by_cases ht0 : tl.length = 0
              · have e1 : ((tl.length : Int) == 0) = true := by simpa using ht0
                have HE0 := hid (show newS (s0 : Int) tl = true from by unfold newS; simp [ht0])
                go_wp2
                go_meet
                exact ⟨by rw [HNB.out, HE0.out], rfl⟩
              · have e1 : ((tl.length : Int) == 0) = false := by simpa using ht0
                obtain ⟨g9, rfl, hi9, hc9⟩ := HXS.out (by omega)
                have h3L : (1 : Int) ≤ (tl.length : Int) := by omega
                have h4L : (tl.length : Int) ≤ 4000 := by omega
                have e2 : newS (s0 : Int) tl = ((lastS tl).sat != (s0 : Int)) := by unfold newS; rw [show (tl.length == 0) = false by simpa using ht0]; rfl
                obtain ⟨ls, hls⟩ : ∃ ls, ls = (lastS tl).sat := ⟨_, rfl⟩
                rw [← hls] at hc9 e2
                have HE2 := hid e2
                clear e2 hls ht0
                go_wp2
                go_meet
                exact ⟨by rw [HNB.out, HE2.out], rfl⟩
            case rest =>
              obtain ⟨rfl, rfl⟩ := hcut
              obtain ⟨wy, rfl⟩ : ∃ wy : World, wy = wc := ⟨_, rfl⟩
              obtain ⟨o4, ho4⟩ : ∃ o4, o4 = setLast o3 (readyS s0 tl) := ⟨_, rfl⟩
              have h4len : o4.length = o3.length := by rw [ho4, setLast_len]
              have h4last : lastT o4 = readyS s0 tl := by rw [ho4]; unfold setLast; exact lastT_set ho3
              have h4pos : 0 < (lastT o4).length := by rw [h4last]; exact readyS_pos _ _
              have HO4 := hid ho4
              have H4LEN := hid h4len
              have H4LAST := hid h4last
              clear ho4 h4len h4last
              go_upto_if 59 with fail
              go_cut [] (fun wv => ∃ (vs4 : List Value) (gs c4 : Nat), TOwn 108 105 wv wO.heap.size (.slice (some ⟨g, 0, none⟩) o4.length cp3) o4 vs4 ∧ vs4.getD (o4.length - 1) undef = .slice (some ⟨gs, 0, none⟩) (lastT o4).length c4 ∧ Row wv g 108 vs4 ∧ Below wO.heap.size wO wv)
              case first =>
                cases nb
                case true =>
                  have hnew : newS (s0 : Int) tl = true := HNB.out.symm
                  obtain ⟨i1, hi, hi0, hi1, hi2⟩ := info_parts info_stop
                  have hown1 := HRO.out.alloc (.cells #[.int .i64 s0, .int .i64 0] 105)
                  have HADD := hid (show addLast o3 ⟨s0, 0⟩ = o4 from by rw [HO4.out]; unfold addLast setLast readyS; rw [if_pos hnew, HTL.out]; rfl)
                  have HNEW := hid hnew
                  clear hnew
                  go_wp2_with (at_builtin; refine wpList_append_own_at _ rfl _ _ 106 rfl wO.heap.size 105 i1 (.agg #[.int .i64 0, .int .i64 0]) 2 16 Try.underlying106 hi hi0 hi1 hi2 rfl (by decide) _ _ _ rfl hown1 ⟨wy.heap.size, 0, none⟩ 1 1 [.int .i64 s0, .int .i64 0] rfl rfl ?c1 ?c2 ?c3 ?c4 ?c5 ?_)
                  case c1 => exact cells_new (cs := [.int .i64 s0, .int .i64 0]) rfl _
                  case c2 => intro u hu; simp at hu; rcases hu with rfl | rfl <;> rfl
                  case c3 => unfold maxLen; omega
                  case c4 => omega
                  case c5 => simp; omega
                  intro v' w2 hown' hgrow _ hat
                  obtain ⟨ao', cp', hv', -, -⟩ := owns_slice hown'
                  subst hv'
                  have hl3' : o3.length - 1 < vs3.length := by rw [HTOWN.out.len]; omega
                  have hRow2 := (HROW.out.alloc (.cells #[.int .i64 s0, .int .i64 0] 105)).grown hown1 (by decide) hgrow
                  have r0 := hRow2.cell hl3'
                  have r1 := hRow2.frozen (o3.length - 1)
                  obtain ⟨rv, hrv⟩ : ∃ rv, rv = vs3[o3.length - 1] := ⟨_, rfl⟩
                  rw [← hrv] at r0
                  obtain ⟨g5, cap5, hv5, -, -, -, -⟩ := Row.of_owns hown' (by omega)
                  simp only [Value.slice.injEq] at hv5
                  obtain ⟨rfl, -, rfl⟩ := hv5
                  have hTa : TOwn 108 105 (wy.alloc (.cells #[.int .i64 s0, .int .i64 0] 105)) wO.heap.size (.slice (some ⟨g, 0, none⟩) o3.length cp3) o3 vs3 := HTOWN.out.below ((Below.refl _ _).alloc (Nat.le_refl _) _)
                  have HT6 := hid (hTa.stop (s := ⟨s0, 0⟩) (u := .slice (some ⟨g5, 0, none⟩) (tl.length + 1) cp') (by decide) ho3 (by rw [HEV.out]; exact hgrow) (by rw [show o3.getD (o3.length - 1) [] = tl from HTL.out.symm]; exact hown') (by
                    rw [HEV.out]
                    rcases hat with h | h
                    · exact .inl h
                    · exact .inr ⟨_, h, by simp⟩))
                  rw [HADD.out] at HT6
                  have hB2 := below_owned (w := wy.alloc (.cells #[.int .i64 s0, .int .i64 0] 105)) (hb.alloc hsz _) hown1 (by simp; omega) (Nat.le_refl _) hgrow
                  have HB6 := hid (hB2.setCell (p := ⟨g, o3.length - 1, none⟩) hgB (.slice (some ⟨g5, 0, none⟩) (tl.length + 1) cp'))
                  have HR6 := hid (hRow2.set hl3' (.slice (some ⟨g5, 0, none⟩) (tl.length + 1) cp'))
                  have HLL4 := hid (show (lastT o4).length = tl.length + 1 from by rw [H4LAST.out]; unfold readyS; rw [if_pos HNEW.out]; simp)
                  have HV6 := hid (show (vs3.set (o3.length - 1) (.slice (some ⟨g5, 0, none⟩) (tl.length + 1) cp')).getD (o4.length - 1) undef = .slice (some ⟨g5, 0, none⟩) (lastT o4).length cp' from by
                    rw [HLL4.out, H4LEN.out, List.getD_eq_getElem?_getD, List.getElem?_set_self hl3']; rfl)
                  clear hown' hgrow hown1 hi hi0 hi1 hi2 hTa hat hB2 hRow2 hrv hgc hgf
                  go_wp2
                  go_meet
                  exact ⟨_, g5, cp', HT6.out, HV6.out, HR6.out, HB6.out⟩
                case false =>
                  have hnew : ¬ newS (s0 : Int) tl = true := by rw [← HNB.out]; decide
                  have h0 : tl.length ≠ 0 := fun h => hnew (by unfold newS; simp [h])
                  obtain ⟨g9, ha9, -, -⟩ := HXS.out (by omega)
                  have e4 : o4 = o3 := by
                    rw [HO4.out]
                    unfold readyS
                    rw [if_neg hnew, HTL.out]
                    unfold setLast lastT
                    rw [List.getD_eq_getElem?_getD, List.getElem?_eq_getElem (by omega)]
                    simp
                  have HE4 := hid e4
                  have HLL4 := hid (show lastT o4 = tl from by rw [e4]; exact HTL.out.symm)
                  have HA9 := hid ha9
                  clear e4 hnew h0 hgc hgf ha9
                  go_wp2
                  go_meet
                  refine ⟨vs3, g9, c9, ?_, ?_, HROW.out, hb⟩
                  · rw [HE4.out]; exact HTOWN.out
                  · rw [HLL4.out, H4LEN.out, HEV.out, HA9.out]
              case rest =>
                have h4b := ready_load (s := (s0 : Int)) (t := tl) (cnt := 255 * k + j) (fun u hu => by have := htl.2 u hu; omega)
                have h4l := ready_len (s0 : Int) tl
                rw [← H4LAST.out] at h4b h4l
                clear HTOWN HRO HROW HEV hgc hgf HXS hb hgl
                obtain ⟨vs4, gs, c4, hT, hv4, hRow, hb⟩ := hcut
                obtain ⟨wv, rfl⟩ : ∃ wv : World, wv = wc := ⟨_, rfl⟩
                have ho4 : 0 < o4.length := by rw [H4LEN.out]; exact ho3
                have hl4 : o4.length - 1 < o4.length := by omega
                have hl4' : o4.length - 1 < vs4.length := by rw [hT.len]; omega
                have ev : vs4.getD (o4.length - 1) undef = vs4[o4.length - 1] := by rw [List.getD_eq_getElem?_getD, List.getElem?_eq_getElem hl4']; rfl
                have eo : lastT o4 = o4[o4.length - 1] := by unfold lastT; rw [List.getD_eq_getElem?_getD, List.getElem?_eq_getElem hl4]; rfl
                have hro := hT.rows _ hl4 hl4'
                have hgc := hRow.cell hl4'
                rw [← ev, hv4, H4LEN.out] at hgc
                rw [← ev, hv4, ← eo] at hro
                obtain ⟨g9, cap9, hv9', hcm9, hcx9, hB9, hRow9⟩ := Row.of_owns hro h4pos
                simp only [Value.slice.injEq, Option.some.injEq, Addr.mk.injEq, and_true, true_and] at hv9'
                obtain ⟨rfl, rfl⟩ := hv9'
                obtain ⟨K, hK⟩ : ∃ K, (lastT o4).length = K + 1 := ⟨(lastT o4).length - 1, by omega⟩
                have hkK : K < (lastT o4).length := by omega
                have hfl : ((lastT o4).flatMap stopV).length = (lastT o4).length * 2 := stopV_len _
                have hfg := flat_get (lastT o4) K hkK (by omega) (by omega)
                have hc9 := hRow9.cell (j := 2 * K + 1) (by omega)
                have hf9 := hRow9.frozen (2 * K + 1)
                rw [hfg.2] at hc9
                have hel : lastS (lastT o4) = (lastT o4)[K] := by unfold lastS; rw [hK, Nat.add_sub_cancel, List.getD_eq_getElem?_getD, List.getElem?_eq_getElem hkK]; rfl
                have hsat : (lastT o4)[K].sat = (s0 : Int) := by rw [← hel, H4LAST.out]; exact readyS_sat _ _
                rw [hel] at h4b
                have HT7 := hid (hT.load (by decide) ho4 hv4 hkK ((lastT o4)[K].load + 1))
                have HB7 := hid (hb.setCell (p := ⟨gs, 2 * K + 1, none⟩) hB9 (.int .i64 ((lastT o4)[K].load + 1)))
                have hss : ∀ V, setLast o4 V = setLast o3 V := fun V => by rw [HO4.out]; unfold setLast; rw [List.length_set, List.set_set]
                have HO5 := hid (show setLast o4 ((lastT o4).set K ⟨(s0 : Int), (lastT o4)[K].load + 1⟩) = setLast o3 (bumpD s0 (lastT o3)) from by
                  rw [hss, bump_ready, ← HTL.out, ← H4LAST.out, hK, Nat.add_sub_cancel, hel])
                rw [hsat] at HT7
                have hix9 : ∀ w, (Instr.indexAt 106 (.slice (some ⟨gs, 0, none⟩) (K + 1) c4) (.int .i64 ((K : Int) + 1 - 1))).run Try.prog w = .ok (.pointer (some ⟨gs, 2 * K, none⟩)) w := fun w => by
                  have := idx_at (c := c4) Try.underlying106 sz_stop (a := some ⟨gs, 0, none⟩) rfl (k := K) (n := K + 1) (by omega) w
                  rw [Nat.zero_add, Nat.mul_comm] at this
                  rw [show (K : Int) + 1 - 1 = K by omega]
                  exact this
                have hix8 : ∀ w, (Instr.indexAt 106 (.slice (some ⟨gs, 0, none⟩) (K + 1) c4) (.int .i64 (K : Int))).run Try.prog w = .ok (.pointer (some ⟨gs, 2 * K, none⟩)) w := fun w => by
                  have := hix9 w
                  rwa [show (K : Int) + 1 - 1 = K by omega] at this
                obtain ⟨ld, hld⟩ : ∃ ld, ld = (lastT o4)[K].load := ⟨_, rfl⟩
                rw [← hld] at hc9 h4b HT7 HB7 HO5
                rw [hK] at hgc
                have HK := hid hK
                have h3K : (K : Int) ≤ 4000 := by omega
                clear hss hT hv4 hRow hl4 hl4' ev eo hro hcm9 hcx9 hRow9 hkK hfl hfg hel hsat hld hK
                go_wp2
                rw [HO5.out] at HT7
                go_region
                have HLL := hid (show (setLast o3 (bumpD (s0 : Int) (lastT o3))).length = o4.length from by rw [setLast_len, H4LEN.out])
                have HUN2 := hid (show unitN x.troom s0 (j + 1) (out, left) = (setLast o3 (bumpD (s0 : Int) (lastT o3)), l3 - 1) from by rw [HUN.out]; exact HU1.out)
                go_wp2
                go_roundw
                case rel => exact ⟨j + 1, some ⟨g, 0, none⟩, cp3, setLast o3 (bumpD (s0 : Int) (lastT o3)), l3 - 1, vs4, by omega, by go_num, by rw [HLL.out, H4LEN.out], rfl, by rw [HLL.out]; exact HT7.out.1.below (Below.refl _ _).drew, HU5.out, HUN2.out, HB7.out.drew⟩
                case measure => simp [intOf]; omega
        · have hje : j = n0 := by omega
          subst hje
          have HUB := hid (show unitAll x.troom l (os.take (k + 1)) ([], 0) = (out2, left2) from by rw [HUA.out, hun])
          have HT4 := hid hT
          have HU4 := hid (show UnitOk x.troom (255 * (k + 1)) out2 left2 from ⟨hU.leftB, by have := hU.lenB; omega, hU.someB, fun t ht => by
            have := hU.stB t ht
            exact ⟨by omega, fun u hu => by have := this.2 u hu; omega⟩⟩)
          clear hT hU hun
          go_wp2
          go_roundw
          case rel => exact ⟨k + 1, ao2, cp2, out2, left2, vs2, by omega, by go_num, rfl, rfl, HT4.out, HU4.out, HUB.out, hb⟩
          case measure => simp [intOf]; omega
    · have hke : k = os.length := by omega
      subst hke
      rw [List.take_length] at hua
      have HE := hid (show trucksW x l = out from by rw [HTW.out, hua])
      have HR := hid (trucksS.weak (hT.rep (fun t ht u hu => by have := (hU.stB t ht).2 u hu; have := hU.lenB; unfold wf64; omega)) (G := fun b => w.heap.size ≤ b) (fun b h => Nat.le_trans hsO h))
      have hBx := hBO.trans (hb.mono hsO)
      have p1 := below_cell hb q1
      clear hT hU hua ha2 hcell2 hwf2 ha5
      go_wp2
      go_quiet (fail)
      go_wp2
      go_ret2
      exact ⟨_, by rw [HE.out]; rfl, by rw [HE.out]; exact HR.out, below_drewN hBx _⟩
end Go.Proofs.Ytafhjfkdlmijdaa
