/- Texts of the proof, joined: AX, Enc, Ad, Pc1. -/
import Derived.Test.YtafhjfkdlmijdaaQ4
import Derived.Test.YtafhjfkdlmijdaaAwake18
import Derived.Test.YtafhjfkdlmijdaaP8
set_option linter.all false
namespace Go.Proofs.Ytafhjfkdlmijdaa.Ab
open Go.RowKit
def dep : Nat → CK → Bool
 | _, .i _ => true
 | 0, .s .. => false
 | d + 1, .s _ ck _ => ck.all (dep d)
def Rd : Nat → CK → AV → Prop
 | _, .i k, x => ∃ n, x = .int k n ∧ inK k n
 | 0, .s .., _ => False
 | d + 1, .s _ ck b, x => ∃ n f, x = .sl n ck.length f ∧ n ≤ b ∧ ∀ i, i < n → ∀ (j : Nat) (q : CK), ck[j]? = some q → Rd d q (f i j)
def RdS (d : Nat) (ck : List CK) (n : Nat) (x : AV) : Prop := ∃ f, x = .sl n ck.length f ∧ ∀ i, i < n → ∀ (j : Nat) (q : CK), ck[j]? = some q → Rd d q (f i j)
def RdC (d : Nat) : AV → AV → Prop
 | .ws _ ck n, x => RdS d ck n x
 | y, x => x = y
def RdL (d : Nat) : List AV → List AV → Prop
 | [], l => l = []
 | a :: r, l => ∃ b m, l = b :: m ∧ RdC d a b ∧ RdL d r m
def okW (d : Nat) : List AV → Bool
 | [] => true
 | .ws _ ck _ :: l => ck.all (dep d) && okW d l
 | .int .. :: l => okW d l
 | .bool _ :: l => okW d l
 | .nils :: l => okW d l
 | _ => false
section
variable {P : Program} {ty : Ty} {E : Env} {M : Mp} {H : List Root} {w : World} {rho : Nat → Prop} {E0 : Nat}
theorem rd_slice {d : Nat} (hT : TauOk E0 M H w) (hr : ∀ b q, M.tau b = some q → rho b) (ih : ∀ (q : CK) (v : Value), dep d q = true → CkOk M w q v → ∃ x, Rd d q x ∧ Con0 rho w x v) {t : TypeId} {ck : List CK} {n : Nat} {v : Value} (hd : ck.all (dep d) = true) (h : WSl M w t ck n v) : ∃ x, RdS d ck n x ∧ Con0 rho w x v := by
 obtain ⟨a, c, rfl, h1, h2, h3, h4⟩ := h
 cases a with
 | none =>
  have := h3 rfl
  obtain rfl : n = 0 := by omega
  exact ⟨_, ⟨fun _ _ => .junk, rfl, fun i hi => by omega⟩, none, 0, 0, c, rfl, h1, h2, fun h => by omega, fun i hi => by omega⟩
 | some ad =>
  obtain ⟨b, cur, rfl, g1, g2, g3⟩ := h4 _ rfl
  obtain ⟨cur2, c1, c2, c3, c4⟩ := hT.cells b t ck g1
  rw [g2] at c1
  cases c1
  have key : ∀ i j, i < n → j < ck.length → ∃ x u, (∀ q, ck[j]? = some q → Rd d q x) ∧ w.cell? ⟨b, 0 + i * ck.length + j, none⟩ = some u ∧ Con0 rho w x u := fun i j hi hj => by
   have hlt : i * ck.length + j < cur.size := by
    have : (i + 1) * ck.length ≤ c * ck.length := Nat.mul_le_mul_right _ (by omega)
    rw [Nat.add_mul] at this; omega
   obtain ⟨u, u1, u2⟩ := c4 (i * ck.length + j) hlt
   have hq := List.getElem?_eq_getElem hj
   have hm : (i * ck.length + j) % ck.length = j := by rw [Nat.add_comm, Nat.add_mul_mod_self_right, Nat.mod_eq_of_lt hj]
   obtain ⟨x, x1, x2⟩ := ih _ u (List.all_eq_true.1 hd _ (List.getElem_mem hj)) (u2 _ (by rw [hm]; exact hq))
   exact ⟨x, u, fun q hq2 => by rw [hq] at hq2; cases hq2; exact x1, by simp [World.cell?, g2, u1], x2⟩
  refine ⟨_, ⟨fun i j => if h : i < n ∧ j < ck.length then (key i j h.1 h.2).choose else .junk, rfl, fun i hi j q hq => ?_⟩, some ⟨b, 0, none⟩, b, 0, c, rfl, h1, h2, fun _ => ⟨rfl, hr _ _ g1⟩, fun i hi j hj => ?_⟩
  ·have hj := (List.getElem?_eq_some_iff.1 hq).1
   simp only [dif_pos (And.intro hi hj)]
   exact (key i j hi hj).choose_spec.choose_spec.1 q hq
  ·simp only [dif_pos (And.intro hi hj)]
   exact ⟨_, (key i j hi hj).choose_spec.choose_spec.2.1, (key i j hi hj).choose_spec.choose_spec.2.2⟩
theorem rd_ok (hT : TauOk E0 M H w) (hr : ∀ b q, M.tau b = some q → rho b) : ∀ (d : Nat) (q : CK) (v : Value), dep d q = true → CkOk M w q v → ∃ x, Rd d q x ∧ Con0 rho w x v
 | d, .i k, v, _, h => by
  obtain ⟨n, rfl, h⟩ := h
  cases d <;> exact ⟨.int k n, ⟨n, rfl, h⟩, rfl⟩
 | 0, .s .., _, h, _ => by simp [dep] at h
 | d + 1, .s t ck b, v, hd, h => by
  obtain ⟨n, hn, h⟩ := h
  obtain ⟨x, ⟨f, rfl, h1⟩, h2⟩ := rd_slice hT hr (fun q v => rd_ok hT hr d q v) (by simpa [dep] using hd) h
  exact ⟨_, ⟨n, f, rfl, hn, h1⟩, h2⟩
theorem rdL_ok {d : Nat} (hT : TauOk E0 M H w) (hr : ∀ b q, M.tau b = some q → rho b) : ∀ {l : List AV} {vs : List Value}, okW d l = true → ConL M H w l vs → ∃ l', RdL d l l' ∧ Con0L rho w l' vs
 | [], _, _, h => by cases h; exact ⟨[], rfl, rfl⟩
 | .ws t ck n :: l, _, ho, ⟨v, r, e, c1, c2⟩ => by
  subst e
  simp only [okW, Bool.and_eq_true] at ho
  obtain ⟨x, x1, x2⟩ := rd_slice hT hr (fun q v => rd_ok hT hr d q v) ho.1 c1
  obtain ⟨l', l1, l2⟩ := rdL_ok hT hr ho.2 c2
  exact ⟨x :: l', ⟨_, _, rfl, x1, l1⟩, _, _, rfl, x2, l2⟩
 | .int k n :: l, _, ho, ⟨v, r, e, c1, c2⟩ => by
  subst e
  obtain ⟨l', l1, l2⟩ := rdL_ok (l := l) hT hr ho c2
  exact ⟨_ :: l', ⟨_, _, rfl, rfl, l1⟩, _, _, rfl, c1, l2⟩
 | .bool b :: l, _, ho, ⟨v, r, e, c1, c2⟩ => by
  subst e
  obtain ⟨l', l1, l2⟩ := rdL_ok (l := l) hT hr ho c2
  exact ⟨_ :: l', ⟨_, _, rfl, rfl, l1⟩, _, _, rfl, c1, l2⟩
 | .nils :: l, _, ho, ⟨v, r, e, c1, c2⟩ => by
  subst e
  obtain ⟨l', l1, l2⟩ := rdL_ok (l := l) hT hr ho c2
  exact ⟨_ :: l', ⟨_, _, rfl, rfl, l1⟩, _, _, rfl, c1, l2⟩
def finW (d : Nat) (post : RV → Prop) (r : RV) (_ : List Root) : Prop := ∃ l, r = .agg l ∧ okW d l = true ∧ ∀ l', RdL d l l' → ∃ l2, EqvL l' l2 ∧ post (.agg l2)
end
end Go.Proofs.Ytafhjfkdlmijdaa.Ab
namespace Go.Proofs.Ytafhjfkdlmijdaa.Ab
open Go.RowKit
abbrev I6 (n : Int) : AV := .int .i64 n
def ix2 (a b : AV) : Nat → AV
 | 0 => a
 | _ => b
def ix3 (a b c : AV) : Nat → AV
 | 0 => a
 | 1 => b
 | _ => c
def ix4 (a b c d : AV) : Nat → AV
 | 0 => a
 | 1 => b
 | 2 => c
 | _ => d
abbrev eInts (l : List Int) : AV := .sl l.length 1 (fun i _ => I6 (l.getD i 0))
def satN (x : InstD) (i : Nat) : SatD := x.sats.getD i ⟨0, 0⟩
def cusN (x : InstD) (i : Nat) : CustD := x.custs.getD i ⟨0, 0, 0, 0⟩
abbrev eSats (x : InstD) : AV := .sl x.sats.length 2 (fun i => ix2 (I6 (satN x i).room) (I6 (satN x i).hold))
abbrev eCusts (x : InstD) : AV := .sl x.custs.length 4 (fun i => ix4 (I6 (cusN x i).load) (I6 (cusN x i).opn) (I6 (cusN x i).cls) (I6 (cusN x i).stay))
abbrev eMat (n : Nat) (f : Nat → Nat → Int) : AV := .sl n 1 (fun i _ => .sl n 1 (fun j _ => I6 (f i j)))
def costN (x : InstD) (i j : Nat) : Int := (x.cost.getD i []).getD j 0
def timeN (x : InstD) (i j : Nat) : Int := (x.time.getD i []).getD j 0
theorem tm_fold (x : InstD) (a b : Int) : timeN x a.toNat b.toNat = timeAt x a b := rfl
theorem tm_foldL (x : InstD) (a : Int) : timeN x a.toNat 0 = timeAt x a 0 := rfl
theorem tm_foldR (x : InstD) (b : Int) : timeN x 0 b.toNat = timeAt x 0 b := rfl
theorem tm_fold0 (x : InstD) : timeN x 0 0 = timeAt x 0 0 := rfl
def eInst (x : InstD) : List AV := [I6 x.fin, I6 x.tmany, I6 x.troom, I6 x.bmany, I6 x.broom, eSats x, eCusts x, eMat (nodes x) (costN x), eMat (nodes x) (timeN x)]
def trkN (p : PlanD) (i : Nat) : List StopD := p.trucks.getD i []
def bikN (p : PlanD) (i : Nat) : BikeD := p.bikes.getD i ⟨0, []⟩
def stN (l : List StopD) (i : Nat) : StopD := l.getD i ⟨0, 0⟩
abbrev eStops (l : List StopD) : AV := .sl l.length 2 (fun i => ix2 (I6 (stN l i).sat) (I6 (stN l i).load))
def ePlan (p : PlanD) : List AV := [.sl p.trucks.length 1 (fun i _ => eStops (trkN p i)), .sl p.bikes.length 2 (fun i => ix2 (I6 (bikN p i).sat) (eInts (bikN p i).stops))]
def tmsN (t : TimesD) (i : Nat) : List Int := t.trucks.getD i []
def ridN (t : TimesD) (i : Nat) : RideD := t.bikes.getD i ⟨0, [], 0⟩
def eTimes (t : TimesD) : List AV := [.sl t.trucks.length 1 (fun i _ => eInts (tmsN t i)), .sl t.bikes.length 3 (fun i => ix3 (I6 (ridN t i).out) (eInts (ridN t i).starts) (I6 (ridN t i).back))]
theorem hold_fold (x : InstD) (a : Int) : (satN x a.toNat).hold = holdOf x a := rfl
theorem cus_fold (x : InstD) (a : Int) : cusN x a.toNat = custD x a := rfl
theorem dec_t (p : Prop) [Decidable p] : (decide p = true) = p := by simp
theorem dec_f (p : Prop) [Decidable p] : (decide p = false) = ¬ p := by simp
attribute [go_sem ↓ low] ef_g
attribute [go_sem ↓] stb_s ef_t e_skip e_reg e_regf e_seq e_cond e_block e_exit e_ret e_R0 e_R1 e_nil e_cons e_op
attribute [go_sem] lit_n lit_s app_t app_n app_s stoT wstV litW appW zW ckE slcV slc2 mkfV funV capL ckAt wldV List.drop_nil Option.toList_none Option.toList_some e_eff e_putn pu_w stb_n vldW Option.map_some Option.map_none List.drop_zero List.drop_succ_cons lpK2 renG renH renRs pickR rr_dead rr_box rr_ints rr_bools rr_gen renL ra_ptr ra_h ra_int ra_bool ra_flt ra_str ra_nilp ra_nils ra_junk ra_sl ra_rp mk_ps mk_pn mk_hs mk_hn renI renR renRL pos okI List.cons_append List.replicate_succ List.replicate_zero lpK finP Int.toNat_zero tm_fold tm_foldL tm_foldR tm_fold0 hold_fold cus_fold dec_t dec_f Bool.and_eq_true Bool.not_eq_true' and_imp setT fxT gets tvals scpRL scpR scpL scpH AV.scp List.take_succ_cons List.take_zero List.take_nil e_val e_putt e_putg e_put1 e_put0 f_box f_alloc f_store f_lit f_litK f_make f_app f_call f_cls t_n t_e t_r b_n b_e b_r c_t r_r r_n isV guardOf opGs pgs rgs rds opV bltV AS.rd lk gOk_nil gOk_t gOk_s gOk_a gOk_b cellsR fieldV vldP vld at2 loadV rootAt tab Row.get Row.len Row.isBox nth indexV lenV binV intV cmpV unV convV mmV buildV pickV extV nthR ofConst storeV Row.put pat setN setRoot litV chunk takeN dropN rep mkRow allInts allBools makeV zOk zeros appV appSrc Row.app Row.drop frzOk vldF frzL frz frzH Root.mark resL res1 one x_int x_bool okT okR okRL frzT frzR frzRL frzHRL frzHR argT e_pick e_pick0 opD nthO ix2 ix3 ix4 Int.toNat_natCast tyM ty_eq njL AV.nj kN inK ite_f ite_t if_true if_false true_and and_true forall_const implies_true false_implies imp_self List.length_cons List.length_nil List.map_cons List.map_nil List.nil_append List.cons_append Bool.false_eq_true Bool.true_and ne_eq not_false_eq_true decide_true decide_false Decidable.not_not Nat.add_zero Nat.zero_add Nat.zero_mul
end Go.Proofs.Ytafhjfkdlmijdaa.Ab
namespace Go.Proofs.Ytafhjfkdlmijdaa.Ab
open Go.RowKit
def Fwd {α : Type} (S : Shape α) (e : α → Nat → AV) : Prop := ∀ {w : World} {F : Nat → Prop} {x : α} {cs : List Value}, S.rep w F x cs → ∀ j, j < S.sz → ∃ u, cs[j]? = some u ∧ Con0 F w (e x j) u
def Bwd {α : Type} (S : Shape α) (e : α → Nat → AV) (ok : α → Prop) : Prop := ∀ {w : World} {F : Nat → Prop} {x : α} {cs : List Value}, cs.length = S.sz → (∀ j, j < S.sz → ∃ u, cs[j]? = some u ∧ Con0 F w (e x j) u) → ok x → S.rep w F x cs
theorem getD_get {α : Type} {l : List α} {i : Nat} (h : i < l.length) (z : α) : l.getD i z = l[i] := by
 rw [List.getD_eq_getElem?_getD, List.getElem?_eq_getElem h]; rfl
section
variable {α : Type} {S : Shape α} {h0 : 0 < S.sz} {e : α → Nat → AV} {ok : α → Prop} {w : World} {F : Nat → Prop}
theorem fs (z : α) (hS : Fwd S e) {l : List α} {v : Value} (h : (sliceS S h0).rep w F l [v]) : Con0 F w (.sl l.length S.sz (fun i => e (l.getD i z))) v := by
 obtain ⟨a, b, off, c, e1, h1, h2, h3, h4⟩ := h
 cases e1
 refine ⟨a, b, off, c, rfl, h1, h2, h3, fun i hi j hj => ?_⟩
 obtain ⟨es, k1, k2⟩ := h4 i hi
 obtain ⟨u, k3, k4⟩ := hS k1 j hj
 show ∃ u, _ = some u ∧ Con0 F w (e (l.getD i z) j) u
 rw [getD_get hi]
 exact ⟨u, by rw [k2 j hj, k3], k4⟩
theorem some_list : ∀ (n : Nat) {p : Nat → Value → Prop}, (∀ j, j < n → ∃ u, p j u) → ∃ es : List Value, es.length = n ∧ ∀ j u, es[j]? = some u → p j u
 | 0, _, _ => ⟨[], rfl, fun _ _ h => by simp at h⟩
 | n + 1, p, h => by
  obtain ⟨u, hu⟩ := h 0 (Nat.succ_pos _)
  obtain ⟨es, h1, h2⟩ := some_list n (p := fun j => p (j + 1)) (fun j hj => h (j + 1) (by omega))
  refine ⟨u :: es, by simp [h1], fun j v hj => ?_⟩
  cases j with
  | zero => simp at hj; subst hj; exact hu
  | succ j => exact h2 j v (by simpa using hj)
theorem bs (z : α) (hS : Bwd S e ok) {l : List α} {v : Value} (h : Con0 F w (.sl l.length S.sz (fun i => e (l.getD i z))) v) (ho : ∀ x ∈ l, ok x) : (sliceS S h0).rep w F l [v] := by
 obtain ⟨a, b, off, c, rfl, h1, h2, h3, h4⟩ := h
 refine ⟨a, b, off, c, rfl, h1, h2, h3, fun i hi => ?_⟩
 obtain ⟨es, k1, k2⟩ := some_list S.sz (h4 i hi)
 have k3 : ∀ j, j < S.sz → w.cell? ⟨b, off + i * S.sz + j, none⟩ = es[j]? ∧ ∃ u, es[j]? = some u ∧ Con0 F w (e l[i] j) u := fun j hj => by
  have hg : es[j]? = some es[j] := List.getElem?_eq_getElem (by omega)
  obtain ⟨k4, k5⟩ := k2 j _ hg
  have k5 : Con0 F w (e (l.getD i z) j) es[j] := k5
  rw [getD_get hi] at k5
  exact ⟨by rw [k4, hg], _, hg, k5⟩
 exact ⟨es, hS k1 (fun j hj => (k3 j hj).2) (ho _ (List.getElem_mem hi)), fun j hj => (k3 j hj).1⟩
theorem fs_fwd (z : α) (hS : Fwd S e) : Fwd (sliceS S h0) (fun l _ => .sl l.length S.sz (fun i => e (l.getD i z))) := by
 intro w F x cs h j hj
 have hl := (sliceS S h0).len h
 match cs, hl with
 | [v], _ =>
  have hj : j < 1 := hj
  obtain rfl : j = 0 := by omega
  exact ⟨v, rfl, fs z hS h⟩
end
theorem int_f : Fwd intS (fun x _ => I6 x) := by
 rintro w F x cs ⟨rfl, -⟩ j hj
 have hj : j < 1 := hj
 obtain rfl : j = 0 := by omega
 exact ⟨_, rfl, rfl⟩
theorem int_b : Bwd intS (fun x _ => I6 x) wf64 := by
 intro w F x cs hl h ho
 obtain ⟨u, h1, h2⟩ := h 0 Nat.one_pos
 match cs, hl with
 | [v], _ => cases h1; exact ⟨by rw [show u = .int .i64 x from h2], ho⟩
theorem u8_f : Fwd u8S (fun x _ => .int .u8 x) := by
 rintro w F x cs ⟨rfl, -⟩ j hj
 have hj : j < 1 := hj
 obtain rfl : j = 0 := by omega
 exact ⟨_, rfl, rfl⟩
theorem u8_b : Bwd u8S (fun x _ => .int .u8 x) (fun x => 0 ≤ x ∧ x ≤ 255) := by
 intro w F x cs hl h ho
 obtain ⟨u, h1, h2⟩ := h 0 Nat.one_pos
 match cs, hl with
 | [v], _ => cases h1; exact ⟨by rw [show u = .int .u8 x from h2], ho⟩
theorem sat_f : Fwd satS (fun x => ix2 (I6 x.room) (I6 x.hold)) := by
 rintro w F x cs ⟨rfl, -⟩ j hj
 have hj : j < 2 := hj
 match j, hj with
 | 0, _ => exact ⟨_, rfl, rfl⟩
 | 1, _ => exact ⟨_, rfl, rfl⟩
theorem stop_f : Fwd stopS (fun x => ix2 (I6 x.sat) (I6 x.load)) := by
 rintro w F x cs ⟨rfl, -⟩ j hj
 have hj : j < 2 := hj
 match j, hj with
 | 0, _ => exact ⟨_, rfl, rfl⟩
 | 1, _ => exact ⟨_, rfl, rfl⟩
theorem cust_f : Fwd custS (fun x => ix4 (I6 x.load) (I6 x.opn) (I6 x.cls) (I6 x.stay)) := by
 rintro w F x cs ⟨rfl, -⟩ j hj
 have hj : j < 4 := hj
 match j, hj with
 | 0, _ => exact ⟨_, rfl, rfl⟩
 | 1, _ => exact ⟨_, rfl, rfl⟩
 | 2, _ => exact ⟨_, rfl, rfl⟩
 | 3, _ => exact ⟨_, rfl, rfl⟩
theorem bike_f : Fwd bikeS (fun x => ix2 (I6 x.sat) (eInts x.stops)) := by
 rintro w F x cs ⟨v, rfl, -, h⟩ j hj
 have hj : j < 2 := hj
 match j, hj with
 | 0, _ => exact ⟨_, rfl, rfl⟩
 | 1, _ => exact ⟨_, rfl, fs 0 int_f h⟩
theorem ride_f : Fwd rideS (fun x => ix3 (I6 x.out) (eInts x.starts) (I6 x.back)) := by
 rintro w F x cs ⟨v, rfl, -, -, h⟩ j hj
 have hj : j < 3 := hj
 match j, hj with
 | 0, _ => exact ⟨_, rfl, rfl⟩
 | 1, _ => exact ⟨_, rfl, fs 0 int_f h⟩
 | 2, _ => exact ⟨_, rfl, rfl⟩
theorem two_b {a b : AV} {w : World} {F : Nat → Prop} {cs : List Value} (hl : cs.length = 2) (h : ∀ j, j < 2 → ∃ u, cs[j]? = some u ∧ Con0 F w (ix2 a b j) u) : ∃ u v, cs = [u, v] ∧ Con0 F w a u ∧ Con0 F w b v := by
 match cs, hl with
 | [u, v], _ =>
  obtain ⟨u', h1, h2⟩ := h 0 (by decide)
  obtain ⟨v', h3, h4⟩ := h 1 (by decide)
  cases h1; cases h3
  exact ⟨_, _, rfl, h2, h4⟩
def SatWf (x : SatD) : Prop := wf64 x.room ∧ wf64 x.hold
def StopWf (x : StopD) : Prop := wf64 x.sat ∧ wf64 x.load
def CustWf (x : CustD) : Prop := wf64 x.load ∧ wf64 x.opn ∧ wf64 x.cls ∧ wf64 x.stay
def BikeWf (x : BikeD) : Prop := wf64 x.sat ∧ ∀ c ∈ x.stops, wf64 c
def RideWf (x : RideD) : Prop := wf64 x.out ∧ wf64 x.back ∧ ∀ c ∈ x.starts, wf64 c
theorem sat_b : Bwd satS (fun x => ix2 (I6 x.room) (I6 x.hold)) SatWf := by
 intro w F x cs hl h ho
 obtain ⟨u, v, rfl, h1, h2⟩ := two_b hl h
 exact ⟨by rw [show u = .int .i64 x.room from h1, show v = .int .i64 x.hold from h2], ho⟩
theorem cust_b : Bwd custS (fun x => ix4 (I6 x.load) (I6 x.opn) (I6 x.cls) (I6 x.stay)) CustWf := by
 intro w F x cs hl h ho
 match cs, hl with
 | [a, b, c, d], _ =>
  obtain ⟨a', h1, h2⟩ := h 0 (by decide)
  obtain ⟨b', h3, h4⟩ := h 1 (by decide)
  obtain ⟨c', h5, h6⟩ := h 2 (by decide)
  obtain ⟨d', h7, h8⟩ := h 3 (by decide)
  cases h1; cases h3; cases h5; cases h7
  exact ⟨by rw [show a = .int .i64 x.load from h2, show b = .int .i64 x.opn from h4, show c = .int .i64 x.cls from h6, show d = .int .i64 x.stay from h8], ho⟩
section
variable {w : World} {F : Nat → Prop}
def SqOf (n : Nat) (l : List (List Int)) : Prop := l.length = n ∧ ∀ r ∈ l, r.length = n
theorem mat_f {n : Nat} {l : List (List Int)} {v : Value} (hq : SqOf n l) (h : rowsS.rep w F l [v]) : Con0 F w (eMat n (fun i j => (l.getD i []).getD j 0)) v := by
 obtain ⟨a, b, off, c, e1, h1, h2, h3, h4⟩ := h
 cases e1
 refine ⟨a, b, off, c, by rw [hq.1], by rw [← hq.1]; exact h1, h2, by rw [← hq.1]; exact h3, fun i hi j hj => ?_⟩
 have hi' : i < l.length := by rw [hq.1]; exact hi
 obtain rfl : j = 0 := by omega
 obtain ⟨es, k1, k2⟩ := h4 i hi'
 have hl := (sliceS intS).len k1
 match es, hl with
 | [u], _ =>
  refine ⟨u, by simpa [sliceS] using k2 0 Nat.one_pos, ?_⟩
  have := fs 0 int_f k1
  rw [hq.2 _ (List.getElem_mem hi')] at this
  show Con0 F w (.sl n 1 (fun j _ => I6 ((l.getD i []).getD j 0))) u
  rw [getD_get hi']
  exact this
theorem mat_b {n : Nat} {l : List (List Int)} {v : Value} (hq : SqOf n l) (hw : ∀ r ∈ l, ∀ x ∈ r, wf64 x) (h : Con0 F w (eMat n (fun i j => (l.getD i []).getD j 0)) v) : rowsS.rep w F l [v] := by
 obtain ⟨a, b, off, c, rfl, h1, h2, h3, h4⟩ := h
 refine ⟨a, b, off, c, by rw [hq.1], by rw [hq.1]; exact h1, h2, by rw [hq.1]; exact h3, fun i hi => ?_⟩
 have hi' : i < n := by rw [← hq.1]; exact hi
 obtain ⟨u, k1, k2⟩ := h4 i hi' 0 Nat.one_pos
 have k2 : Con0 F w (.sl n 1 (fun j _ => I6 ((l.getD i []).getD j 0))) u := k2
 rw [getD_get hi, ← hq.2 _ (List.getElem_mem hi)] at k2
 refine ⟨[u], bs 0 int_b k2 (hw _ (List.getElem_mem hi)), fun j hj => ?_⟩
 have hj : j < 1 := hj
 obtain rfl : j = 0 := by omega
 exact k1
structure InstK (x : InstD) : Prop where
 i5 : wf64 x.fin ∧ wf64 x.tmany ∧ wf64 x.troom ∧ wf64 x.bmany ∧ wf64 x.broom
 sats : ∀ s ∈ x.sats, SatWf s
 custs : ∀ c ∈ x.custs, CustWf c
 cost : ∀ r ∈ x.cost, ∀ v ∈ r, wf64 v
 time : ∀ r ∈ x.time, ∀ v ∈ r, wf64 v
 sqc : SqOf (nodes x) x.cost
 sqt : SqOf (nodes x) x.time
theorem inst_f {x : InstD} {cs : List Value} (h : instS.rep w F x cs) (h1 : SqOf (nodes x) x.cost) (h2 : SqOf (nodes x) x.time) : Con0L F w (eInst x) cs := by
 obtain ⟨s, c, co, ti, rfl, -, k1, k2, k3, k4⟩ := h
 exact ⟨_, _, rfl, rfl, _, _, rfl, rfl, _, _, rfl, rfl, _, _, rfl, rfl, _, _, rfl, rfl, _, _, rfl, fs _ sat_f k1, _, _, rfl, fs _ cust_f k2, _, _, rfl, mat_f h1 k3, _, _, rfl, mat_f h2 k4, rfl⟩
theorem inst_b {x : InstD} {cs : List Value} (h : Con0L F w (eInst x) cs) (ok : InstK x) : instS.rep w F x cs := by
 obtain ⟨_, _, rfl, rfl, _, _, rfl, rfl, _, _, rfl, rfl, _, _, rfl, rfl, _, _, rfl, rfl, s, _, rfl, k1, c, _, rfl, k2, co, _, rfl, k3, ti, _, rfl, k4, rfl⟩ := h
 exact ⟨s, c, co, ti, rfl, ok.i5, bs _ sat_b k1 ok.sats, bs _ cust_b k2 ok.custs, mat_b ok.sqc ok.cost k3, mat_b ok.sqt ok.time k4⟩
theorem stops_f : Fwd (sliceS stopS) (fun l _ => eStops l) := fs_fwd (e := fun x => ix2 (I6 x.sat) (I6 x.load)) (⟨0, 0⟩ : StopD) stop_f
theorem ints_f : Fwd (sliceS intS) (fun l _ => eInts l) := fs_fwd (e := fun x _ => I6 x) (0 : Int) int_f
structure PlanWf (p : PlanD) : Prop where
 trucks : ∀ t ∈ p.trucks, ∀ s ∈ t, StopWf s
 bikes : ∀ b ∈ p.bikes, BikeWf b
theorem plan_f {p : PlanD} {cs : List Value} (h : planS.rep w F p cs) : Con0L F w (ePlan p) cs := by
 obtain ⟨t, b, rfl, h1, h2⟩ := h
 have k1 := fs (e := fun l _ => eStops l) [] stops_f h1
 have k2 := fs (e := fun x => ix2 (I6 x.sat) (eInts x.stops)) (⟨0, []⟩ : BikeD) bike_f h2
 exact ⟨_, _, rfl, k1, _, _, rfl, k2, rfl⟩
structure TmsWf (t : TimesD) : Prop where
 trucks : ∀ l ∈ t.trucks, ∀ v ∈ l, wf64 v
 bikes : ∀ r ∈ t.bikes, RideWf r
theorem times_f {t : TimesD} {cs : List Value} (h : timesS.rep w F t cs) : Con0L F w (eTimes t) cs := by
 obtain ⟨a, b, rfl, h1, h2⟩ := h
 have k1 := fs (e := fun l _ => eInts l) [] ints_f h1
 have k2 := fs (e := fun x => ix3 (I6 x.out) (eInts x.starts) (I6 x.back)) (⟨0, [], 0⟩ : RideD) ride_f h2
 exact ⟨_, _, rfl, k1, _, _, rfl, k2, rfl⟩
end
end Go.Proofs.Ytafhjfkdlmijdaa.Ab
namespace Go.Proofs.Ytafhjfkdlmijdaa.Ab
open Go.RowKit
abbrev eBytes (l : List Int) : AV := .sl l.length 1 (fun i _ => .int .u8 (l.getD i 0))
def lsN (x : SmallD) (i : Nat) : LSat := x.sats.getD i ⟨0, 0⟩
def lwN (x : SmallD) (i : Nat) : LWho := x.custs.getD i ⟨0, 0, 0, 0⟩
def eSmall (x : SmallD) : List AV := [.int .u8 x.fin, .int .u8 x.trucks, .int .u8 x.troom, .int .u8 x.bikes, .int .u8 x.broom, .sl x.sats.length 2 (fun i => ix2 (.int .u8 (lsN x i).room) (.int .u8 (lsN x i).hold)),
 .sl x.custs.length 4 (fun i => ix4 (.int .u8 (lwN x i).load) (.int .u8 (lwN x i).opn) (.int .u8 (lwN x i).wide) (.int .u8 (lwN x i).stay)), eBytes x.cost, eBytes x.time, .bool x.tight, .bool x.loose]
def eWish (x : WishD) : List AV := [eBytes x.sats, eBytes x.order, eBytes x.cuts]
def B8 (l : List Int) : Prop := ∀ v ∈ l, 0 ≤ v ∧ v ≤ 255
structure SmallK (x : SmallD) : Prop where
 wf : SmallWf x
 cost : B8 x.cost
 time : B8 x.time
structure WishK (x : WishD) : Prop where
 sats : B8 x.sats
 order : B8 x.order
 cuts : B8 x.cuts
section
variable {w : World} {F : Nat → Prop}
theorem lsat_f : Fwd lsatS (fun x => ix2 (.int .u8 x.room) (.int .u8 x.hold)) := by
 rintro w F x cs ⟨rfl, -⟩ j hj
 have hj : j < 2 := hj
 match j, hj with
 | 0, _ => exact ⟨_, rfl, rfl⟩
 | 1, _ => exact ⟨_, rfl, rfl⟩
theorem lsat_b : Bwd lsatS (fun x => ix2 (.int .u8 x.room) (.int .u8 x.hold)) (fun x => wf8 x.room ∧ wf8 x.hold) := by
 intro w F x cs hl h ho
 obtain ⟨u, v, rfl, h1, h2⟩ := two_b hl h
 exact ⟨by rw [show u = .int .u8 x.room from h1, show v = .int .u8 x.hold from h2], ho⟩
theorem lwho_f : Fwd lwhoS (fun x => ix4 (.int .u8 x.load) (.int .u8 x.opn) (.int .u8 x.wide) (.int .u8 x.stay)) := by
 rintro w F x cs ⟨rfl, -⟩ j hj
 have hj : j < 4 := hj
 match j, hj with
 | 0, _ => exact ⟨_, rfl, rfl⟩
 | 1, _ => exact ⟨_, rfl, rfl⟩
 | 2, _ => exact ⟨_, rfl, rfl⟩
 | 3, _ => exact ⟨_, rfl, rfl⟩
theorem lwho_b : Bwd lwhoS (fun x => ix4 (.int .u8 x.load) (.int .u8 x.opn) (.int .u8 x.wide) (.int .u8 x.stay)) (fun x => wf8 x.load ∧ wf8 x.opn ∧ wf8 x.wide ∧ wf8 x.stay) := by
 intro w F x cs hl h ho
 match cs, hl with
 | [a, b, c, d], _ =>
  obtain ⟨a', h1, h2⟩ := h 0 (by decide)
  obtain ⟨b', h3, h4⟩ := h 1 (by decide)
  obtain ⟨c', h5, h6⟩ := h 2 (by decide)
  obtain ⟨d', h7, h8⟩ := h 3 (by decide)
  cases h1; cases h3; cases h5; cases h7
  exact ⟨by rw [show a = .int .u8 x.load from h2, show b = .int .u8 x.opn from h4, show c = .int .u8 x.wide from h6, show d = .int .u8 x.stay from h8], ho⟩
theorem bytes_f {l : List Int} {v : Value} (h : bytesS.rep w F l [v]) : Con0 F w (eBytes l) v := fs (e := fun x _ => .int .u8 x) (0 : Int) u8_f h
theorem bytes_b {l : List Int} {v : Value} (h : Con0 F w (eBytes l) v) (ho : B8 l) : bytesS.rep w F l [v] := bs (e := fun (x : Int) _ => .int .u8 x) (0 : Int) u8_b h ho
theorem small_f {x : SmallD} {cs : List Value} (h : smallS.rep w F x cs) : Con0L F w (eSmall x) cs := by
 obtain ⟨s, c, co, ti, rfl, -, k1, k2, k3, k4⟩ := h
 have e1 := fs (e := fun (x : LSat) => ix2 (.int .u8 x.room) (.int .u8 x.hold)) (⟨0, 0⟩ : LSat) lsat_f k1
 have e2 := fs (e := fun (x : LWho) => ix4 (.int .u8 x.load) (.int .u8 x.opn) (.int .u8 x.wide) (.int .u8 x.stay)) (⟨0, 0, 0, 0⟩ : LWho) lwho_f k2
 exact ⟨_, _, rfl, rfl, _, _, rfl, rfl, _, _, rfl, rfl, _, _, rfl, rfl, _, _, rfl, rfl, _, _, rfl, e1, _, _, rfl, e2, _, _, rfl, bytes_f k3, _, _, rfl, bytes_f k4, _, _, rfl, rfl, _, _, rfl, rfl, rfl⟩
theorem small_b {x : SmallD} {cs : List Value} (h : Con0L F w (eSmall x) cs) (ok : SmallK x) : smallS.rep w F x cs := by
 obtain ⟨_, _, rfl, rfl, _, _, rfl, rfl, _, _, rfl, rfl, _, _, rfl, rfl, _, _, rfl, rfl, s, _, rfl, k1, c, _, rfl, k2, co, _, rfl, k3, ti, _, rfl, k4, _, _, rfl, rfl, _, _, rfl, rfl, rfl⟩ := h
 have e1 := bs (h0 := by decide) (e := fun (x : LSat) => ix2 (.int .u8 x.room) (.int .u8 x.hold)) (⟨0, 0⟩ : LSat) lsat_b k1 ok.wf.sats
 have e2 := bs (h0 := by decide) (e := fun (x : LWho) => ix4 (.int .u8 x.load) (.int .u8 x.opn) (.int .u8 x.wide) (.int .u8 x.stay)) (⟨0, 0, 0, 0⟩ : LWho) lwho_b k2 ok.wf.custs
 exact ⟨s, c, co, ti, rfl, ⟨ok.wf.fin, ok.wf.trucks, ok.wf.troom, ok.wf.bikes, ok.wf.broom⟩, e1, e2, bytes_b k3 ok.cost, bytes_b k4 ok.time⟩
theorem bytes_wf {l : List Int} {cs : List Value} (h : bytesS.rep w F l cs) : B8 l := by
 obtain ⟨_, _, _, _, -, -, -, -, -, -, hw⟩ := bytes_open h
 exact hw
theorem small_k {x : SmallD} {cs : List Value} (h : smallS.rep w F x cs) : SmallK x := by
 have := small_wf h
 obtain ⟨s, c, co, ti, rfl, -, k1, k2, k3, k4⟩ := h
 exact ⟨this, bytes_wf k3, bytes_wf k4⟩
theorem wish_f {x : WishD} {cs : List Value} (h : wishS.rep w F x cs) : Con0L F w (eWish x) cs := by
 obtain ⟨a, b, c, rfl, k1, k2, k3⟩ := h
 exact ⟨_, _, rfl, bytes_f k1, _, _, rfl, bytes_f k2, _, _, rfl, bytes_f k3, rfl⟩
theorem wish_b {x : WishD} {cs : List Value} (h : Con0L F w (eWish x) cs) (ok : WishK x) : wishS.rep w F x cs := by
 obtain ⟨a, _, rfl, k1, b, _, rfl, k2, c, _, rfl, k3, rfl⟩ := h
 exact ⟨a, b, c, rfl, bytes_b k1 ok.sats, bytes_b k2 ok.order, bytes_b k3 ok.cuts⟩
theorem wish_k {x : WishD} {cs : List Value} (h : wishS.rep w F x cs) : WishK x := by
 obtain ⟨a, b, c, rfl, k1, k2, k3⟩ := h
 exact ⟨bytes_wf k1, bytes_wf k2, bytes_wf k3⟩
end
structure YOk (y : InstD) : Prop where
 chk : check y = 0
 k : InstK y
 ns : 1 ≤ y.sats.length ∧ y.sats.length ≤ 3
 nc : 1 ≤ y.custs.length ∧ y.custs.length ≤ 6
 ld : ∀ c ∈ y.custs, 1 ≤ c.load ∧ c.load ≤ 1000
 troom : 1 ≤ y.troom
theorem instK_of {x : InstD} (g : Good x) (h : InstWf x) : InstK x :=
 ⟨h.1, h.2.1, h.2.2.1, fun r hr => (h.2.2.2.1 r hr).2, fun r hr => (h.2.2.2.2 r hr).2, ⟨g.costL, g.costR⟩, ⟨g.timeL, g.timeR⟩⟩
theorem make_y {s : SmallD} (h : SmallK s) : YOk (makeD s) :=
 ⟨make_check h.wf, instK_of (good_of (make_check h.wf)) (make_wf h.wf), satsOf_len s, custsOf_len s, fun c hc => (cust_may h.wf c hc).1, make_troom h.wf⟩
section
variable {f : FuncId}
theorem pcall_mk {P : Program} {args : List RV} {post : RV → Prop} (hE : Enters P f) (h : ∀ (rho : Nat → Prop) (w : World) (vs : List Value), Con0RL rho w args vs →
  Calls P f vs.toArray w fun e w' => ∃ r v, e = .returned v ∧ post r ∧ Con0T (fun b => w.heap.size ≤ b ∧ b < w'.heap.size) w' r v ∧ Below w.heap.size w w') : PCall P f args post :=
 ⟨hE, fun rho w vs _ hc => (h rho w vs hc).mono fun e w' ⟨r, v, h1, h2, h3, h4⟩ => ⟨r, v, _, h1, h2, h3, fun b hb => .inr hb, h4⟩⟩
end
theorem awake18_p : PCall Try.prog 37 [] (fun r => r = .c (.bool true)) :=
 pcall_mk ⟨_, _, Try.func37, by kernel_rfl, rfl⟩ fun rho w vs hc => by
  cases hc
  refine (awake18_c w).mono ?_
  rintro e w' ⟨rfl, hb⟩
  exact ⟨_, _, rfl, rfl, rfl, hb⟩
theorem make_p {s : SmallD} (h : SmallK s) : PCall Try.prog 16 [.agg (eSmall s)] (fun r => r = .agg (eInst (makeD s))) :=
 pcall_mk ⟨_, _, Try.func16, by kernel_rfl, rfl⟩ fun rho w vs hc => by
  obtain ⟨_, _, rfl, ⟨cs, rfl, h1⟩, rfl⟩ := hc
  refine (make_c (small_b h1 h)).mono ?_
  rintro e w' ⟨ds, rfl, hi, hb⟩
  have k := (make_y h).k
  exact ⟨_, _, rfl, rfl, ⟨_, rfl, inst_f (instS.lt (hi.rep (make_wf h.wf))) k.sqc k.sqt⟩, hb⟩
theorem plan_res {p : PlanD} {w' : World} {n : Nat} {tv bv : Value} {ts vs : List Value} {TT TS TB TI : Nat} (hT : TOwn TT TS w' n tv p.trucks ts) (hB : BOwn TB TI w' n bv p.bikes vs) (h : PlanWf p) : Con0T (fun b => n ≤ b ∧ b < w'.heap.size) w' (.agg (ePlan p)) (.agg #[tv, bv]) :=
 ⟨[tv, bv], rfl, plan_f (planS.lt ⟨tv, bv, rfl, hT.rep h.trucks, hB.rep h.bikes⟩)⟩
theorem few_wf {p : PlanD} (h : PlanFew p) : PlanWf p :=
 ⟨fun t ht s hs => by have := (h.ts t ht).2 s hs; unfold StopWf wf64; omega, fun b hb => by
  have := h.bs b hb
  exact ⟨by unfold wf64; omega, fun c hc => by have := this.2.2 c hc; unfold wf64; omega⟩⟩
theorem draft_p {y : InstD} {wi : WishD} (h : YOk y) (hw : WishK wi) : PCall Try.prog 31 [.agg (eInst y), .agg (eWish wi)] (fun r => r = .agg (ePlan (draftD y wi))) :=
 pcall_mk ⟨_, _, Try.func31, by kernel_rfl, rfl⟩ fun rho w vs hc => by
  obtain ⟨_, _, rfl, ⟨cs, rfl, h1⟩, _, _, rfl, ⟨ds, rfl, h2⟩, rfl⟩ := hc
  have gd := good_of h.chk
  refine (draft_c (inst_b h1 h.k) (wish_b h2 hw) h.ns h.nc h.ld ⟨h.troom, gd.troom.2⟩ gd.broom).mono ?_
  rintro e w' ⟨tv, bv, ts, vs, rfl, hT, hB, hb⟩
  exact ⟨_, _, rfl, rfl, plan_res hT hB (few_wf (draft_small wi h.ns h.nc h.ld h.troom)), hb⟩
end Go.Proofs.Ytafhjfkdlmijdaa.Ab
