/- Texts of the proof, joined: AX, Enc, Ad, Pc1. -/
import Derived.Test.YtafhjfkdlmijdaaQ4
import Derived.Test.YtafhjfkdlmijdaaAwake18
import Derived.Test.YtafhjfkdlmijdaaP8
set_option linter.all false
set_option maxRecDepth 100000
set_option maxHeartbeats 6400000
namespace Go.Proofs.Ytafhjfkdlmijdaa.Ab
open Go.RowKit
def dep : Nat → CK → Bool
 | _, .i _ => true
 | 0, .s .. => false
 | d + 1, .s _ ck _ => ck.all (dep d)
def Rd : Nat → CK → AV → Prop
 | _, .i k, x => ∃ n, x = .int k n ∧ inK k n
 | 0, .s .., _ => False
 | d + 1, .s _ ck b, x => ∃ n f, x = .sl n ck.length f ∧ n ≤ b ∧ ∀ i, i < n → ∀ (j : Nat) (q : CK), ck[j]? = some q → Rd d q (f i j)
def RdS (d : Nat) (ck : List CK) (n : Nat) (x : AV) : Prop := ∃ f, x = .sl n ck.length f ∧ ∀ i, i < n → ∀ (j : Nat) (q : CK), ck[j]? = some q → Rd d q (f i j)
def RdC (d : Nat) : AV → AV → Prop
 | .ws _ ck n, x => RdS d ck n x
 | y, x => x = y
def RdL (d : Nat) : List AV → List AV → Prop
 | [], l => l = []
 | a :: r, l => ∃ b m, l = b :: m ∧ RdC d a b ∧ RdL d r m
def okW (d : Nat) : List AV → Bool
 | [] => true
 | .ws _ ck _ :: l => ck.all (dep d) && okW d l
 | .int .. :: l => okW d l
 | .bool _ :: l => okW d l
 | .nils :: l => okW d l
 | _ => false
section
variable {P : Program} {ty : Ty} {E : Env} {M : Mp} {H : List Root} {w : World} {rho : Nat → Prop} {E0 : Nat}
theorem wfb7 {d : Nat} (hT : dy7 E0 M H w) (hr : ∀ b q, M.tau b = some q → rho b) (ih : ∀ (q : CK) (v : Value), dep d q = true → nw7 M w q v → ∃ x, Rd d q x ∧ df7 rho w x v) {t : TypeId} {ck : List CK} {n : Nat} {v : Value} (hd : ck.all (dep d) = true) (h : WSl M w t ck n v) : ∃ x, RdS d ck n x ∧ df7 rho w x v := by
 obtain ⟨a, c, rfl, h1, h2, h3, h4⟩ := h
 cases a with
 | none =>
  have := h3 rfl
  obtain rfl : n = 0 := by omega
  exact ⟨_, ⟨fun _ _ => .junk, rfl, fun i hi => by omega⟩, none, 0, 0, c, rfl, h1, h2, fun h => by omega, fun i hi => by omega⟩
 | some ad =>
  obtain ⟨b, cur, rfl, g1, g2, g3⟩ := h4 _ rfl
  obtain ⟨cur2, c1, c2, c3, c4⟩ := hT.cells b t ck g1
  rw [g2] at c1
  cases c1
  have key : ∀ i j, i < n → j < ck.length → ∃ x u, (∀ q, ck[j]? = some q → Rd d q x) ∧ w.cell? ⟨b, 0 + i * ck.length + j, none⟩ = some u ∧ df7 rho w x u := fun i j hi hj => by
   have hlt : i * ck.length + j < cur.size := by
    have : (i + 1) * ck.length ≤ c * ck.length := Nat.mul_le_mul_right _ (by omega)
    rw [Nat.add_mul] at this; omega
   obtain ⟨u, u1, u2⟩ := c4 (i * ck.length + j) hlt
   have hq := List.getElem?_eq_getElem hj
   have hm : (i * ck.length + j) % ck.length = j := by rw [Nat.add_comm, Nat.add_mul_mod_self_right, Nat.mod_eq_of_lt hj]
   obtain ⟨x, x1, x2⟩ := ih _ u (List.all_eq_true.1 hd _ (List.getElem_mem hj)) (u2 _ (by rw [hm]; exact hq))
   exact ⟨x, u, fun q hq2 => by rw [hq] at hq2; cases hq2; exact x1, by simp [World.cell?, g2, u1], x2⟩
  refine ⟨_, ⟨fun i j => if h : i < n ∧ j < ck.length then (key i j h.1 h.2).choose else .junk, rfl, fun i hi j q hq => ?_⟩, some ⟨b, 0, none⟩, b, 0, c, rfl, h1, h2, fun _ => ⟨rfl, hr _ _ g1⟩, fun i hi j hj => ?_⟩
  ·have hj := (List.getElem?_eq_some_iff.1 hq).1
   simp only [dif_pos (And.intro hi hj)]
   exact (key i j hi hj).choose_spec.choose_spec.1 q hq
  ·simp only [dif_pos (And.intro hi hj)]
   exact ⟨_, (key i j hi hj).choose_spec.choose_spec.2.1, (key i j hi hj).choose_spec.choose_spec.2.2⟩
theorem hxb7 (hT : dy7 E0 M H w) (hr : ∀ b q, M.tau b = some q → rho b) : ∀ (d : Nat) (q : CK) (v : Value), dep d q = true → nw7 M w q v → ∃ x, Rd d q x ∧ df7 rho w x v
 | d, .i k, v, _, h => by
  obtain ⟨n, rfl, h⟩ := h
  cases d <;> exact ⟨.int k n, ⟨n, rfl, h⟩, rfl⟩
 | 0, .s .., _, h, _ => by simp [dep] at h
 | d + 1, .s t ck b, v, hd, h => by
  obtain ⟨n, hn, h⟩ := h
  obtain ⟨x, ⟨f, rfl, h1⟩, h2⟩ := wfb7 hT hr (fun q v => hxb7 hT hr d q v) (by simpa [dep] using hd) h
  exact ⟨_, ⟨n, f, rfl, hn, h1⟩, h2⟩
theorem eab7 {d : Nat} (hT : dy7 E0 M H w) (hr : ∀ b q, M.tau b = some q → rho b) : ∀ {l : List AV} {vs : List Value}, okW d l = true → wf7 M H w l vs → ∃ l', RdL d l l' ∧ se7 rho w l' vs
 | [], _, _, h => by cases h; exact ⟨[], rfl, rfl⟩
 | .ws t ck n :: l, _, ho, ⟨v, r, e, c1, c2⟩ => by
  subst e
  simp only [okW, Bool.and_eq_true] at ho
  obtain ⟨x, x1, x2⟩ := wfb7 hT hr (fun q v => hxb7 hT hr d q v) ho.1 c1
  obtain ⟨l', l1, l2⟩ := eab7 hT hr ho.2 c2
  exact ⟨x :: l', ⟨_, _, rfl, x1, l1⟩, _, _, rfl, x2, l2⟩
 | .int k n :: l, _, ho, ⟨v, r, e, c1, c2⟩ => by
  subst e
  obtain ⟨l', l1, l2⟩ := eab7 (l := l) hT hr ho c2
  exact ⟨_ :: l', ⟨_, _, rfl, rfl, l1⟩, _, _, rfl, c1, l2⟩
 | .bool b :: l, _, ho, ⟨v, r, e, c1, c2⟩ => by
  subst e
  obtain ⟨l', l1, l2⟩ := eab7 (l := l) hT hr ho c2
  exact ⟨_ :: l', ⟨_, _, rfl, rfl, l1⟩, _, _, rfl, c1, l2⟩
 | .nils :: l, _, ho, ⟨v, r, e, c1, c2⟩ => by
  subst e
  obtain ⟨l', l1, l2⟩ := eab7 (l := l) hT hr ho c2
  exact ⟨_ :: l', ⟨_, _, rfl, rfl, l1⟩, _, _, rfl, c1, l2⟩
def xac7 (d : Nat) (post : RV → Prop) (r : RV) (_ : List Root) : Prop := ∃ l, r = .agg l ∧ okW d l = true ∧ ∀ l', RdL d l l' → ∃ l2, yxb7 l' l2 ∧ post (.agg l2)
end
abbrev I6 (n : Int) : AV := .int .i64 n
def ix2 (a b : AV) : Nat → AV
 | 0 => a
 | _ => b
def ix3 (a b c : AV) : Nat → AV
 | 0 => a
 | 1 => b
 | _ => c
def ix4 (a b c d : AV) : Nat → AV
 | 0 => a
 | 1 => b
 | 2 => c
 | _ => d
abbrev di7 (l : List Int) : AV := .sl l.length 1 (fun i _ => I6 (l.getD i 0))
def icc7 (x : ba7) (i : Nat) : xhb7 := x.sats.getD i ⟨0, 0⟩
def fzb7 (x : ba7) (i : Nat) : yn7 := x.custs.getD i ⟨0, 0, 0, 0⟩
abbrev rac7 (x : ba7) : AV := .sl x.sats.length 2 (fun i => ix2 (I6 (icc7 x i).room) (I6 (icc7 x i).hold))
abbrev myb7 (x : ba7) : AV := .sl x.custs.length 4 (fun i => ix4 (I6 (fzb7 x i).load) (I6 (fzb7 x i).opn) (I6 (fzb7 x i).cls) (I6 (fzb7 x i).stay))
abbrev gac7 (n : Nat) (f : Nat → Nat → Int) : AV := .sl n 1 (fun i _ => .sl n 1 (fun j _ => I6 (f i j)))
def ucc7 (x : ba7) (i j : Nat) : Int := (x.cost.getD i []).getD j 0
def ilb7 (x : ba7) (i j : Nat) : Int := (x.time.getD i []).getD j 0
theorem etb7 (x : ba7) (a b : Int) : ilb7 x a.toNat b.toNat = qa7 x a b := rfl
theorem uob7 (x : ba7) (a : Int) : ilb7 x a.toNat 0 = qa7 x a 0 := rfl
theorem brb7 (x : ba7) (b : Int) : ilb7 x 0 b.toNat = qa7 x 0 b := rfl
theorem xqb7 (x : ba7) : ilb7 x 0 0 = qa7 x 0 0 := rfl
def tf7 (x : ba7) : List AV := [I6 x.fin, I6 x.tmany, I6 x.troom, I6 x.bmany, I6 x.broom, rac7 x, myb7 x, gac7 (nodes x) (ucc7 x), gac7 (nodes x) (ilb7 x)]
def mf7 (p : pa7) (i : Nat) : List da7 := p.trucks.getD i []
def jh7 (p : pa7) (i : Nat) : oa7 := p.bikes.getD i ⟨0, []⟩
def stN (l : List da7) (i : Nat) : da7 := l.getD i ⟨0, 0⟩
abbrev xw7 (l : List da7) : AV := .sl l.length 2 (fun i => ix2 (I6 (stN l i).sat) (I6 (stN l i).load))
def cf7 (p : pa7) : List AV := [.sl p.trucks.length 1 (fun i _ => xw7 (mf7 p i)), .sl p.bikes.length 2 (fun i => ix2 (I6 (jh7 p i).sat) (di7 (jh7 p i).stops))]
def jo7 (t : ob7) (i : Nat) : List Int := t.trucks.getD i []
def cl7 (t : ob7) (i : Nat) : sc7 := t.bikes.getD i ⟨0, [], 0⟩
def ic7 (t : ob7) : List AV := [.sl t.trucks.length 1 (fun i _ => di7 (jo7 t i)), .sl t.bikes.length 3 (fun i => ix3 (I6 (cl7 t i).out) (di7 (cl7 t i).starts) (I6 (cl7 t i).back))]
theorem jnb7 (x : ba7) (a : Int) : (icc7 x a.toNat).hold = kd7 x a := rfl
theorem gqb7 (x : ba7) (a : Int) : fzb7 x a.toNat = rb7 x a := rfl
theorem kbc7 (p : Prop) [Decidable p] : (decide p = true) = p := by simp
theorem sbc7 (p : Prop) [Decidable p] : (decide p = false) = ¬ p := by simp
attribute [go_sem ↓ low] hdc7
attribute [go_sem ↓] fcc7 hec7 wvb7 kcc7 bzb7 ubc7 dxb7 ctb7 kzb7 acc7 wdc7 iec7 ybc7 mwb7 udc7
attribute [go_sem] tac7 kac7 ecc7 pac7 jbc7 fac7 xcc7 yzb7 appW zW ckE oac7 rwb7 tbc7 ncc7 ktb7 ozb7 pbc7 List.drop_nil Option.toList_none Option.toList_some obc7 pvb7 vdc7 ccc7 zib7 Option.map_some Option.map_none List.drop_zero List.drop_succ_cons ycc7 renG heb7 kdb7 kq7 lub7 cwb7 hsb7 dpb7 pwb7 qob7 qxb7 kec7 sxb7 xub7 wzb7 kxb7 dub7 xsb7 qtb7 yac7 rcc7 vbc7 occ7 scc7 vac7 ajb7 gvb7 lqb7 pos okI List.cons_append List.replicate_succ List.replicate_zero lpK dcc7 Int.toNat_zero etb7 uob7 brb7 xqb7 jnb7 gqb7 kbc7 sbc7 Bool.and_eq_true Bool.not_eq_true' and_imp setT fxT gets rn7 yv7 tzb7 ffb7 mib7 AV.scp List.take_succ_cons List.take_zero List.take_nil fbc7 jyb7 iwb7 jwb7 uyb7 mac7 stb7 ztb7 jcc7 tyb7 hyb7 pcc7 cxb7 sac7 t_n t_e t_r b_n b_e b_r c_t r_r r_n isV guardOf dhb7 pgs rgs rds opV zbc7 AS.rd lk eub7 mbc7 dbc7 gbc7 uac7 xc7 gcb7 nac7 vld at2 ieb7 ea7 tab Row.get Row.len Row.isBox nth ubb7 syb7 dyb7 ra7 lac7 unV unb7 mmV zg7 amb7 cac7 bwb7 sy7 dlb7 Row.put pat jjb7 bb7 bac7 chunk takeN wib7 rep wq7 ut7 yo7 zqb7 zOk zeros jvb7 nh7 Row.app Row.drop bh7 bqb7 zr7 frz frzH Root.mark ws7 zwb7 one nbc7 ywb7 okT okR iob7 czb7 wwb7 ls7 dl7 ldb7 xib7 rzb7 avb7 opD qzb7 ix2 ix3 ix4 Int.toNat_natCast tyM bcc7 njL AV.nj kN inK wbc7 jac7 if_true if_false true_and and_true forall_const implies_true false_implies imp_self List.length_cons List.length_nil List.map_cons List.map_nil List.nil_append List.cons_append Bool.false_eq_true Bool.true_and ne_eq not_false_eq_true decide_true decide_false Decidable.not_not Nat.add_zero Nat.zero_add Nat.zero_mul
def Fwd {α : Type} (S : Shape α) (e : α → Nat → AV) : Prop := ∀ {w : World} {F : Nat → Prop} {x : α} {cs : List Value}, S.rep w F x cs → ∀ j, j < S.sz → ∃ u, cs[j]? = some u ∧ df7 F w (e x j) u
def Bwd {α : Type} (S : Shape α) (e : α → Nat → AV) (ok : α → Prop) : Prop := ∀ {w : World} {F : Nat → Prop} {x : α} {cs : List Value}, cs.length = S.sz → (∀ j, j < S.sz → ∃ u, cs[j]? = some u ∧ df7 F w (e x j) u) → ok x → S.rep w F x cs
theorem ns7 {α : Type} {l : List α} {i : Nat} (h : i < l.length) (z : α) : l.getD i z = l[i] := by
 rw [List.getD_eq_getElem?_getD, List.getElem?_eq_getElem h]; rfl
section
variable {α : Type} {S : Shape α} {h0 : 0 < S.sz} {e : α → Nat → AV} {ok : α → Prop} {w : World} {F : Nat → Prop}
theorem fs (z : α) (hS : Fwd S e) {l : List α} {v : Value} (h : (ia7 S h0).rep w F l [v]) : df7 F w (.sl l.length S.sz (fun i => e (l.getD i z))) v := by
 obtain ⟨a, b, off, c, e1, h1, h2, h3, h4⟩ := h
 cases e1
 refine ⟨a, b, off, c, rfl, h1, h2, h3, fun i hi j hj => ?_⟩
 obtain ⟨es, k1, k2⟩ := h4 i hi
 obtain ⟨u, k3, k4⟩ := hS k1 j hj
 show ∃ u, _ = some u ∧ df7 F w (e (l.getD i z) j) u
 rw [ns7 hi]
 exact ⟨u, by rw [k2 j hj, k3], k4⟩
theorem icb7 : ∀ (n : Nat) {p : Nat → Value → Prop}, (∀ j, j < n → ∃ u, p j u) → ∃ es : List Value, es.length = n ∧ ∀ j u, es[j]? = some u → p j u
 | 0, _, _ => ⟨[], rfl, fun _ _ h => by simp at h⟩
 | n + 1, p, h => by
  obtain ⟨u, hu⟩ := h 0 (Nat.succ_pos _)
  obtain ⟨es, h1, h2⟩ := icb7 n (p := fun j => p (j + 1)) (fun j hj => h (j + 1) (by omega))
  refine ⟨u :: es, by simp [h1], fun j v hj => ?_⟩
  cases j with
  | zero => simp at hj; subst hj; exact hu
  | succ j => exact h2 j v (by simpa using hj)
theorem bs (z : α) (hS : Bwd S e ok) {l : List α} {v : Value} (h : df7 F w (.sl l.length S.sz (fun i => e (l.getD i z))) v) (ho : ∀ x ∈ l, ok x) : (ia7 S h0).rep w F l [v] := by
 obtain ⟨a, b, off, c, rfl, h1, h2, h3, h4⟩ := h
 refine ⟨a, b, off, c, rfl, h1, h2, h3, fun i hi => ?_⟩
 obtain ⟨es, k1, k2⟩ := icb7 S.sz (h4 i hi)
 have k3 : ∀ j, j < S.sz → w.cell? ⟨b, off + i * S.sz + j, none⟩ = es[j]? ∧ ∃ u, es[j]? = some u ∧ df7 F w (e l[i] j) u := fun j hj => by
  have hg : es[j]? = some es[j] := List.getElem?_eq_getElem (by omega)
  obtain ⟨k4, k5⟩ := k2 j _ hg
  have k5 : df7 F w (e (l.getD i z) j) es[j] := k5
  rw [ns7 hi] at k5
  exact ⟨by rw [k4, hg], _, hg, k5⟩
 exact ⟨es, hS k1 (fun j hj => (k3 j hj).2) (ho _ (List.getElem_mem hi)), fun j hj => (k3 j hj).1⟩
theorem lxb7 (z : α) (hS : Fwd S e) : Fwd (ia7 S h0) (fun l _ => .sl l.length S.sz (fun i => e (l.getD i z))) := by
 intro w F x cs h j hj
 have hl := (ia7 S h0).len h
 match cs, hl with
 | [v], _ =>
  have hj : j < 1 := hj
  obtain rfl : j = 0 := by omega
  exact ⟨v, rfl, fs z hS h⟩
theorem csb7 (z : α) (hS : Bwd S e ok) : Bwd (ia7 S h0) (fun l _ => .sl l.length S.sz (fun i => e (l.getD i z))) (fun l => ∀ x ∈ l, ok x) := by
 intro w F x cs hl h ho
 match cs, hl with
 | [v], _ =>
  obtain ⟨u, h1, h2⟩ := h 0 Nat.one_pos
  cases h1
  exact bs z hS h2 ho
end
theorem nwb7 : Fwd lg7 (fun x _ => I6 x) := by
 rintro w F x cs ⟨rfl, -⟩ j hj
 have hj : j < 1 := hj
 obtain rfl : j = 0 := by omega
 exact ⟨_, rfl, rfl⟩
theorem iqb7 : Bwd lg7 (fun x _ => I6 x) ua7 := by
 intro w F x cs hl h ho
 obtain ⟨u, h1, h2⟩ := h 0 Nat.one_pos
 match cs, hl with
 | [v], _ => cases h1; exact ⟨by rw [show u = .int .i64 x from h2], ho⟩
theorem xdc7 : Fwd u8S (fun x _ => .int .u8 x) := by
 rintro w F x cs ⟨rfl, -⟩ j hj
 have hj : j < 1 := hj
 obtain rfl : j = 0 := by omega
 exact ⟨_, rfl, rfl⟩
theorem mdc7 : Bwd u8S (fun x _ => .int .u8 x) (fun x => 0 ≤ x ∧ x ≤ 255) := by
 intro w F x cs hl h ho
 obtain ⟨u, h1, h2⟩ := h 0 Nat.one_pos
 match cs, hl with
 | [v], _ => cases h1; exact ⟨by rw [show u = .int .u8 x from h2], ho⟩
theorem bbc7 : Fwd hzb7 (fun x => ix2 (I6 x.room) (I6 x.hold)) := by
 rintro w F x cs ⟨rfl, -⟩ j hj
 have hj : j < 2 := hj
 match j, hj with
 | 0, _ => exact ⟨_, rfl, rfl⟩
 | 1, _ => exact ⟨_, rfl, rfl⟩
theorem exb7 : Fwd vh7 (fun x => ix2 (I6 x.sat) (I6 x.load)) := by
 rintro w F x cs ⟨rfl, -⟩ j hj
 have hj : j < 2 := hj
 match j, hj with
 | 0, _ => exact ⟨_, rfl, rfl⟩
 | 1, _ => exact ⟨_, rfl, rfl⟩
theorem kwb7 : Fwd keb7 (fun x => ix4 (I6 x.load) (I6 x.opn) (I6 x.cls) (I6 x.stay)) := by
 rintro w F x cs ⟨rfl, -⟩ j hj
 have hj : j < 4 := hj
 match j, hj with
 | 0, _ => exact ⟨_, rfl, rfl⟩
 | 1, _ => exact ⟨_, rfl, rfl⟩
 | 2, _ => exact ⟨_, rfl, rfl⟩
 | 3, _ => exact ⟨_, rfl, rfl⟩
theorem pzb7 : Fwd ap7 (fun x => ix2 (I6 x.sat) (di7 x.stops)) := by
 rintro w F x cs ⟨v, rfl, -, h⟩ j hj
 have hj : j < 2 := hj
 match j, hj with
 | 0, _ => exact ⟨_, rfl, rfl⟩
 | 1, _ => exact ⟨_, rfl, fs 0 nwb7 h⟩
theorem vqb7 {a b : AV} {w : World} {F : Nat → Prop} {cs : List Value} (hl : cs.length = 2) (h : ∀ j, j < 2 → ∃ u, cs[j]? = some u ∧ df7 F w (ix2 a b j) u) : ∃ u v, cs = [u, v] ∧ df7 F w a u ∧ df7 F w b v := by
 match cs, hl with
 | [u, v], _ =>
  obtain ⟨u', h1, h2⟩ := h 0 (by decide)
  obtain ⟨v', h3, h4⟩ := h 1 (by decide)
  cases h1; cases h3
  exact ⟨_, _, rfl, h2, h4⟩
def kyb7 (x : xhb7) : Prop := ua7 x.room ∧ ua7 x.hold
def qg7 (x : da7) : Prop := ua7 x.sat ∧ ua7 x.load
def srb7 (x : yn7) : Prop := ua7 x.load ∧ ua7 x.opn ∧ ua7 x.cls ∧ ua7 x.stay
def trb7 (x : oa7) : Prop := ua7 x.sat ∧ ∀ c ∈ x.stops, ua7 c
def wjb7 (x : sc7) : Prop := ua7 x.out ∧ ua7 x.back ∧ ∀ c ∈ x.starts, ua7 c
theorem zac7 : Bwd hzb7 (fun x => ix2 (I6 x.room) (I6 x.hold)) kyb7 := by
 intro w F x cs hl h ho
 obtain ⟨u, v, rfl, h1, h2⟩ := vqb7 hl h
 exact ⟨by rw [show u = .int .i64 x.room from h1, show v = .int .i64 x.hold from h2], ho⟩
theorem hwb7 : Bwd vh7 (fun x => ix2 (I6 x.sat) (I6 x.load)) qg7 := by
 intro w F x cs hl h ho
 obtain ⟨u, v, rfl, h1, h2⟩ := vqb7 hl h
 exact ⟨by rw [show u = .int .i64 x.sat from h1, show v = .int .i64 x.load from h2], ho⟩
theorem tvb7 : Bwd keb7 (fun x => ix4 (I6 x.load) (I6 x.opn) (I6 x.cls) (I6 x.stay)) srb7 := by
 intro w F x cs hl h ho
 match cs, hl with
 | [a, b, c, d], _ =>
  obtain ⟨a', h1, h2⟩ := h 0 (by decide)
  obtain ⟨b', h3, h4⟩ := h 1 (by decide)
  obtain ⟨c', h5, h6⟩ := h 2 (by decide)
  obtain ⟨d', h7, h8⟩ := h 3 (by decide)
  cases h1; cases h3; cases h5; cases h7
  exact ⟨by rw [show a = .int .i64 x.load from h2, show b = .int .i64 x.opn from h4, show c = .int .i64 x.cls from h6, show d = .int .i64 x.stay from h8], ho⟩
theorem byb7 : Bwd ap7 (fun x => ix2 (I6 x.sat) (di7 x.stops)) trb7 := by
 intro w F x cs hl h ho
 obtain ⟨u, v, rfl, h1, h2⟩ := vqb7 hl h
 exact ⟨v, by rw [show u = .int .i64 x.sat from h1], ho.1, bs 0 iqb7 h2 ho.2⟩
theorem jxb7 : Bwd aw7 (fun x => ix3 (I6 x.out) (di7 x.starts) (I6 x.back)) wjb7 := by
 intro w F x cs hl h ho
 match cs, hl with
 | [a, b, c], _ =>
  obtain ⟨a', h1, h2⟩ := h 0 (by decide)
  obtain ⟨b', h3, h4⟩ := h 1 (by decide)
  obtain ⟨c', h5, h6⟩ := h 2 (by decide)
  cases h1; cases h3; cases h5
  exact ⟨b, by rw [show a = .int .i64 x.out from h2, show c = .int .i64 x.back from h6], ho.1, ho.2.1, bs 0 iqb7 h4 ho.2.2⟩
section
variable {w : World} {F : Nat → Prop}
def hvb7 (n : Nat) (l : List (List Int)) : Prop := l.length = n ∧ ∀ r ∈ l, r.length = n
theorem eyb7 {n : Nat} {l : List (List Int)} {v : Value} (hq : hvb7 n l) (h : ah7.rep w F l [v]) : df7 F w (gac7 n (fun i j => (l.getD i []).getD j 0)) v := by
 obtain ⟨a, b, off, c, e1, h1, h2, h3, h4⟩ := h
 cases e1
 refine ⟨a, b, off, c, by rw [hq.1], by rw [← hq.1]; exact h1, h2, by rw [← hq.1]; exact h3, fun i hi j hj => ?_⟩
 have hi' : i < l.length := by rw [hq.1]; exact hi
 obtain rfl : j = 0 := by omega
 obtain ⟨es, k1, k2⟩ := h4 i hi'
 have hl := (ia7 lg7).len k1
 match es, hl with
 | [u], _ =>
  refine ⟨u, by simpa [ia7] using k2 0 Nat.one_pos, ?_⟩
  have := fs 0 nwb7 k1
  rw [hq.2 _ (List.getElem_mem hi')] at this
  show df7 F w (.sl n 1 (fun j _ => I6 ((l.getD i []).getD j 0))) u
  rw [ns7 hi']
  exact this
theorem oxb7 {n : Nat} {l : List (List Int)} {v : Value} (hq : hvb7 n l) (hw : ∀ r ∈ l, ∀ x ∈ r, ua7 x) (h : df7 F w (gac7 n (fun i j => (l.getD i []).getD j 0)) v) : ah7.rep w F l [v] := by
 obtain ⟨a, b, off, c, rfl, h1, h2, h3, h4⟩ := h
 refine ⟨a, b, off, c, by rw [hq.1], by rw [hq.1]; exact h1, h2, by rw [hq.1]; exact h3, fun i hi => ?_⟩
 have hi' : i < n := by rw [← hq.1]; exact hi
 obtain ⟨u, k1, k2⟩ := h4 i hi' 0 Nat.one_pos
 have k2 : df7 F w (.sl n 1 (fun j _ => I6 ((l.getD i []).getD j 0))) u := k2
 rw [ns7 hi, ← hq.2 _ (List.getElem_mem hi)] at k2
 refine ⟨[u], bs 0 iqb7 k2 (hw _ (List.getElem_mem hi)), fun j hj => ?_⟩
 have hj : j < 1 := hj
 obtain rfl : j = 0 := by omega
 exact k1
structure ltb7 (x : ba7) : Prop where
 i5 : ua7 x.fin ∧ ua7 x.tmany ∧ ua7 x.troom ∧ ua7 x.bmany ∧ ua7 x.broom
 sats : ∀ s ∈ x.sats, kyb7 s
 custs : ∀ c ∈ x.custs, srb7 c
 cost : ∀ r ∈ x.cost, ∀ v ∈ r, ua7 v
 time : ∀ r ∈ x.time, ∀ v ∈ r, ua7 v
 sqc : hvb7 (nodes x) x.cost
 sqt : hvb7 (nodes x) x.time
theorem mvb7 {x : ba7} {cs : List Value} (h : gb7.rep w F x cs) (h1 : hvb7 (nodes x) x.cost) (h2 : hvb7 (nodes x) x.time) : se7 F w (tf7 x) cs := by
 obtain ⟨s, c, co, ti, rfl, -, k1, k2, k3, k4⟩ := h
 exact ⟨_, _, rfl, rfl, _, _, rfl, rfl, _, _, rfl, rfl, _, _, rfl, rfl, _, _, rfl, rfl, _, _, rfl, fs _ bbc7 k1, _, _, rfl, fs _ kwb7 k2, _, _, rfl, eyb7 h1 k3, _, _, rfl, eyb7 h2 k4, rfl⟩
theorem gnb7 {x : ba7} {cs : List Value} (h : se7 F w (tf7 x) cs) (ok : ltb7 x) : gb7.rep w F x cs := by
 obtain ⟨_, _, rfl, rfl, _, _, rfl, rfl, _, _, rfl, rfl, _, _, rfl, rfl, _, _, rfl, rfl, s, _, rfl, k1, c, _, rfl, k2, co, _, rfl, k3, ti, _, rfl, k4, rfl⟩ := h
 exact ⟨s, c, co, ti, rfl, ok.i5, bs _ zac7 k1 ok.sats, bs _ tvb7 k2 ok.custs, oxb7 ok.sqc ok.cost k3, oxb7 ok.sqt ok.time k4⟩
theorem iub7 : Fwd (ia7 vh7) (fun l _ => xw7 l) := lxb7 (e := fun x => ix2 (I6 x.sat) (I6 x.load)) (⟨0, 0⟩ : da7) exb7
theorem bvb7 : Bwd (ia7 vh7) (fun l _ => xw7 l) (fun l => ∀ s ∈ l, qg7 s) := csb7 (e := fun x => ix2 (I6 x.sat) (I6 x.load)) (⟨0, 0⟩ : da7) hwb7
theorem pxb7 : Bwd (ia7 lg7) (fun l _ => di7 l) (fun l => ∀ s ∈ l, ua7 s) := csb7 (e := fun x _ => I6 x) (0 : Int) iqb7
structure lgb7 (p : pa7) : Prop where
 trucks : ∀ t ∈ p.trucks, ∀ s ∈ t, qg7 s
 bikes : ∀ b ∈ p.bikes, trb7 b
theorem xxb7 {p : pa7} {cs : List Value} (h : uf7.rep w F p cs) : se7 F w (cf7 p) cs := by
 obtain ⟨t, b, rfl, h1, h2⟩ := h
 have k1 := fs (e := fun l _ => xw7 l) [] iub7 h1
 have k2 := fs (e := fun x => ix2 (I6 x.sat) (di7 x.stops)) (⟨0, []⟩ : oa7) pzb7 h2
 exact ⟨_, _, rfl, k1, _, _, rfl, k2, rfl⟩
theorem hjb7 {p : pa7} {cs : List Value} (h : se7 F w (cf7 p) cs) (ok : lgb7 p) : uf7.rep w F p cs := by
 obtain ⟨t, _, rfl, h1, b, _, rfl, h2, rfl⟩ := h
 exact ⟨t, b, rfl, bs (e := fun l _ => xw7 l) [] bvb7 h1 ok.trucks, bs (e := fun (x : oa7) => ix2 (I6 x.sat) (di7 x.stops)) (⟨0, []⟩ : oa7) byb7 h2 ok.bikes⟩
structure xeb7 (t : ob7) : Prop where
 trucks : ∀ l ∈ t.trucks, ∀ v ∈ l, ua7 v
 bikes : ∀ r ∈ t.bikes, wjb7 r
theorem zsb7 {t : ob7} {cs : List Value} (h : se7 F w (ic7 t) cs) (ok : xeb7 t) : oo7.rep w F t cs := by
 obtain ⟨a, _, rfl, h1, b, _, rfl, h2, rfl⟩ := h
 exact ⟨a, b, rfl, bs (e := fun l _ => di7 l) [] pxb7 h1 ok.trucks, bs (e := fun (x : sc7) => ix3 (I6 x.out) (di7 x.starts) (I6 x.back)) (⟨0, [], 0⟩ : sc7) jxb7 h2 ok.bikes⟩
end
abbrev fv7 (l : List Int) : AV := .sl l.length 1 (fun i _ => .int .u8 (l.getD i 0))
def lsN (x : tb7) (i : Nat) : lob7 := x.sats.getD i ⟨0, 0⟩
def lwN (x : tb7) (i : Nat) : zkb7 := x.custs.getD i ⟨0, 0, 0, 0⟩
def ay7 (x : tb7) : List AV := [.int .u8 x.fin, .int .u8 x.trucks, .int .u8 x.troom, .int .u8 x.bikes, .int .u8 x.broom, .sl x.sats.length 2 (fun i => ix2 (.int .u8 (lsN x i).room) (.int .u8 (lsN x i).hold)),
 .sl x.custs.length 4 (fun i => ix4 (.int .u8 (lwN x i).load) (.int .u8 (lwN x i).opn) (.int .u8 (lwN x i).wide) (.int .u8 (lwN x i).stay)), fv7 x.cost, fv7 x.time, .bool x.tight, .bool x.loose]
def oib7 (x : jf7) : List AV := [fv7 x.sats, fv7 x.order, fv7 x.cuts]
def B8 (l : List Int) : Prop := ∀ v ∈ l, 0 ≤ v ∧ v ≤ 255
structure SmallK (x : tb7) : Prop where
 wf : go7 x
 cost : B8 x.cost
 time : B8 x.time
structure jqb7 (x : jf7) : Prop where
 sats : B8 x.sats
 order : B8 x.order
 cuts : B8 x.cuts
section
variable {w : World} {F : Nat → Prop}
theorem mzb7 : Fwd ceb7 (fun x => ix2 (.int .u8 x.room) (.int .u8 x.hold)) := by
 rintro w F x cs ⟨rfl, -⟩ j hj
 have hj : j < 2 := hj
 match j, hj with
 | 0, _ => exact ⟨_, rfl, rfl⟩
 | 1, _ => exact ⟨_, rfl, rfl⟩
theorem ezb7 : Bwd ceb7 (fun x => ix2 (.int .u8 x.room) (.int .u8 x.hold)) (fun x => wf8 x.room ∧ wf8 x.hold) := by
 intro w F x cs hl h ho
 obtain ⟨u, v, rfl, h1, h2⟩ := vqb7 hl h
 exact ⟨by rw [show u = .int .u8 x.room from h1, show v = .int .u8 x.hold from h2], ho⟩
theorem gwb7 : Fwd iy7 (fun x => ix4 (.int .u8 x.load) (.int .u8 x.opn) (.int .u8 x.wide) (.int .u8 x.stay)) := by
 rintro w F x cs ⟨rfl, -⟩ j hj
 have hj : j < 4 := hj
 match j, hj with
 | 0, _ => exact ⟨_, rfl, rfl⟩
 | 1, _ => exact ⟨_, rfl, rfl⟩
 | 2, _ => exact ⟨_, rfl, rfl⟩
 | 3, _ => exact ⟨_, rfl, rfl⟩
theorem lzb7 : Bwd iy7 (fun x => ix4 (.int .u8 x.load) (.int .u8 x.opn) (.int .u8 x.wide) (.int .u8 x.stay)) (fun x => wf8 x.load ∧ wf8 x.opn ∧ wf8 x.wide ∧ wf8 x.stay) := by
 intro w F x cs hl h ho
 match cs, hl with
 | [a, b, c, d], _ =>
  obtain ⟨a', h1, h2⟩ := h 0 (by decide)
  obtain ⟨b', h3, h4⟩ := h 1 (by decide)
  obtain ⟨c', h5, h6⟩ := h 2 (by decide)
  obtain ⟨d', h7, h8⟩ := h 3 (by decide)
  cases h1; cases h3; cases h5; cases h7
  exact ⟨by rw [show a = .int .u8 x.load from h2, show b = .int .u8 x.opn from h4, show c = .int .u8 x.wide from h6, show d = .int .u8 x.stay from h8], ho⟩
theorem bv7 {l : List Int} {v : Value} (h : ad7.rep w F l [v]) : df7 F w (fv7 l) v := fs (e := fun x _ => .int .u8 x) (0 : Int) xdc7 h
theorem ot7 {l : List Int} {v : Value} (h : df7 F w (fv7 l) v) (ho : B8 l) : ad7.rep w F l [v] := bs (e := fun (x : Int) _ => .int .u8 x) (0 : Int) mdc7 h ho
theorem cvb7 {x : tb7} {cs : List Value} (h : so7.rep w F x cs) : se7 F w (ay7 x) cs := by
 obtain ⟨s, c, co, ti, rfl, -, k1, k2, k3, k4⟩ := h
 have e1 := fs (e := fun (x : lob7) => ix2 (.int .u8 x.room) (.int .u8 x.hold)) (⟨0, 0⟩ : lob7) mzb7 k1
 have e2 := fs (e := fun (x : zkb7) => ix4 (.int .u8 x.load) (.int .u8 x.opn) (.int .u8 x.wide) (.int .u8 x.stay)) (⟨0, 0, 0, 0⟩ : zkb7) gwb7 k2
 exact ⟨_, _, rfl, rfl, _, _, rfl, rfl, _, _, rfl, rfl, _, _, rfl, rfl, _, _, rfl, rfl, _, _, rfl, e1, _, _, rfl, e2, _, _, rfl, bv7 k3, _, _, rfl, bv7 k4, _, _, rfl, rfl, _, _, rfl, rfl, rfl⟩
theorem isb7 {x : tb7} {cs : List Value} (h : se7 F w (ay7 x) cs) (ok : SmallK x) : so7.rep w F x cs := by
 obtain ⟨_, _, rfl, rfl, _, _, rfl, rfl, _, _, rfl, rfl, _, _, rfl, rfl, _, _, rfl, rfl, s, _, rfl, k1, c, _, rfl, k2, co, _, rfl, k3, ti, _, rfl, k4, _, _, rfl, rfl, _, _, rfl, rfl, rfl⟩ := h
 have e1 := bs (h0 := by decide) (e := fun (x : lob7) => ix2 (.int .u8 x.room) (.int .u8 x.hold)) (⟨0, 0⟩ : lob7) ezb7 k1 ok.wf.sats
 have e2 := bs (h0 := by decide) (e := fun (x : zkb7) => ix4 (.int .u8 x.load) (.int .u8 x.opn) (.int .u8 x.wide) (.int .u8 x.stay)) (⟨0, 0, 0, 0⟩ : zkb7) lzb7 k2 ok.wf.custs
 exact ⟨s, c, co, ti, rfl, ⟨ok.wf.fin, ok.wf.trucks, ok.wf.troom, ok.wf.bikes, ok.wf.broom⟩, e1, e2, ot7 k3 ok.cost, ot7 k4 ok.time⟩
theorem zo7 {l : List Int} {cs : List Value} (h : ad7.rep w F l cs) : B8 l := by
 obtain ⟨_, _, _, _, -, -, -, -, -, -, hw⟩ := ke7 h
 exact hw
theorem jub7 {x : tb7} {cs : List Value} (h : so7.rep w F x cs) : SmallK x := by
 have := tpb7 h
 obtain ⟨s, c, co, ti, rfl, -, k1, k2, k3, k4⟩ := h
 exact ⟨this, zo7 k3, zo7 k4⟩
theorem gzb7 {x : jf7} {cs : List Value} (h : web7.rep w F x cs) : se7 F w (oib7 x) cs := by
 obtain ⟨a, b, c, rfl, k1, k2, k3⟩ := h
 exact ⟨_, _, rfl, bv7 k1, _, _, rfl, bv7 k2, _, _, rfl, bv7 k3, rfl⟩
theorem nzb7 {x : jf7} {cs : List Value} (h : se7 F w (oib7 x) cs) (ok : jqb7 x) : web7.rep w F x cs := by
 obtain ⟨a, _, rfl, k1, b, _, rfl, k2, c, _, rfl, k3, rfl⟩ := h
 exact ⟨a, b, c, rfl, ot7 k1 ok.sats, ot7 k2 ok.order, ot7 k3 ok.cuts⟩
theorem fyb7 {x : jf7} {cs : List Value} (h : web7.rep w F x cs) : jqb7 x := by
 obtain ⟨a, b, c, rfl, k1, k2, k3⟩ := h
 exact ⟨zo7 k1, zo7 k2, zo7 k3⟩
end
structure YOk (y : ba7) : Prop where
 chk : check y = 0
 k : ltb7 y
 ns : 1 ≤ y.sats.length ∧ y.sats.length ≤ 3
 nc : 1 ≤ y.custs.length ∧ y.custs.length ≤ 6
 ld : ∀ c ∈ y.custs, 1 ≤ c.load ∧ c.load ≤ 1000
 troom : 1 ≤ y.troom
theorem epb7 {x : ba7} (g : Good x) (h : au7 x) : ltb7 x :=
 ⟨h.1, h.2.1, h.2.2.1, fun r hr => (h.2.2.2.1 r hr).2, fun r hr => (h.2.2.2.2 r hr).2, ⟨g.costL, g.costR⟩, ⟨g.timeL, g.timeR⟩⟩
theorem fsb7 {s : tb7} (h : SmallK s) : YOk (lh7 s) :=
 ⟨dr7 h.wf, epb7 (ne7 (dr7 h.wf)) (mnb7 h.wf), km7 s, ik7 s, fun c hc => (yfb7 h.wf c hc).1, tib7 h.wf⟩
section
variable {f : FuncId}
theorem wm7 {P : Program} {args : List RV} {post : RV → Prop} (hE : Enters P f) (h : ∀ (rho : Nat → Prop) (w : World) (vs : List Value), gf7 rho w args vs →
  Calls P f vs.toArray w fun e w' => ∃ r v, e = .returned v ∧ post r ∧ mj7 (fun b => w.heap.size ≤ b ∧ b < w'.heap.size) w' r v ∧ Below w.heap.size w w') : qi7 P f args post :=
 ⟨hE, fun rho w vs _ hc => (h rho w vs hc).mono fun e w' ⟨r, v, h1, h2, h3, h4⟩ => ⟨r, v, _, h1, h2, h3, fun b hb => .inr hb, h4⟩⟩
end
theorem zjb7 : qi7 Try.prog 37 [] (fun r => r = .c (.bool true)) :=
 wm7 ⟨_, _, Try.func37, by kernel_rfl, rfl⟩ fun rho w vs hc => by
  cases hc
  refine (cmb7 w).mono ?_
  rintro e w' ⟨rfl, hb⟩
  exact ⟨_, _, rfl, rfl, rfl, hb⟩
theorem lwb7 {s : tb7} (h : SmallK s) : qi7 Try.prog 16 [.agg (ay7 s)] (fun r => r = .agg (tf7 (lh7 s))) :=
 wm7 ⟨_, _, Try.func16, by kernel_rfl, rfl⟩ fun rho w vs hc => by
  obtain ⟨_, _, rfl, ⟨cs, rfl, h1⟩, rfl⟩ := hc
  refine (rrb7 (isb7 h1 h)).mono ?_
  rintro e w' ⟨ds, rfl, hi, hb⟩
  have k := (fsb7 h).k
  exact ⟨_, _, rfl, rfl, ⟨_, rfl, mvb7 (gb7.lt (hi.rep (mnb7 h.wf))) k.sqc k.sqt⟩, hb⟩
theorem kgb7 {p : pa7} {w' : World} {n : Nat} {tv bv : Value} {ts vs : List Value} {TT TS TB TI : Nat} (hT : qh7 TT TS w' n tv p.trucks ts) (hB : th7 TB TI w' n bv p.bikes vs) (h : lgb7 p) : mj7 (fun b => n ≤ b ∧ b < w'.heap.size) w' (.agg (cf7 p)) (.agg #[tv, bv]) :=
 ⟨[tv, bv], rfl, xxb7 (uf7.lt ⟨tv, bv, rfl, hT.rep h.trucks, hB.rep h.bikes⟩)⟩
theorem umb7 {p : pa7} (h : vy7 p) : lgb7 p :=
 ⟨fun t ht s hs => by have := (h.ts t ht).2 s hs; unfold qg7 ua7; omega, fun b hb => by
  have := h.bs b hb
  exact ⟨by unfold ua7; omega, fun c hc => by have := this.2.2 c hc; unfold ua7; omega⟩⟩
theorem tub7 {y : ba7} {wi : jf7} (h : YOk y) (hw : jqb7 wi) : qi7 Try.prog 31 [.agg (tf7 y), .agg (oib7 wi)] (fun r => r = .agg (cf7 (oh7 y wi))) :=
 wm7 ⟨_, _, Try.func31, by kernel_rfl, rfl⟩ fun rho w vs hc => by
  obtain ⟨_, _, rfl, ⟨cs, rfl, h1⟩, _, _, rfl, ⟨ds, rfl, h2⟩, rfl⟩ := hc
  have gd := ne7 h.chk
  refine (lsb7 (gnb7 h1 h.k) (nzb7 h2 hw) h.ns h.nc h.ld ⟨h.troom, gd.troom.2⟩ gd.broom).mono ?_
  rintro e w' ⟨tv, bv, ts, vs, rfl, hT, hB, hb⟩
  exact ⟨_, _, rfl, rfl, kgb7 hT hB (umb7 (li7 wi h.ns h.nc h.ld h.troom)), hb⟩
end Go.Proofs.Ytafhjfkdlmijdaa.Ab
