/- Texts of the proof, joined: EncA, Enc, AdA, Ad, ApartP, AtP, Run, Dec, EffB, RunB, GlC, Ops, OpA, Copy, OpE. -/
import Derived.Laws.CopyRow
import Derived.Laws.Entries
import Derived.Test.YtabadfkikdefeaaGreatQ5
import Derived.Test.YtabadfkikdefeaaGreatP4
set_option linter.all false
set_option maxRecDepth 100000
set_option maxHeartbeats 6400000
namespace Go.Proofs.YtabadfkikdefeaaGreat.Ab
open Go.RowKit
abbrev I6 (n : Int) : AV := .int .i64 n
def ix2 (a b : AV) : Nat → AV
 | 0 => a
 | _ => b
def ix3 (a b c : AV) : Nat → AV
 | 0 => a
 | 1 => b
 | _ => c
def ix4 (a b c d : AV) : Nat → AV
 | 0 => a
 | 1 => b
 | 2 => c
 | _ => d
abbrev eInts (l : List Int) : AV := .sl l.length 1 (fun i _ => I6 (l.getD i 0))
def trkN (p : PlanD) (i : Nat) : List StopD := p.trucks.getD i []
def bikN (p : PlanD) (i : Nat) : BikeD := p.bikes.getD i ⟨0, []⟩
def stN (l : List StopD) (i : Nat) : StopD := l.getD i ⟨0, 0⟩
abbrev eStops (l : List StopD) : AV := .sl l.length 2 (fun i => ix2 (I6 (stN l i).sat) (I6 (stN l i).load))
def ePlan (p : PlanD) : List AV := [.sl p.trucks.length 1 (fun i _ => eStops (trkN p i)), .sl p.bikes.length 2 (fun i => ix2 (I6 (bikN p i).sat) (eInts (bikN p i).stops))]
theorem dec_t (p : Prop) [Decidable p] : (decide p = true) = p := by simp
theorem dec_f (p : Prop) [Decidable p] : (decide p = false) = ¬ p := by simp
theorem x_str {b : ByteArray} {p : RV → Prop} : (∃ r, EqvT (.c (.str b)) r ∧ p r) = p (.c (.str b)) := propext ⟨fun ⟨_, ⟨_, e, e2⟩, h⟩ => by subst e; rcases e2 with e2 | e2 <;> (subst e2; exact h), fun h => ⟨_, ⟨_, rfl, .inl rfl⟩, h⟩⟩
attribute [go_sem ↓ low] ef_g
attribute [go_sem ↓] stb_s ef_t e_skip e_reg e_regf e_seq e_cond e_block e_exit e_ret e_R0 e_R1 e_nil e_cons e_op
attribute [go_sem] lit_n lit_s lit_o litO zw_n zw_s zw_o rr_own renLL app_t app_n app_s app_o stoT wstV litW appW zW ckE slcV slc2 slc1 slc3 idxS nchV subS strV mkfV funV capL ckAt wldV List.drop_nil Option.toList_none Option.toList_some e_eff e_putn pu_w stb_n vldW Option.map_some Option.map_none List.drop_zero List.drop_succ_cons lpK2 renG renH renRs pickR rr_dead rr_box rr_ints rr_bools rr_gen renL ra_ptr ra_h ra_int ra_bool ra_flt ra_str ra_nilp ra_nils ra_junk ra_sl ra_rp mk_ps mk_pn mk_hs mk_hn renI renR renRL pos okI List.cons_append List.replicate_succ List.replicate_zero lpK finP Int.toNat_zero dec_t dec_f Bool.and_eq_true Bool.not_eq_true' and_imp setT fxT gets tvals scpRL scpR scpL scpH AV.scp List.take_succ_cons List.take_zero List.take_nil e_val e_putt e_putg e_put1 e_put0 f_box f_alloc f_store f_lit f_litK f_make f_app ap_s ap_n strOf AV.strOf appS f_call f_fld fk_s f_cls t_n t_e t_r b_n b_e b_r c_t r_r r_n isV guardOf opGs pgs rgs rds opV bltV AS.rd lk gOk_nil gOk_t gOk_s gOk_a gOk_b cellsR fieldV vldP vld at2 loadV rootAt tab Row.get Row.len Row.isBox Row.one rk_c scpLL nth indexV lenV binV intV cmpV unV convV mmV buildV pickV extV nthR ofConst storeV Row.put pat setN setRoot litV chunk takeN dropN rep mkRow allInts allBools makeV zOk zeros appV appSrc Row.app Row.drop frzOk vldF frzL frz frzH Root.mark resL res1 one x_int x_bool x_str okT okR okRL frzT frzR frzRL frzHRL frzHR argT e_pick e_pick0 opD nthO ix2 ix3 ix4 Int.toNat_natCast tyM ty_eq njL AV.nj kN inK ite_f ite_t if_true if_false true_and and_true forall_const implies_true false_implies imp_self List.length_cons List.length_nil List.map_cons List.map_nil List.nil_append List.cons_append Bool.false_eq_true Bool.true_and ne_eq not_false_eq_true decide_true decide_false Decidable.not_not Nat.add_zero Nat.zero_add Nat.zero_mul
def satN (x : InstD) (i : Nat) : SatD := x.sats.getD i ⟨0, 0⟩
def cusN (x : InstD) (i : Nat) : CustD := x.custs.getD i ⟨0, 0, 0, 0⟩
abbrev eSats (x : InstD) : AV := .sl x.sats.length 2 (fun i => ix2 (I6 (satN x i).room) (I6 (satN x i).hold))
abbrev eCusts (x : InstD) : AV := .sl x.custs.length 4 (fun i => ix4 (I6 (cusN x i).load) (I6 (cusN x i).opn) (I6 (cusN x i).cls) (I6 (cusN x i).stay))
abbrev eMat (n : Nat) (f : Nat → Nat → Int) : AV := .sl n 1 (fun i _ => .sl n 1 (fun j _ => I6 (f i j)))
def costN (x : InstD) (i j : Nat) : Int := (x.cost.getD i []).getD j 0
def timeN (x : InstD) (i j : Nat) : Int := (x.time.getD i []).getD j 0
theorem tm_fold (x : InstD) (a b : Int) : timeN x a.toNat b.toNat = timeAt x a b := rfl
theorem tm_foldL (x : InstD) (a : Int) : timeN x a.toNat 0 = timeAt x a 0 := rfl
theorem tm_foldR (x : InstD) (b : Int) : timeN x 0 b.toNat = timeAt x 0 b := rfl
theorem tm_fold0 (x : InstD) : timeN x 0 0 = timeAt x 0 0 := rfl
def eInst (x : InstD) : List AV := [I6 x.fin, I6 x.tmany, I6 x.troom, I6 x.bmany, I6 x.broom, eSats x, eCusts x, eMat (nodes x) (costN x), eMat (nodes x) (timeN x)]
theorem hold_fold (x : InstD) (a : Int) : (satN x a.toNat).hold = holdOf x a := rfl
theorem cus_fold (x : InstD) (a : Int) : cusN x a.toNat = custD x a := rfl
attribute [go_sem] tm_fold tm_foldL tm_foldR tm_fold0 hold_fold cus_fold
def Fwd {α : Type} (S : Shape α) (e : α → Nat → AV) : Prop := ∀ {w : World} {F : Nat → Prop} {x : α} {cs : List Value}, S.rep w F x cs → ∀ j, j < S.sz → ∃ u, cs[j]? = some u ∧ Con0 F w (e x j) u
def Bwd {α : Type} (S : Shape α) (e : α → Nat → AV) (ok : α → Prop) : Prop := ∀ {w : World} {F : Nat → Prop} {x : α} {cs : List Value}, cs.length = S.sz → (∀ j, j < S.sz → ∃ u, cs[j]? = some u ∧ Con0 F w (e x j) u) → ok x → S.rep w F x cs
theorem getD_get {α : Type} {l : List α} {i : Nat} (h : i < l.length) (z : α) : l.getD i z = l[i] := by
 rw [List.getD_eq_getElem?_getD, List.getElem?_eq_getElem h]; rfl
section
variable {α : Type} {S : Shape α} {h0 : 0 < S.sz} {e : α → Nat → AV} {ok : α → Prop} {w : World} {F : Nat → Prop}
theorem fs (z : α) (hS : Fwd S e) {l : List α} {v : Value} (h : (sliceS S h0).rep w F l [v]) : Con0 F w (.sl l.length S.sz (fun i => e (l.getD i z))) v := by
 obtain ⟨a, b, off, c, e1, h1, h2, h3, h4⟩ := h
 cases e1
 refine ⟨a, b, off, c, rfl, h1, h2, h3, fun i hi j hj => ?_⟩
 obtain ⟨es, k1, k2⟩ := h4 i hi
 obtain ⟨u, k3, k4⟩ := hS k1 j hj
 show ∃ u, _ = some u ∧ Con0 F w (e (l.getD i z) j) u
 rw [getD_get hi]
 exact ⟨u, by rw [k2 j hj, k3], k4⟩
theorem some_list : ∀ (n : Nat) {p : Nat → Value → Prop}, (∀ j, j < n → ∃ u, p j u) → ∃ es : List Value, es.length = n ∧ ∀ j u, es[j]? = some u → p j u
 | 0, _, _ => ⟨[], rfl, fun _ _ h => by simp at h⟩
 | n + 1, p, h => by
  obtain ⟨u, hu⟩ := h 0 (Nat.succ_pos _)
  obtain ⟨es, h1, h2⟩ := some_list n (p := fun j => p (j + 1)) (fun j hj => h (j + 1) (by omega))
  refine ⟨u :: es, by simp [h1], fun j v hj => ?_⟩
  cases j with
  | zero => simp at hj; subst hj; exact hu
  | succ j => exact h2 j v (by simpa using hj)
theorem bs (z : α) (hS : Bwd S e ok) {l : List α} {v : Value} (h : Con0 F w (.sl l.length S.sz (fun i => e (l.getD i z))) v) (ho : ∀ x ∈ l, ok x) : (sliceS S h0).rep w F l [v] := by
 obtain ⟨a, b, off, c, rfl, h1, h2, h3, h4⟩ := h
 refine ⟨a, b, off, c, rfl, h1, h2, h3, fun i hi => ?_⟩
 obtain ⟨es, k1, k2⟩ := some_list S.sz (h4 i hi)
 have k3 : ∀ j, j < S.sz → w.cell? ⟨b, off + i * S.sz + j, none⟩ = es[j]? ∧ ∃ u, es[j]? = some u ∧ Con0 F w (e l[i] j) u := fun j hj => by
  have hg : es[j]? = some es[j] := List.getElem?_eq_getElem (by omega)
  obtain ⟨k4, k5⟩ := k2 j _ hg
  have k5 : Con0 F w (e (l.getD i z) j) es[j] := k5
  rw [getD_get hi] at k5
  exact ⟨by rw [k4, hg], _, hg, k5⟩
 exact ⟨es, hS k1 (fun j hj => (k3 j hj).2) (ho _ (List.getElem_mem hi)), fun j hj => (k3 j hj).1⟩
theorem fs_fwd (z : α) (hS : Fwd S e) : Fwd (sliceS S h0) (fun l _ => .sl l.length S.sz (fun i => e (l.getD i z))) := by
 intro w F x cs h j hj
 have hl := (sliceS S h0).len h
 match cs, hl with
 | [v], _ =>
  have hj : j < 1 := hj
  obtain rfl : j = 0 := by omega
  exact ⟨v, rfl, fs z hS h⟩
theorem bs_bwd (z : α) (hS : Bwd S e ok) : Bwd (sliceS S h0) (fun l _ => .sl l.length S.sz (fun i => e (l.getD i z))) (fun l => ∀ x ∈ l, ok x) := by
 intro w F x cs hl h ho
 match cs, hl with
 | [v], _ =>
  obtain ⟨u, h1, h2⟩ := h 0 Nat.one_pos
  cases h1
  exact bs z hS h2 ho
end
theorem int_f : Fwd intS (fun x _ => I6 x) := by
 rintro w F x cs ⟨rfl, -⟩ j hj
 have hj : j < 1 := hj
 obtain rfl : j = 0 := by omega
 exact ⟨_, rfl, rfl⟩
theorem int_b : Bwd intS (fun x _ => I6 x) wf64 := by
 intro w F x cs hl h ho
 obtain ⟨u, h1, h2⟩ := h 0 Nat.one_pos
 match cs, hl with
 | [v], _ => cases h1; exact ⟨by rw [show u = .int .i64 x from h2], ho⟩
theorem u8_f : Fwd u8S (fun x _ => .int .u8 x) := by
 rintro w F x cs ⟨rfl, -⟩ j hj
 have hj : j < 1 := hj
 obtain rfl : j = 0 := by omega
 exact ⟨_, rfl, rfl⟩
theorem u8_b : Bwd u8S (fun x _ => .int .u8 x) (fun x => 0 ≤ x ∧ x ≤ 255) := by
 intro w F x cs hl h ho
 obtain ⟨u, h1, h2⟩ := h 0 Nat.one_pos
 match cs, hl with
 | [v], _ => cases h1; exact ⟨by rw [show u = .int .u8 x from h2], ho⟩
theorem stop_f : Fwd stopS (fun x => ix2 (I6 x.sat) (I6 x.load)) := by
 rintro w F x cs ⟨rfl, -⟩ j hj
 have hj : j < 2 := hj
 match j, hj with
 | 0, _ => exact ⟨_, rfl, rfl⟩
 | 1, _ => exact ⟨_, rfl, rfl⟩
theorem bike_f : Fwd bikeS (fun x => ix2 (I6 x.sat) (eInts x.stops)) := by
 rintro w F x cs ⟨v, rfl, -, h⟩ j hj
 have hj : j < 2 := hj
 match j, hj with
 | 0, _ => exact ⟨_, rfl, rfl⟩
 | 1, _ => exact ⟨_, rfl, fs 0 int_f h⟩
theorem two_b {a b : AV} {w : World} {F : Nat → Prop} {cs : List Value} (hl : cs.length = 2) (h : ∀ j, j < 2 → ∃ u, cs[j]? = some u ∧ Con0 F w (ix2 a b j) u) : ∃ u v, cs = [u, v] ∧ Con0 F w a u ∧ Con0 F w b v := by
 match cs, hl with
 | [u, v], _ =>
  obtain ⟨u', h1, h2⟩ := h 0 (by decide)
  obtain ⟨v', h3, h4⟩ := h 1 (by decide)
  cases h1; cases h3
  exact ⟨_, _, rfl, h2, h4⟩
def StopWf (x : StopD) : Prop := wf64 x.sat ∧ wf64 x.load
def BikeWf (x : BikeD) : Prop := wf64 x.sat ∧ ∀ c ∈ x.stops, wf64 c
theorem stop_b : Bwd stopS (fun x => ix2 (I6 x.sat) (I6 x.load)) StopWf := by
 intro w F x cs hl h ho
 obtain ⟨u, v, rfl, h1, h2⟩ := two_b hl h
 exact ⟨by rw [show u = .int .i64 x.sat from h1, show v = .int .i64 x.load from h2], ho⟩
theorem bike_b : Bwd bikeS (fun x => ix2 (I6 x.sat) (eInts x.stops)) BikeWf := by
 intro w F x cs hl h ho
 obtain ⟨u, v, rfl, h1, h2⟩ := two_b hl h
 exact ⟨v, by rw [show u = .int .i64 x.sat from h1], ho.1, bs 0 int_b h2 ho.2⟩
section
variable {w : World} {F : Nat → Prop}
theorem stops_f : Fwd (sliceS stopS) (fun l _ => eStops l) := fs_fwd (e := fun x => ix2 (I6 x.sat) (I6 x.load)) (⟨0, 0⟩ : StopD) stop_f
theorem stops_b : Bwd (sliceS stopS) (fun l _ => eStops l) (fun l => ∀ s ∈ l, StopWf s) := bs_bwd (e := fun x => ix2 (I6 x.sat) (I6 x.load)) (⟨0, 0⟩ : StopD) stop_b
structure PlanWf (p : PlanD) : Prop where
 trucks : ∀ t ∈ p.trucks, ∀ s ∈ t, StopWf s
 bikes : ∀ b ∈ p.bikes, BikeWf b
theorem plan_f {p : PlanD} {cs : List Value} (h : planS.rep w F p cs) : Con0L F w (ePlan p) cs := by
 obtain ⟨t, b, rfl, h1, h2⟩ := h
 have k1 := fs (e := fun l _ => eStops l) [] stops_f h1
 have k2 := fs (e := fun x => ix2 (I6 x.sat) (eInts x.stops)) (⟨0, []⟩ : BikeD) bike_f h2
 exact ⟨_, _, rfl, k1, _, _, rfl, k2, rfl⟩
theorem plan_b {p : PlanD} {cs : List Value} (h : Con0L F w (ePlan p) cs) (ok : PlanWf p) : planS.rep w F p cs := by
 obtain ⟨t, _, rfl, h1, b, _, rfl, h2, rfl⟩ := h
 exact ⟨t, b, rfl, bs (e := fun l _ => eStops l) [] stops_b h1 ok.trucks, bs (e := fun (x : BikeD) => ix2 (I6 x.sat) (eInts x.stops)) (⟨0, []⟩ : BikeD) bike_b h2 ok.bikes⟩
end
section
variable {f : FuncId}
theorem pcall_mk {P : Program} {args : List RV} {post : RV → Prop} (hE : Enters P f) (h : ∀ (rho : Nat → Prop) (w : World) (vs : List Value), Con0RL rho w args vs →
  Calls P f vs.toArray w fun e w' => ∃ r v, e = .returned v ∧ post r ∧ Con0T (fun b => w.heap.size ≤ b ∧ b < w'.heap.size) w' r v ∧ Below w.heap.size w w') : PCall P f args post :=
 ⟨hE, fun rho w vs _ _ hc => (h rho w vs hc).mono fun e w' ⟨r, v, h1, h2, h3, h4⟩ => ⟨r, v, _, h1, h2, h3, fun b hb => .inr hb, h4⟩⟩
end
theorem callK_p [Pan] {P : Program} {pu : Pu} {f : FuncId} {H : List Root} {args args' : List RV} {post : RV → Prop} {K : RV → List Root → Prop} (hp : PCall P f args' post) (ho : okRL H args) (he : frzRL H args = args') (hH : frzHRL H args = H) (hK : ∀ r, post r → K r H) : callK P pu f args H K :=
 callK_f hp ho (by rw [he]; exact eqvRL_refl _) (by rw [hH]; exact hK)
theorem sat_f : Fwd satS (fun x => ix2 (I6 x.room) (I6 x.hold)) := by
 rintro w F x cs ⟨rfl, -⟩ j hj
 have hj : j < 2 := hj
 match j, hj with
 | 0, _ => exact ⟨_, rfl, rfl⟩
 | 1, _ => exact ⟨_, rfl, rfl⟩
theorem cust_f : Fwd custS (fun x => ix4 (I6 x.load) (I6 x.opn) (I6 x.cls) (I6 x.stay)) := by
 rintro w F x cs ⟨rfl, -⟩ j hj
 have hj : j < 4 := hj
 match j, hj with
 | 0, _ => exact ⟨_, rfl, rfl⟩
 | 1, _ => exact ⟨_, rfl, rfl⟩
 | 2, _ => exact ⟨_, rfl, rfl⟩
 | 3, _ => exact ⟨_, rfl, rfl⟩
def SatWf (x : SatD) : Prop := wf64 x.room ∧ wf64 x.hold
def CustWf (x : CustD) : Prop := wf64 x.load ∧ wf64 x.opn ∧ wf64 x.cls ∧ wf64 x.stay
theorem sat_b : Bwd satS (fun x => ix2 (I6 x.room) (I6 x.hold)) SatWf := by
 intro w F x cs hl h ho
 obtain ⟨u, v, rfl, h1, h2⟩ := two_b hl h
 exact ⟨by rw [show u = .int .i64 x.room from h1, show v = .int .i64 x.hold from h2], ho⟩
theorem cust_b : Bwd custS (fun x => ix4 (I6 x.load) (I6 x.opn) (I6 x.cls) (I6 x.stay)) CustWf := by
 intro w F x cs hl h ho
 match cs, hl with
 | [a, b, c, d], _ =>
  obtain ⟨a', h1, h2⟩ := h 0 (by decide)
  obtain ⟨b', h3, h4⟩ := h 1 (by decide)
  obtain ⟨c', h5, h6⟩ := h 2 (by decide)
  obtain ⟨d', h7, h8⟩ := h 3 (by decide)
  cases h1; cases h3; cases h5; cases h7
  exact ⟨by rw [show a = .int .i64 x.load from h2, show b = .int .i64 x.opn from h4, show c = .int .i64 x.cls from h6, show d = .int .i64 x.stay from h8], ho⟩
section
variable {w : World} {F : Nat → Prop}
def SqOf (n : Nat) (l : List (List Int)) : Prop := l.length = n ∧ ∀ r ∈ l, r.length = n
theorem mat_f {n : Nat} {l : List (List Int)} {v : Value} (hq : SqOf n l) (h : rowsS.rep w F l [v]) : Con0 F w (eMat n (fun i j => (l.getD i []).getD j 0)) v := by
 obtain ⟨a, b, off, c, e1, h1, h2, h3, h4⟩ := h
 cases e1
 refine ⟨a, b, off, c, by rw [hq.1], by rw [← hq.1]; exact h1, h2, by rw [← hq.1]; exact h3, fun i hi j hj => ?_⟩
 have hi' : i < l.length := by rw [hq.1]; exact hi
 obtain rfl : j = 0 := by omega
 obtain ⟨es, k1, k2⟩ := h4 i hi'
 have hl := (sliceS intS).len k1
 match es, hl with
 | [u], _ =>
  refine ⟨u, by simpa [sliceS] using k2 0 Nat.one_pos, ?_⟩
  have := fs 0 int_f k1
  rw [hq.2 _ (List.getElem_mem hi')] at this
  show Con0 F w (.sl n 1 (fun j _ => I6 ((l.getD i []).getD j 0))) u
  rw [getD_get hi']
  exact this
theorem mat_b {n : Nat} {l : List (List Int)} {v : Value} (hq : SqOf n l) (hw : ∀ r ∈ l, ∀ x ∈ r, wf64 x) (h : Con0 F w (eMat n (fun i j => (l.getD i []).getD j 0)) v) : rowsS.rep w F l [v] := by
 obtain ⟨a, b, off, c, rfl, h1, h2, h3, h4⟩ := h
 refine ⟨a, b, off, c, by rw [hq.1], by rw [hq.1]; exact h1, h2, by rw [hq.1]; exact h3, fun i hi => ?_⟩
 have hi' : i < n := by rw [← hq.1]; exact hi
 obtain ⟨u, k1, k2⟩ := h4 i hi' 0 Nat.one_pos
 have k2 : Con0 F w (.sl n 1 (fun j _ => I6 ((l.getD i []).getD j 0))) u := k2
 rw [getD_get hi, ← hq.2 _ (List.getElem_mem hi)] at k2
 refine ⟨[u], bs 0 int_b k2 (hw _ (List.getElem_mem hi)), fun j hj => ?_⟩
 have hj : j < 1 := hj
 obtain rfl : j = 0 := by omega
 exact k1
structure InstK (x : InstD) : Prop where
 i5 : wf64 x.fin ∧ wf64 x.tmany ∧ wf64 x.troom ∧ wf64 x.bmany ∧ wf64 x.broom
 sats : ∀ s ∈ x.sats, SatWf s
 custs : ∀ c ∈ x.custs, CustWf c
 cost : ∀ r ∈ x.cost, ∀ v ∈ r, wf64 v
 time : ∀ r ∈ x.time, ∀ v ∈ r, wf64 v
 sqc : SqOf (nodes x) x.cost
 sqt : SqOf (nodes x) x.time
theorem inst_f {x : InstD} {cs : List Value} (h : instS.rep w F x cs) (h1 : SqOf (nodes x) x.cost) (h2 : SqOf (nodes x) x.time) : Con0L F w (eInst x) cs := by
 obtain ⟨s, c, co, ti, rfl, -, k1, k2, k3, k4⟩ := h
 exact ⟨_, _, rfl, rfl, _, _, rfl, rfl, _, _, rfl, rfl, _, _, rfl, rfl, _, _, rfl, rfl, _, _, rfl, fs _ sat_f k1, _, _, rfl, fs _ cust_f k2, _, _, rfl, mat_f h1 k3, _, _, rfl, mat_f h2 k4, rfl⟩
theorem inst_b {x : InstD} {cs : List Value} (h : Con0L F w (eInst x) cs) (ok : InstK x) : instS.rep w F x cs := by
 obtain ⟨_, _, rfl, rfl, _, _, rfl, rfl, _, _, rfl, rfl, _, _, rfl, rfl, _, _, rfl, rfl, s, _, rfl, k1, c, _, rfl, k2, co, _, rfl, k3, ti, _, rfl, k4, rfl⟩ := h
 exact ⟨s, c, co, ti, rfl, ok.i5, bs _ sat_b k1 ok.sats, bs _ cust_b k2 ok.custs, mat_b ok.sqc ok.cost k3, mat_b ok.sqt ok.time k4⟩
end
abbrev eBools (l : List Bool) : AV := .sl l.length 1 (fun i _ => .bool (l.getD i false))
theorem matW_c {w : World} {B gd n : Nat} {rs cp : Nat → Nat} {D : Nat → Nat → Int} (h : MatW w B gd n n rs cp D) (hn : n ≤ maxLen) : Con0 (fun b => B ≤ b ∧ b < w.heap.size) w (eMat n D) (.slice (some ⟨gd, 0, none⟩) n n) := by
 refine ⟨_, gd, 0, n, rfl, Nat.le_refl _, hn, fun _ => ⟨rfl, h.gdB, h.row.lt⟩, fun i hi j hj => ?_⟩
 obtain rfl : j = 0 := by omega
 refine ⟨_, by have := h.d hi hi; simpa using this, ?_⟩
 refine ⟨_, rs i, 0, cp i, rfl, (h.cap i hi).1, (h.cap i hi).2, fun _ => ⟨rfl, h.ge i hi, (h.rows i hi).lt⟩, fun k hk l hl => ?_⟩
 obtain rfl : l = 0 := by omega
 exact ⟨_, by have := h.e hi hk; simpa using this, rfl⟩
theorem apart_p {n : Nat} {T : List (List Int)} {st : List Int} {inn : List Bool} (hq : SqOf n T) (hTw : ∀ r ∈ T, ∀ x ∈ r, wf64 x) (hsl : st.length = n) (hil : inn.length = n) (hn : 0 < n ∧ n ≤ 100) (hTb : ∀ i k, 0 ≤ tAt T i k ∧ tAt T i k ≤ 1099511627776) (hsb : ∀ i, 0 ≤ st.getD i 0 ∧ st.getD i 0 ≤ 1099511627776) (hsw : ∀ v ∈ st, wf64 v) :
  PCall Tryz.prog 101 [.c (eMat n (fun i j => (T.getD i []).getD j 0)), .c (eInts st), .c (eBools inn)] (fun r => ∃ D, ApartOf n T st inn D ∧ r = .c (eMat n D)) :=
 pcall_mk ⟨_, _, Tryz.func101, by kernel_rfl, rfl⟩ fun rho w vs hc => by
  obtain ⟨_, _, rfl, h1, v1, _, rfl, h2, _, _, rfl, ⟨a, b, off, c, rfl, -, -, h3, h4⟩, rfl⟩ := hc
  rw [hil] at h3 h4 ⊢
  obtain ⟨rfl, -⟩ := h3 hn.1
  have h2 := bs (h0 := by decide) (e := fun (x : Int) _ => I6 x) 0 int_b h2 hsw
  refine (apart_c (mat_b hq hTw h1) h2 (inn := inn) (fun k hk => ?_) hq hsl hn hTb hsb).mono ?_
  ·obtain ⟨u, k1, k2⟩ := h4 k hk 0 Nat.one_pos
   rw [show u = .bool (inn.getD k false) from k2] at k1
   simpa using k1
  ·rintro e w' ⟨gd, rs, cp, D, rfl, hM, hA, hb⟩
   exact ⟨_, _, rfl, ⟨D, hA, rfl⟩, matW_c hM (by unfold maxLen; omega), hb⟩
theorem getD_of {α : Type} {l : List α} {k : Nat} (h : k < l.length) (z : α) : l.getD k z = l[k] := by
 rw [List.getD_eq_getElem?_getD, List.getElem?_eq_getElem h]; rfl
theorem at_p (x : InstD) {c : Int} (h : CustOk x c) (g : Good x) : PCall Tryz.prog 78 [.agg (eInst x), .c (I6 c)] (fun r => r = .c (.int .i64 (1 + x.sats.length + c))) := by
 refine pcall_of ty_ok (by kernel_rfl) (fun _ => ([], 0, none)) Tryz.func78 rfl (by kernel_rfl) Tryz.ntmps78 (congrArg Array.toList Tryz.results78) (by kernel_rfl) (by simp) ?_
 simp -implicitDefEqProofs only [go_sem, ↓reduceIte, reduceCtorEq, Nat.reduceAdd, Nat.reduceLT, Nat.reduceEqDiff, Nat.reduceMul, Nat.reduceLeDiff, Nat.reduceSub, eInst]
 have := g.sats; have := g.custs; unfold CustOk at h
 omega
variable {P : Program} {ty : Ty}
theorem PanS.env [Pan] {E : Env} {d : List Deferred} {M : Mp} {H : List Root} {w w' : World} {ch : List PanicEntry} (h : PanS ⟨E.W0, E.rho0, d⟩ M H w ch w') : PanS E M H w ch w' := by
 obtain ⟨M2, H2, r, v, e, k1, k2⟩ := h
 exact ⟨M2, H2, r, v, e, k1.env2, k2⟩
instance (k : IntKind) (n : Int) : Decidable (inK k n) := match k with
 | .i8 => inferInstanceAs (Decidable (_ ∧ _))
 | .i16 => inferInstanceAs (Decidable (_ ∧ _))
 | .i32 => inferInstanceAs (Decidable (_ ∧ _))
 | .i64 => inferInstanceAs (Decidable (_ ∧ _))
 | .u8 => inferInstanceAs (Decidable (_ ∧ _))
 | .u16 => inferInstanceAs (Decidable (_ ∧ _))
 | .u32 => inferInstanceAs (Decidable (_ ∧ _))
 | .u64 => inferInstanceAs (Decidable (_ ∧ _))
instance decNo : Decidable no.1 := isFalse id
instance (op : BinOp) (a b : Int) : Decidable (cmpV op a b).1 := by
 unfold cmpV; split <;> first | exact isTrue trivial | exact decNo
instance (op : BinOp) (k : IntKind) (a b : Int) : Decidable (intV op k a b).1 := by
 unfold intV; split <;> infer_instance
instance (op : BinOp) (a b : ByteArray) : Decidable (strV op a b).1 := by
 unfold strV; split <;> first | exact isTrue trivial | exact decNo | exact inferInstanceAs (Decidable (_ ≤ _))
instance (s : ByteArray) (a b : Int) : Decidable (subS s a b).1 := inferInstanceAs (Decidable (_ ∧ _))
instance (op : BinOp) (t : TyK) (x y : RV) : Decidable (binV op t x y).1 := by
 unfold binV
 split
 ·infer_instance
 ·split
  ·split <;> first | exact isTrue trivial | exact decNo
  ·exact decNo
 ·infer_instance
 ·exact decNo
instance (op : UnOp) (x : RV) : Decidable (unV op x).1 := by
 unfold unV
 split
 ·split <;> first | exact isTrue trivial | exact decNo
 ·split <;> first | infer_instance | exact decNo
 ·exact decNo
instance (a b c : RV) : Decidable (pickV a b c).1 := by
 unfold pickV; split <;> first | exact isTrue trivial | exact decNo | infer_instance
instance (H : List Root) (id st len : Nat) : Decidable (vld H id st len) := by
 unfold vld; split <;> infer_instance
instance (H : List Root) (id n : Nat) : Decidable (vldP H id n) := by
 unfold vldP; split <;> infer_instance
instance (H : List Root) (id st len : Nat) : Decidable (vldF H id st len) := by
 unfold vldF; split <;> infer_instance
instance (k : TyK) (H : List Root) (x : RV) : Decidable (lenV k H x).1 := by
 unfold lenV; repeat' split
 all_goals first | exact decNo | exact isTrue trivial | infer_instance
instance (k : TyK) (H : List Root) (x : RV) (f : Nat) : Decidable (fieldV k H x f).1 := by
 unfold fieldV; repeat' split
 all_goals first | exact decNo | exact isTrue trivial | infer_instance
instance (ty : Ty) (k : TyK) (H : List Root) (x y : RV) : Decidable (indexV ty k H x y).1 := by
 unfold indexV; repeat' split
 all_goals first | exact decNo | exact isTrue trivial | infer_instance
instance (c : Option CK) : Decidable (wldV c).1 := by
 unfold wldV; split <;> first | exact decNo | exact isTrue trivial
instance (e : TyE) (H : List Root) (x : RV) : Decidable (loadV e H x).1 := by
 unfold loadV; repeat' split
 all_goals first | exact decNo | exact isTrue trivial | infer_instance
instance decNth : ∀ (l : List RV) (i : Nat), Decidable (nthR l i).1
 | [], _ => decNo
 | _ :: _, 0 => isTrue trivial
 | _ :: l, i + 1 => decNth l i
instance (x : RV) (i : Nat) : Decidable (extV x i).1 := by
 unfold extV; repeat' split
 all_goals first | exact decNo | exact isTrue trivial | infer_instance
instance (s k : TyK) (x : RV) : Decidable (convV s k x).1 := by
 unfold convV; repeat' split
 all_goals first | exact decNo | exact isTrue trivial | infer_instance
instance (b : Bool) (x y : RV) : Decidable (mmV b x y).1 := by
 unfold mmV; repeat' split
 all_goals first | exact decNo | exact isTrue trivial | infer_instance
instance (k : TyK) (x y : RV) : Decidable (slc2 k x y).1 := by
 unfold slc2; repeat' split
 all_goals first | exact decNo | exact isTrue trivial | infer_instance
instance (H : List Root) (x : RV) : Decidable (nchV H x).1 := by
 unfold nchV; repeat' split
 all_goals first | exact decNo | exact isTrue trivial | infer_instance
instance (k : TyK) (x y : RV) : Decidable (idxS k x y).1 := by
 unfold idxS; repeat' split
 all_goals first | exact decNo | exact isTrue trivial | infer_instance
instance (ty : Ty) (k : TyK) (x y : RV) : Decidable (slc1 ty k x y).1 := by
 unfold slc1; repeat' split
 all_goals first | exact decNo | exact isTrue trivial | infer_instance
instance (k : TyK) (x y z : RV) : Decidable (slc3 k x y z).1 := by
 unfold slc3; repeat' split
 all_goals first | exact decNo | exact isTrue trivial | infer_instance
instance (ty : Ty) (k : TyK) (rd : Operand → Bool × RV) (x : RV) (a b c : Option Operand) : Decidable (slcV ty k rd x a b c).1 := by
 unfold slcV; repeat' split
 all_goals first | exact decNo | exact isTrue trivial | infer_instance
instance decG (g : Bool) : ∀ l : List Bool, Decidable (gOk g l)
 | [] => isTrue trivial
 | h :: l => @instDecidableAnd _ _ (inferInstance) (decG g l)
instance decBd (pl : Nat → Nat × Nat) (rd : Operand → Bool × RV) : ∀ (l : List AV) (ps : List (Nat × Operand)), Decidable (buildV pl rd l ps).1
 | l, [] => isTrue trivial
 | l, (i, x) :: ps => @instDecidableAnd _ _ (inferInstance) (decBd pl rd _ ps)
instance (fn : Fn) (a : List Operand) (l : List RV) : Decidable (mkfV fn a l).1 := by
 unfold mkfV; repeat' split
 ·unfold funV; split <;> first | exact decNo | exact isTrue trivial
 ·exact decNo
instance (ty : Ty) (H : List Root) (b : Builtin) (ts : List TypeId) (l : List RV) : Decidable (bltV ty H b ts l).1 := by
 unfold bltV; repeat' split
 all_goals first | exact decNo | exact isTrue trivial | infer_instance
instance (ty : Ty) (g : Bool) (rd : Operand → Bool × RV) (H : List Root) (o : Op) : Decidable (opV ty g rd H o).1 := by
 unfold opV; repeat' split
 all_goals first | exact decNo | exact isTrue trivial | infer_instance
example : decide (binV .add .b (.c (.int .i64 3)) (.c (.int .i64 4))).1 = true := by decide +kernel
example : (match (if (binV .add .b (.c (.int .i64 3)) (.c (.int .i64 4))).1 then (binV .add .b (.c (.int .i64 3)) (.c (.int .i64 4))).2 else .c .junk) with | .c (.int _ n) => n == 7 | _ => false) = true := by decide +kernel
def frB : List AV → Bool
 | [] => true
 | a :: l => a.fr && frB l
theorem fr_frz {H : List Root} : ∀ {l : List AV}, frB l = true → frzOk H l ∧ frzH H l = H ∧ frzL H l = l
 | [], _ => ⟨trivial, rfl, rfl⟩
 | a :: l, h => by
  simp only [frB, Bool.and_eq_true] at h
  obtain ⟨h1, h2⟩ := h
  obtain ⟨g1, g2, g3⟩ := fr_frz (H := H) h2
  cases a <;> first | (cases h1; done) | exact ⟨g1, g2, by simp only [frzL, frz, g3]⟩
instance (k : TyK) : Decidable (kN k) := by unfold kN; split <;> first | exact isTrue trivial | exact isFalse id
instance (sz : Nat) (r : Row) (i o : Nat) (cs : List AV) : Decidable (r.put sz i o cs).1 := by
 unfold Row.put; split <;> first | exact isTrue trivial | exact isFalse id | infer_instance
def stoB (e : TyE) (H : List Root) (p v : RV) (K : List Root → Bool) : Bool :=
 match p with
 | .c (.ptr id n i o) => match rootAt H id with
  | .live fz t sz r => (!fz && decide ((cellsR v).length = e.sz ∧ r.len = n ∧ i < n ∧ o + e.sz ≤ sz ∧ 0 < e.sz ∧ kN e.k)) &&
   (if r.isBox then njL (cellsR v) && K (setRoot H id (.live false t sz (r.put sz i o (cellsR v)).2))
   else frB (cellsR v) && (decide (r.put sz i o (cellsR v)).1 && K (setRoot H id (.live false t sz (r.put sz i o (cellsR v)).2))))
  | .dead => false
 | _ => false
theorem stoB_ok {e : TyE} {H : List Root} {p v : RV} {K : List Root → Bool} (h : stoB e H p v K = true) : stoT e H p v (fun H => K H = true) := by
 unfold stoB at h
 split at h
 ·rename_i id n i o
  split at h
  ·rename_i fz t sz r hr
   simp only [Bool.and_eq_true, Bool.not_eq_true', decide_eq_true_eq] at h
   obtain ⟨⟨hf, hc⟩, h⟩ := h
   unfold stoT
   simp only
   unfold storeV
   simp only [hr]
   refine ⟨hf, hc, ?_⟩
   split at h
   ·rename_i hb
    rw [if_pos hb]
    simpa [Bool.and_eq_true] using h
   ·rename_i hb
    rw [if_neg hb]
    simp only [Bool.and_eq_true, decide_eq_true_eq] at h
    obtain ⟨h1, h2, h3⟩ := h
    obtain ⟨g1, g2, g3⟩ := fr_frz (H := H) h1
    rw [g2, g3]
    exact ⟨g1, by rw [hr, hf], h2, h3⟩
  ·cases h
 ·cases h
instance (k : TyK) (els : List (List AV)) : Decidable (mkRow k els).1 := by
 unfold mkRow; repeat' split
 all_goals first | exact isTrue trivial | exact isFalse id
def litB (ty : Ty) (e : TypeId) (H : List Root) (n : Nat) (ok : Bool) (l : List AV) (K : RV → List Root → Bool) : Bool :=
 match (ty e).wk with
 | some [] => ok && (njL l && (decide (0 < (ty e).sz ∧ n * (ty e).sz ≤ 16777216) && K (.c (.h H.length 0 n)) (H ++ [.live false e (ty e).sz (.own (chunk (ty e).sz n l))])))
 | none => ok && (frB l && (decide (mkRow (ty e).k (chunk (ty e).sz n l)).1 && (decide (0 < (ty e).sz ∧ n * (ty e).sz ≤ 16777216) && K (.c (.h H.length 0 n)) (H ++ [.live false e (ty e).sz (mkRow (ty e).k (chunk (ty e).sz n l)).2]))))
 | _ => false
theorem litB_ok {ty : Ty} {e : TypeId} {H : List Root} {n : Nat} {q : Prop × List AV} [Decidable q.1] {K : RV → List Root → Bool} (h : litB ty e H n (decide q.1) q.2 K = true) :
  ((ty e).wk = none ∧ litV ty e H n q (fun r H => K r H = true)) ∨ ((ty e).wk = some [] ∧ litO ty e H n q (fun r H => K r H = true)) := by
 unfold litB at h
 split at h
 ·rename_i hw
  simp only [Bool.and_eq_true, decide_eq_true_eq] at h
  exact .inr ⟨hw, h⟩
 ·rename_i hw
  simp only [Bool.and_eq_true, decide_eq_true_eq] at h
  obtain ⟨h1, h2, h3, h4, h5⟩ := h
  obtain ⟨g1, g2, g3⟩ := fr_frz (H := H) h2
  refine .inl ⟨hw, ?_⟩
  unfold litV
  rw [g2, g3]
  exact ⟨h1, g1, h3, h4, h5⟩
 ·cases h
instance decFrz (H : List Root) : ∀ l : List AV, Decidable (frzOk H l)
 | [] => isTrue trivial
 | .h id st len :: l => @instDecidableAnd _ _ inferInstance (decFrz H l)
 | .ptr .. :: _ => isFalse id
 | .junk :: _ => isFalse id
 | .ws .. :: _ => isFalse id
 | .wu .. :: _ => isFalse id
 | .wp .. :: _ => isFalse id
 | .int .. :: l => decFrz H l
 | .bool .. :: l => decFrz H l
 | .flt .. :: l => decFrz H l
 | .str .. :: l => decFrz H l
 | .nilp :: l => decFrz H l
 | .nils :: l => decFrz H l
 | .sl .. :: l => decFrz H l
 | .rp .. :: l => decFrz H l
def zOkB (k : TyK) (z : List AV) : Bool :=
 match k with
 | .i k => match z with
  | [.int k' n] => decide (k = k') && decide (n = 0)
  | _ => false
 | .b => match z with
  | [.bool b] => !b
  | _ => false
 | .no => false
 | .str => decide (frzOk [] z)
 | .sc => decide (frzOk [] z)
 | .st _ => decide (frzOk [] z)
 | .ar .. => decide (frzOk [] z)
 | .sl _ => decide (frzOk [] z)
theorem zOkB_ok {k : TyK} {z : List AV} (h : zOkB k z = true) : zOk k z := by
 cases k with
 | i k =>
  simp only [zOkB] at h
  split at h
  ·simp only [Bool.and_eq_true, decide_eq_true_eq] at h; obtain ⟨rfl, rfl⟩ := h; rfl
  ·cases h
 | b =>
  simp only [zOkB] at h
  split at h
  ·simp only [Bool.not_eq_true'] at h; subst h; rfl
  ·cases h
 | no => cases h
 | _ => exact of_decide_eq_true (p := frzOk [] z) h
def makeB (ty : Ty) (k : TyK) (H : List Root) (n c : RV) (K : RV → List Root → Bool) : Bool :=
 match k with
 | .sl e => match n, c with
  | .c (.int _ n), .c (.int _ c) => (decide (0 ≤ n ∧ n ≤ 1099511627776 ∧ c = n ∧ 0 < (ty e).sz ∧ (ty e).bytes ≤ 128) && zOkB (ty e).k (ty e).zero) && K (.c (.h H.length 0 n.toNat)) (H ++ [.live false e (ty e).sz (zerosW (ty e).wk (ty e).k (ty e).zero n.toNat)])
  | _, _ => false
 | _ => false
theorem makeB_ok {ty : Ty} {k : TyK} {H : List Root} {n c : RV} {K : RV → List Root → Bool} (h : makeB ty k H n c K = true) : makeV ty k H n c (fun r H => K r H = true) := by
 unfold makeB at h
 split at h
 ·split at h
  ·simp only [Bool.and_eq_true, decide_eq_true_eq] at h
   obtain ⟨⟨⟨h1, h2, h3, h4, h5⟩, h6⟩, h7⟩ := h
   exact ⟨⟨h1, h2, h3, h4, h5, zOkB_ok h6⟩, h7⟩
  ·cases h
 ·cases h
instance (H : List Root) (x : RV) : Decidable (appSrc H x).1 := by
 unfold appSrc; repeat' split
 all_goals first | exact isFalse id | infer_instance
instance (r s : Row) : Decidable (r.app s).1 := by
 unfold Row.app; split <;> first | exact isTrue trivial | exact isFalse id | infer_instance
def appB (ty : Ty) (k : TyK) (H : List Root) (s x : RV) (K : RV → List Root → Bool) : Bool :=
 match k with
 | .sl e => (match (ty e).wk with
   | none => true
   | some [] => true
   | _ => false) && (decide ((appSrc H x).1 ∧ (appSrc H x).2.2 = (ty e).sz ∧ 0 < (ty e).sz ∧ (ty e).bytes ≤ 128) &&
  match s with
  | .c .nils => decide (0 < (appSrc H x).2.1.len ∧ (appSrc H x).2.1.len ≤ 1099511627776) && K (.c (.h H.length 0 (appSrc H x).2.1.len)) (H ++ [.live false e (ty e).sz (appSrc H x).2.1])
  | .c (.h id st len) => match rootAt H id with
   | .live fz t sz r => decide (fz = false ∧ st = 0 ∧ len = r.len ∧ t = e ∧ sz = (ty e).sz ∧ len + (appSrc H x).2.1.len ≤ 1099511627776) && (decide (r.app (appSrc H x).2.1).1 && K (.c (.h id 0 (len + (appSrc H x).2.1.len))) (setRoot H id (.live false t sz (r.app (appSrc H x).2.1).2)))
   | .dead => false
  | _ => false)
 | _ => false
theorem appB_ok {ty : Ty} {k : TyK} {H : List Root} {s x : RV} {K : RV → List Root → Bool} (h : appB ty k H s x K = true) : appT ty k H s x (fun r H => K r H = true) := by
 unfold appB at h
 split at h
 ·rename_i e
  simp only [Bool.and_eq_true, decide_eq_true_eq] at h
  obtain ⟨hw, ⟨h1, h2, h3, h4⟩, h⟩ := h
  have hv : appV ty (.sl e) H s x (fun r H => K r H = true) := by
   unfold appV
   refine ⟨h1, h2, h3, h4, ?_⟩
   split at h
   ·simpa [Bool.and_eq_true] using h
   ·split at h
    ·rename_i hr
     simp only [hr]
     simpa [Bool.and_eq_true] using h
    ·cases h
   ·cases h
  unfold appT
  simp only
  split
  ·exact hv
  ·exact hv
  ·rename_i hk; rw [hk] at hw; cases hw
 ·cases h
abbrev CallB := Pu → FuncId → List RV → List Root → (RV → List Root → Bool) → Bool
section
variable (ty : Ty) (call : CallB)
def effB (pu : Pu) (tm : Tm) (rd : Operand → Bool × RV) (H : List Root) (o : Oper) (K : AS → Bool) : Bool :=
 match o.op with
 | .box t x => decide ((cellsR (rd x).2).length = (ty t).sz ∧ 0 < (ty t).sz ∧ njL (cellsR (rd x).2) = true) && K ⟨putT tm true o.dst (.c (.ptr H.length 1 0 0)), H ++ [.live false t (ty t).sz (.box (cellsR (rd x).2))]⟩
 | .alloc t => decide (0 < (ty t).sz ∧ kN (ty t).k) && K ⟨putT tm true o.dst (.c (.ptr H.length 1 0 0)), H ++ [.live false t (ty t).sz (.box (ty t).zero)]⟩
 | .store t p v => pu.isNone && stoB (ty t) H (rd p).2 (rd v).2 (fun H => K ⟨putT tm true o.dst (.c .junk), H⟩)
 | .buildSlice t n ps => match (ty t).k with
  | .sl e => litB ty e H n (decide (buildV (fun i => (i * (ty e).sz, (ty e).sz)) rd (rep (ty e).zero n) ps.toList).1) (buildV (fun i => (i * (ty e).sz, (ty e).sz)) rd (rep (ty e).zero n) ps.toList).2 (fun r H => K ⟨putT tm true o.dst r, H⟩)
  | _ => false
 | .makeSlice t n c => makeB ty (ty t).k H (rd n).2 (rd c).2 (fun r H => K ⟨putT tm true o.dst r, H⟩)
 | .call c => match c.callee with
  | .builtin .append => match c.args.toList with
   | [s, x] => pu.isNone && (decide (c.argTypes.toList = [c.argTypes.getD 0 0, c.argTypes.getD 0 0]) && appB ty (ty (c.argTypes.getD 0 0)).k H (rd s).2 (rd x).2 (fun r H => K ⟨putT tm true o.dst r, H⟩))
   | _ => false
  | .value f => match (rd f).2 with
   | .fn f caps => call pu f (rds rd c.args.toList ++ caps.map .c) H (fun r H => K ⟨putT tm true o.dst r, H⟩)
   | _ => false
  | _ => false
 | _ => false
end
section
variable {P : Program} {ty : Ty} {call : CallB} {pu : Pu} {tm : Tm} {rd : Operand → Bool × RV} {H : List Root} {o : Oper} {K : AS → Bool}
theorem effB_ok (hcall : ∀ pu f args H K, call pu f args H K = true → callK P pu f args H (fun r H => K r H = true)) (h : effB ty call pu tm rd H o K = true) : eff P ty pu tm rd H o (fun σ => K σ = true) := by
 have hpu : pu.isNone = true → pu = none := fun h => by cases pu <;> first | rfl | cases h
 obtain ⟨d, op, ot, po, af, gd⟩ := o
 cases op with
 | box t x =>
  dsimp only [effB] at h
  simp only [Bool.and_eq_true, decide_eq_true_eq] at h
  exact h
 | alloc t =>
  dsimp only [effB] at h
  simp only [Bool.and_eq_true, decide_eq_true_eq] at h
  exact h
 | store t p v =>
  dsimp only [effB] at h
  simp only [Bool.and_eq_true] at h
  obtain ⟨h1, h2⟩ := h
  cases hpu h1
  exact ⟨trivial, stoB_ok h2⟩
 | buildSlice t n ps =>
  dsimp only [effB] at h
  dsimp only [eff]
  split at h
  ·rename_i hk
   simp only [hk]
   rcases litB_ok h with ⟨hw, h⟩ | ⟨hw, h⟩
   ·simp only [hw]; exact h
   ·simp only [hw]; exact h
  ·cases h
 | makeSlice t n c =>
  dsimp only [effB] at h
  exact makeB_ok h
 | call c =>
  dsimp only [effB] at h
  dsimp only [eff]
  split at h
  ·rename_i hc
   split at h
   ·rename_i hargs
    simp only [Bool.and_eq_true, decide_eq_true_eq] at h
    obtain ⟨h1, h2, h3⟩ := h
    cases hpu h1
    simp only [hc, hargs]
    exact ⟨trivial, apK_of h2 (appB_ok h3)⟩
   ·cases h
  ·rename_i hc
   split at h
   ·rename_i hf
    simp only [hc, hf]
    exact hcall _ _ _ _ _ h
   ·cases h
  ·cases h
 | _ => cases h
end
section
variable (ty : Ty) (call : CallB)
def opB (pu : Pu) (ops : Array Oper) (σ : AS) (o : Oper) (K : AS → Bool) : Bool :=
 match guardOf σ.tm ops o.guard with
 | none => false
 | some g => decide (gOk g (opGs σ.rd o.op)) &&
  (if isV o.op then (!g || decide (opV ty g σ.rd σ.H o.op).1) && K ⟨putT σ.tm g o.dst (opV ty g σ.rd σ.H o.op).2, σ.H⟩
  else if g then effB ty call pu σ.tm σ.rd σ.H o K else K ⟨putT σ.tm g o.dst (.c .junk), σ.H⟩)
end
section
variable {P : Program} {ty : Ty} {call : CallB} {pu : Pu} {ops : Array Oper}
theorem opB_ok (hcall : ∀ pu f args H K, call pu f args H K = true → callK P pu f args H (fun r H => K r H = true)) {σ : AS} {o : Oper} {K : AS → Bool} (h : opB ty call pu ops σ o K = true) : awpO P ty pu none ops σ o (fun σ => K σ = true) := by
 unfold opB at h
 unfold awpO
 split at h
 ·cases h
 ·rename_i g hg
  simp only [Bool.and_eq_true, decide_eq_true_eq] at h
  obtain ⟨h1, h2⟩ := h
  split at h2
  ·rename_i hv
   rw [if_pos hv]
   unfold awpV
   simp only [hg]
   simp only [Bool.and_eq_true, Bool.or_eq_true, Bool.not_eq_true', decide_eq_true_eq] at h2
   exact ⟨h1, trivial, fun e => by rcases h2.1 with q | q <;> simp_all, h2.2⟩
  ·rename_i hv
   rw [if_neg hv]
   refine ⟨trivial, ?_⟩
   unfold awpE
   simp only [hg]
   refine ⟨h1, fun e => ?_, fun e => ?_⟩
   ·subst e; exact effB_ok hcall h2
   ·subst e; exact h2
theorem callK_mono {f : FuncId} {args : List RV} {H : List Root} {K K' : RV → List Root → Prop} (hK : ∀ r H, K r H → K' r H) (h : callK P pu f args H K) : callK P pu f args H K' :=
 ⟨h.1, fun E M w vs hr hc => (h.2 E M w vs hr hc).mono fun e w' hh => hh.imp (fun ⟨M', H', r, v, e1, e2, e3, e4, e5, e6, e7⟩ => ⟨M', H', r, v, e1, e2, e3, e4, e5, e6, hK _ _ e7⟩) id⟩
end
theorem glob_con {rho : Nat → Prop} {w : World} {g : Nat} {x : AV} (h : glV g = some x) (_ : GlobOk w) (_ : rho g) : Con0 rho w x (.pointer (some ⟨g, 0, none⟩)) := by cases h
theorem glob_triv {rho : Nat → Prop} {w : World} : GlobIn rho w := ⟨trivial, fun _ _ h => by cases h⟩
noncomputable def lkF (tm : Tm) (t : Nat) : Bool × RV := List.rec (motive := fun _ => Bool × RV) (true, .c .junk) (fun e _ ih => Bool.rec ih e.2 (Nat.beq e.1 t)) tm
theorem lkF_eq : ∀ (tm : Tm) (t : Nat), lkF tm t = lk tm t
 | [], _ => rfl
 | (k, v) :: l, t => by
  have e : lkF ((k, v) :: l) t = Bool.rec (lkF l t) v (Nat.beq k t) := rfl
  rw [e, lkF_eq l t]
  by_cases h : k = t
  ·subst h; rw [Nat.beq_refl]; simp [lk]
  ·have : Nat.beq k t = false := by rw [Bool.eq_false_iff]; exact fun hh => h (Nat.eq_of_beq_eq_true hh)
   rw [this]; simp [lk, h]
noncomputable def rdF (σ : AS) (x : Operand) : Bool × RV :=
 match x with
 | .tmp t => lkF σ.tm t
 | .const v => (true, ofConst v)
 | .func f => (true, .fn f [])
 | .global _ => (true, .c .junk)
theorem rdF_eq (σ : AS) : rdF σ = σ.rd := by
 funext x
 cases x with
 | tmp t => exact lkF_eq σ.tm t
 | _ => rfl
noncomputable def guardF (tm : Tm) (ops : Array Oper) (gd : Option (Nat × Bool)) : Option Bool :=
 match gd with
 | none => some true
 | some (j, want) => match nthO ops.toList j with
  | some o => match o.dst with
   | some d => match lkF tm d with
    | (g, .c (.bool b)) => some (g && (if want then b else !b))
    | _ => none
   | none => none
  | none => none
theorem guardF_eq (tm : Tm) (ops : Array Oper) (gd : Option (Nat × Bool)) : guardF tm ops gd = guardOf tm ops gd := by
 unfold guardF guardOf
 simp only [lkF_eq]
 cases gd <;> rfl
noncomputable def fxF (tm : Tm) : List Nat → Tm
 | [] => []
 | t :: l => (t, lkF tm t) :: fxF tm l
theorem fxF_eq (tm : Tm) : ∀ l : List Nat, fxF tm l = fxT tm l
 | [] => rfl
 | t :: l => by simp only [fxF, fxT, lkF_eq, fxF_eq tm l]
section
variable (P : Program) (ty : Ty)
def bitV (op : BinOp) : RV → RV → Option RV
 | .c (.int k a), .c (.int k' b) => match op with
  | .shl => if 0 ≤ b then some (.c (.int k (k.wrap (a * 2 ^ min b.toNat k.bits)))) else none
  | .shr => if 0 ≤ b then some (.c (.int k (a.fdiv (2 ^ min b.toNat k.bits)))) else none
  | .and => if k = k' then some (.c (.int k (k.wrap (BitVec.ofInt k.bits a &&& BitVec.ofInt k.bits b).toNat))) else none
  | .or => if k = k' then some (.c (.int k (k.wrap (BitVec.ofInt k.bits a ||| BitVec.ofInt k.bits b).toNat))) else none
  | .andNot => if k = k' then some (.c (.int k (k.wrap (BitVec.ofInt k.bits a &&& ~~~BitVec.ofInt k.bits b).toNat))) else none
  | .xor => if k = k' then some (.c (.int k (k.wrap (BitVec.ofInt k.bits a ^^^ BitVec.ofInt k.bits b).toNat))) else none
  | .mul => if k = k' then some (.c (.int k (k.wrap (a * b)))) else none
  | _ => none
 | _, _ => none
def nilV (H : List Root) (t : TypeId) : RV → RV → Option Bool
 | .c (.ptr id n _ _), .c .nilp => match P.underlying t, rootAt H id with
  | some (.pointer _), .live _ _ _ r => if r.len = n then some false else none
  | _, _ => none
 | .c .nilp, .c .nilp => match P.underlying t with
  | some (.pointer _) => some true
  | _ => none
 | .c .nils, .c .nils => match P.underlying t with
  | some (.slice _) => some true
  | _ => none
 | .c (.h id st n), .c .nils => match P.underlying t, rootAt H id with
  | some (.slice _), .live _ _ _ r => if st + n = r.len then some false else none
  | _, _ => none
 | .c (.sl n _ _), .c .nils => match P.underlying t with
  | some (.slice _) => if 0 < n then some false else none
  | _ => none
 | _, _ => none
def eqFs (l m : List AV) : List Field → Option Bool
 | [] => some true
 | f :: fs => match f.name == "_", P.underlying f.type, nth l f.offset, nth m f.offset with
  | false, some (.int _), .int k a, .int k' b => if k = k' then (eqFs l m fs).map fun r => decide (a = b) && r else none
  | false, some .bool, .bool a, .bool b => (eqFs l m fs).map fun r => (a == b) && r
  | _, _, _, _ => none
def cmpA (H : List Root) (t : TypeId) (p q : RV) : Option Bool :=
 match p, q with
 | .agg l, .agg m => if P.stoodInHeld t = false ∧ P.eqGuardType P.depth t = false then (match P.underlying t with
  | some (.struct fs) => eqFs P l m fs.toList
  | _ => none) else none
 | p, q => nilV P H t p q
def eqlV (H : List Root) (op : BinOp) (t : TypeId) (p q : RV) : Option RV :=
 match op with
 | .eql => (cmpA P H t p q).map fun b => .c (.bool b)
 | .neq => (cmpA P H t p q).map fun b => .c (.bool (!b))
 | _ => none
def slcL (k : TyK) (H : List Root) : RV → RV → Option RV
 | .c .nils, .c (.int _ m) => match k with
  | .sl _ => if m = 0 then some (.c .nils) else none
  | _ => none
 | .c (.sl n sz f), .c (.int _ m) => match k with
  | .sl e => if 0 ≤ m ∧ m < n ∧ sz = (ty e).sz then some (.c (.sl (n - m.toNat) sz fun i j => f (i + m.toNat) j)) else none
  | _ => none
 | .c (.h id st n), .c (.int _ m) => match k with
  | .sl e => match rootAt H id with
   | .live _ _ sz r => if 0 ≤ m ∧ m ≤ n ∧ st + n = r.len ∧ sz = (ty e).sz then some (.c (.h id (st + m.toNat) (n - m.toNat))) else none
   | .dead => none
  | _ => none
 | _, _ => none
def slcM (k : TyK) : RV → RV → RV → Option RV
 | .c (.sl n sz f), .c (.int _ l), .c (.int _ m) => match k with
  | .sl e => if 0 ≤ l ∧ l < m ∧ m ≤ n ∧ sz = (ty e).sz then some (.c (.sl (m.toNat - l.toNat) sz fun i j => f (i + l.toNat) j)) else none
  | _ => none
 | _, _, _ => none
def arrV (t : TypeId) : RV → RV → Option RV
 | .agg l, .c (.int _ i) => match P.underlying t with
  | some (.array n e) => match P.underlying e with
   | some (.struct _) => none
   | some (.array _ _) => none
   | some _ => if 0 ≤ i ∧ i < n ∧ i.toNat * P.cellsOf e < l.length ∧ (P.info? e).isSome = true then some (.c (nth l (i.toNat * P.cellsOf e))) else none
   | none => none
  | _ => none
 | _, _ => none
def rdO (rd : Operand → Bool × RV) (x : Operand) : Option RV :=
 match x with
 | .global g => (glV g).map .c
 | x => match rd x with
  | (true, v) => some v
  | _ => none
def chrV (t : TypeId) : RV → RV → Option RV
 | .c (.str s), .c (.int _ i) => match P.underlying t with
  | some .string => match (if 0 ≤ i then s[i.toNat]? else none) with
   | some b => some (.c (.int .u8 b.toNat))
   | none => none
  | _ => none
 | _, _ => none
def garV (t : TypeId) : RV → RV → Option RV
 | .c (.rp m f), .c (.int _ i) => match P.underlying t with
  | some (.array n e) => if 0 ≤ i ∧ i < n ∧ (i.toNat + 1) * P.cellsOf e ≤ m ∧ (P.info? e).isSome = true then some (.c (.rp (P.cellsOf e) fun j => f (i.toNat * P.cellsOf e + j))) else none
  | _ => none
 | _, _ => none
def negV : RV → Option RV
 | .c (.int k a) => some (.c (.int k (k.wrap (-a))))
 | _ => none
def ifcT (t : TypeId) : Bool :=
 match P.underlying t with
 | some (.interface _) => false
 | some _ => true
 | none => false
def newV (rd : Operand → Bool × RV) (H : List Root) : Op → Option RV
 | .nilCheck x => match rdO rd x with
  | some (.c (.ptr id n i o)) => match rootAt H id with
   | .live _ _ _ r => if r.len = n then some (.c (.ptr id n i o)) else none
   | .dead => none
  | some (.c (.rp n f)) => some (.c (.rp n f))
  | _ => none
 | .makeInterface t x => (rdO rd x).bind fun v => if ifcT P t then some (.ifc t v) else none
 | .typeAssert x _ tt ok => match rdO rd x with
  | some (.ifc t v) => if t = tt ∧ ok = false ∧ ifcT P tt = true then some v else none
  | _ => none
 | .binOp op t x y _ => (rdO rd x).bind fun p => (rdO rd y).bind fun q => match bitV op p q with
  | some r => some r
  | none => eqlV P H op t p q
 | .slice t x (some lo) none none => (rdO rd x).bind fun p => (rdO rd lo).bind fun q => slcL ty (ty t).k H p q
 | .slice t x (some lo) (some hi) none => (rdO rd x).bind fun p => (rdO rd lo).bind fun q => (rdO rd hi).bind fun s => slcM ty (ty t).k p q s
 | .index t x i => (rdO rd x).bind fun p => (rdO rd i).bind fun q => match chrV P t p q with
  | some r => some r
  | none => arrV P t p q
 | .indexAddr t x i => (rdO rd x).bind fun p => (rdO rd i).bind fun q => garV P t p q
 | .field t x f => (rdO rd x).bind fun p => fldV P t f p
 | .unOp op _ x => match op with
  | .neg => (rdO rd x).bind negV
  | _ => none
 | .build t ps => match (ty t).k with
  | .ar _ esz => if gOk true (pgs rd ps.toList) ∧ (buildV (fun i => (i * esz, esz)) rd (ty t).zero ps.toList).1 then some (.agg (buildV (fun i => (i * esz, esz)) rd (ty t).zero ps.toList).2) else none
  | _ => none
 | _ => none
end
section
variable {P : Program} {ty : Ty} {E : Env} {nt : Nat} {M : Mp} {σ : AS} {a : Act} {w : World}
theorem rdO_ok (h : St E nt M σ a w) {x : Operand} {v : RV} (hx : rdO σ.rd x = some v) : ConR M σ.H w v (a.eval x) := by
 unfold rdO at hx
 split at hx
 ·rename_i g
  obtain ⟨b, hb, rfl⟩ := Option.map_eq_some_iff.1 hx
  exact Con.of0 (glob_con hb h.rel.glob.1 (h.rel.glob.2 g b hb))
 ·rename_i x' hng
  split at hx
  ·rename_i u e
   cases hx
   have := h.rd (x := x) (by rw [e])
   rw [e] at this
   exact this
  ·cases hx
theorem bit_ok (op : BinOp) (t : TypeId) {p q r : RV} {u v : Value} (hp : ConR M σ.H w p u) (hq : ConR M σ.H w q v) (h : bitV op p q = some r) (x y : Operand) : ∃ z, ConR M σ.H w r z ∧ ∀ w', (do eqGuard op t x y u v; binOp op t u v).run P w' = .ok z w' := by
 unfold bitV at h
 split at h
 ·rename_i k m k' n
  obtain rfl := con_int hp
  obtain rfl := con_int hq
  simp only [Sem.run_bind, run_eqG_int]
  split at h
  ·split at h <;> cases h
   rename_i h0
   exact ⟨_, rfl, fun w' => by simp [Result.andThen, binOp, Op.shift, Int.not_lt.2 h0]⟩
  ·split at h <;> cases h
   rename_i h0
   exact ⟨_, rfl, fun w' => by simp [Result.andThen, binOp, Op.shift, Int.not_lt.2 h0]⟩
  ·split at h <;> cases h
   rename_i h0
   subst h0
   exact ⟨_, rfl, fun w' => by simp [Result.andThen, binOp, Op.intBits]⟩
  ·split at h <;> cases h
   rename_i h0
   subst h0
   exact ⟨_, rfl, fun w' => by simp [Result.andThen, binOp, Op.intBits]⟩
  ·split at h <;> cases h
   rename_i h0
   subst h0
   exact ⟨_, rfl, fun w' => by simp [Result.andThen, binOp, Op.intBits]⟩
  ·split at h <;> cases h
   rename_i h0
   subst h0
   exact ⟨_, rfl, fun w' => by simp [Result.andThen, binOp, Op.intBits]⟩
  ·split at h <;> cases h
   rename_i h0
   subst h0
   exact ⟨_, rfl, fun w' => by simp [Result.andThen, binOp, Op.intArith]⟩
  ·cases h
 ·cases h
theorem run_eqS {t : TypeId} {u v : Value} {b : Bool} (h : (Op.equalIn Op.maxDepth t u v).run P w = .ok b w) (hu : ∀ k n, u ≠ .int k n) (h1 : ∀ k n, u ≠ .float k n) (h2 : ∀ k m n, u ≠ .complex k m n) (h3 : ∀ s, u ≠ .string s) :
  (binOp .eql t u v).run P w = .ok (.bool b) w ∧ (binOp .neq t u v).run P w = .ok (.bool (!b)) w := by
 have e1 : binOp .eql t u v = (do pure (.bool (← Op.equal t u v))) := by
  cases u <;> first | rfl | (exfalso; first | exact hu _ _ rfl | exact h1 _ _ rfl | exact h2 _ _ _ rfl | exact h3 _ rfl)
 have e2 : binOp .neq t u v = (do pure (.bool (!(← Op.equal t u v)))) := by
  cases u <;> first | rfl | (exfalso; first | exact hu _ _ rfl | exact h1 _ _ rfl | exact h2 _ _ _ rfl | exact h3 _ rfl)
 rw [e1, e2]
 constructor
 ·rw [Sem.run_bind, show (Op.equal t u v).run P w = .ok b w from h]; rfl
 ·rw [Sem.run_bind, show (Op.equal t u v).run P w = .ok b w from h]; rfl
theorem nil_ok {t : TypeId} {p q : RV} {u v : Value} {b : Bool} (hp : ConR M σ.H w p u) (hq : ConR M σ.H w q v) (h : nilV P σ.H t p q = some b) (d : Nat) :
  (∀ w', (Op.equalIn (d + 1) t u v).run P w' = .ok b w') ∧ ((∃ x, u = .pointer x) ∨ ∃ x n c, u = .slice x n c) ∧ ((∃ x, v = .pointer x) ∨ ∃ x n c, v = .slice x n c) := by
 unfold nilV at h
 split at h
 ·rename_i id n i o
  have hv : v = .pointer none := hq
  subst hv
  split at h
  ·rename_i e fz t2 sz r hu hr
   split at h <;> cases h
   rename_i hl
   have := (hp.2 _ _ _ _ hr).2 hl
   subst this
   exact ⟨fun w' => by simp [Op.equalIn, run_underlying hu], .inl ⟨_, rfl⟩, .inl ⟨_, rfl⟩⟩
  ·cases h
 ·have hv : v = .pointer none := hq
  have hu0 : u = .pointer none := hp
  subst hv hu0
  split at h <;> cases h
  rename_i e hu
  exact ⟨fun w' => by simp [Op.equalIn, run_underlying hu], .inl ⟨_, rfl⟩, .inl ⟨_, rfl⟩⟩
 ·have hv : v = .slice none 0 0 := hq
  have hu0 : u = .slice none 0 0 := hp
  subst hv hu0
  split at h <;> cases h
  rename_i e hu
  exact ⟨fun w' => by simp [Op.equalIn, run_underlying hu], .inr ⟨_, _, _, rfl⟩, .inr ⟨_, _, _, rfl⟩⟩
 ·rename_i id st n
  have hv : v = .slice none 0 0 := hq
  subst hv
  split at h
  ·rename_i e fz t2 sz r hu hr
   split at h <;> cases h
   rename_i hl
   obtain ⟨cap, cur, ad, rfl, -⟩ := (hp.2 _ _ _ _ hr).2 hl
   exact ⟨fun w' => by simp [Op.equalIn, run_underlying hu], .inr ⟨_, _, _, rfl⟩, .inr ⟨_, _, _, rfl⟩⟩
  ·cases h
 ·rename_i n sz f
  have hv : v = .slice none 0 0 := hq
  subst hv
  split at h
  ·rename_i e hu
   split at h <;> cases h
   rename_i hl
   obtain ⟨a, b2, off, c, rfl, k1, k2, k3, k4⟩ := hp
   obtain ⟨rfl, -⟩ := k3 hl
   exact ⟨fun w' => by simp [Op.equalIn, run_underlying hu], .inr ⟨_, _, _, rfl⟩, .inr ⟨_, _, _, rfl⟩⟩
  ·cases h
 ·cases h
theorem part_at (t : TypeId) {d : TypeDesc} (hd : P.underlying t = some d) (hk : match d with | .struct _ | .array _ _ => False | _ => True) {xs : List Value} {o : Nat} {z : Value} (hz : xs[o]? = some z) (w' : World) : (part t xs.toArray o).run P w' = .ok z w' := by
 have ha : (isAgg t).run P w' = .ok false w' := by
  simp only [isAgg, Sem.run_bind, run_underlying hd, Result.andThen]
  cases d <;> first | exact hk.elim | rfl
 simp [part, ha, hz]
theorem nth_con {l : List AV} {vs : List Value} (h : ConL M σ.H w l vs) {o : Nat} (hn : (nth l o).nj = true) : ∃ z, vs[o]? = some z ∧ Con M σ.H w (nth l o) z := by
 have hl := h.len
 by_cases ho : o < l.length
 ·exact ⟨vs[o]'(by omega), List.getElem?_eq_getElem _, h.get o _ (List.getElem?_eq_getElem _)⟩
 ·rw [nth_big (by omega)] at hn; cases hn
theorem eqFs_ok {l m : List AV} {xs ys : List Value} (hx : ConL M σ.H w l xs) (hy : ConL M σ.H w m ys) (d : Nat) (w' : World) : ∀ {fs : List Field} {b : Bool}, eqFs P l m fs = some b → (Op.eqFields (d + 1) xs.toArray ys.toArray fs).run P w' = .ok b w'
 | [], b, h => by cases h; rfl
 | f :: fs, b, h => by
  unfold eqFs at h
  split at h
  ·rename_i k0 k a k' c hnm hu h1 h2
   split at h
   case isFalse => cases h
   rename_i hk
   subst hk
   obtain ⟨r, hr, rfl⟩ := Option.map_eq_some_iff.1 h
   obtain ⟨z1, z2, z3⟩ := nth_con hx (o := f.offset) (by rw [h1]; rfl)
   obtain ⟨y1, y2, y3⟩ := nth_con hy (o := f.offset) (by rw [h2]; rfl)
   rw [h1] at z3
   rw [h2] at y3
   have z3 : z1 = .int k a := z3
   have y3 : y1 = .int k c := y3
   subst z3 y3
   have hn : f.name ≠ "_" := by simpa using hnm
   have ih := eqFs_ok hx hy d w' hr
   simp only [Op.eqFields, if_pos hn, Sem.run_bind, part_at f.type hu trivial z2, part_at f.type hu trivial y2, Result.andThen_ok, run_equalIn_int w' d f.type k k0 a c hu]
   by_cases hac : a = c
   ·simp [hac, ih]
   ·simp [hac]
  ·rename_i a c hnm hu h1 h2
   obtain ⟨r, hr, rfl⟩ := Option.map_eq_some_iff.1 h
   obtain ⟨z1, z2, z3⟩ := nth_con hx (o := f.offset) (by rw [h1]; rfl)
   obtain ⟨y1, y2, y3⟩ := nth_con hy (o := f.offset) (by rw [h2]; rfl)
   rw [h1] at z3
   rw [h2] at y3
   have z3 : z1 = .bool a := z3
   have y3 : y1 = .bool c := y3
   subst z3 y3
   have hn : f.name ≠ "_" := by simpa using hnm
   have ih := eqFs_ok hx hy d w' hr
   simp only [Op.eqFields, if_pos hn, Sem.run_bind, part_at f.type hu trivial z2, part_at f.type hu trivial y2, Result.andThen_ok, run_equalIn_bool' w' d f.type a c hu]
   by_cases hac : a = c
   ·simp [hac, ih]
   ·simp [hac]
  ·cases h
theorem eql_ok (op : BinOp) (t : TypeId) {p q r : RV} {u v : Value} (hp : ConR M σ.H w p u) (hq : ConR M σ.H w q v) (h : eqlV P σ.H op t p q = some r) (x y : Operand) : ∃ z, ConR M σ.H w r z ∧ ∀ w', (do eqGuard op t x y u v; binOp op t u v).run P w' = .ok z w' := by
 unfold eqlV at h
 have key : ∀ b, cmpA P σ.H t p q = some b → ∀ op w', (eqGuard op t x y u v).run P w' = .ok () w' ∧ (binOp .eql t u v).run P w' = .ok (.bool b) w' ∧ (binOp .neq t u v).run P w' = .ok (.bool (!b)) w' := fun b hb op w' => by
  unfold cmpA at hb
  split at hb
  ·obtain ⟨xs, rfl, hx⟩ := hp
   obtain ⟨ys, rfl, hy⟩ := hq
   split at hb
   case isFalse => cases hb
   rename_i h0
   split at hb
   case h_2 => cases hb
   rename_i fs hu
   have hf : P.fieldsOf t = fs := by simp [Program.fieldsOf, hu]
   have e1 : (Op.equalIn 10000 t (.agg xs.toArray) (.agg ys.toArray)).run P w' = .ok b w' := by
    rw [run_equalIn_struct w' 9999 t _ _ (by rw [hf]; exact hu) h0.1, hf]
    exact eqFs_ok hx hy 9998 w' hb
   refine ⟨run_eqGuard_agg w' op t x y _ _ h0.2, ?_, ?_⟩
   ·rw [run_eql_struct, e1]; rfl
   ·rw [run_neq_struct, e1]; rfl
  obtain ⟨k1, k2, k3⟩ := nil_ok hp hq hb 9999
  refine ⟨?_, ?_⟩
  ·rcases k2 with ⟨x, rfl⟩ | ⟨x, n, c, rfl⟩ <;> rcases k3 with ⟨y, rfl⟩ | ⟨y, m, d, rfl⟩ <;> cases op <;> rfl
  ·rcases k2 with ⟨x, rfl⟩ | ⟨x, n, c, rfl⟩ <;> exact run_eqS (k1 w') (fun _ _ e => by cases e) (fun _ _ e => by cases e) (fun _ _ _ e => by cases e) (fun _ e => by cases e)
 split at h
 ·obtain ⟨b, hb, rfl⟩ := Option.map_eq_some_iff.1 h
  refine ⟨.bool b, rfl, fun w' => ?_⟩
  rw [Sem.run_bind, (key b hb _ w').1]; exact (key b hb .eql w').2.1
 ·obtain ⟨b, hb, rfl⟩ := Option.map_eq_some_iff.1 h
  refine ⟨.bool (!b), rfl, fun w' => ?_⟩
  rw [Sem.run_bind, (key b hb _ w').1]; exact (key b hb .neq w').2.2
 ·cases h
theorem slcL_ok (hT : TyOk P ty) (t : TypeId) {p q r : RV} {u v : Value} (hp : ConR M σ.H w p u) (hq : ConR M σ.H w q v) (h : slcL ty (ty t).k σ.H p q = some r) : ∃ z, ConR M σ.H w r z ∧ ∀ w', (Instr.sliceAt t u (some v) none none).run P w' = .ok z w' := by
 unfold slcL at h
 split at h
 ·rename_i k m
  obtain rfl := con_int hq
  split at h
  ·rename_i e hk
   split at h <;> cases h
   rename_i h0
   subst h0
   obtain ⟨hu, hke⟩ : P.underlying t = some (.slice e) ∧ _ := kOk_of hT hk
   have hel : P.elem t = e := by simp [Program.elem, hu]
   have hp : u = .slice none 0 0 := hp
   subst hp
   refine ⟨.slice none 0 0, rfl, fun w' => ?_⟩
   rw [run_sliceAt_slice w' t _ _ _ _ (by rw [hel]; exact hu), run_slice_l w' t none 0 0 (by rw [hel]; exact hu) k 0 (Int.le_refl _) (Int.le_refl _), hel, info_sz hT hke]
   rfl
  ·cases h
 ·rename_i n sz f k m
  obtain rfl := con_int hq
  split at h
  ·rename_i e hk
   split at h <;> cases h
   rename_i h0
   obtain ⟨h1, h2, rfl⟩ := h0
   obtain ⟨hu, hke⟩ : P.underlying t = some (.slice e) ∧ _ := kOk_of hT hk
   have hel : P.elem t = e := by simp [Program.elem, hu]
   obtain ⟨a, b, off, c, rfl, k1, k2, k3, k4⟩ := hp
   obtain ⟨rfl, hr⟩ := k3 (by omega)
   refine ⟨sliced (some ⟨b, off, none⟩) m.toNat n c (ty e).sz, ?_, fun w' => ?_⟩
   ·refine ⟨some ⟨b, off + m.toNat * (ty e).sz, none⟩, b, off + m.toNat * (ty e).sz, c - m.toNat, ?_, by omega, by omega, fun _ => ⟨rfl, hr⟩, fun i hi j hj => ?_⟩
    ·simp only [sliced]
     rw [if_neg (by omega)]
     simp [addr_add]
    ·have := k4 (i + m.toNat) (by omega) j hj
     rw [show off + m.toNat * (ty e).sz + i * (ty e).sz + j = off + (i + m.toNat) * (ty e).sz + j by rw [Nat.add_mul]; omega]
     exact this
   ·rw [run_sliceAt_slice w' t _ _ _ _ (by rw [hel]; exact hu), run_slice_l w' t _ n c (by rw [hel]; exact hu) k m h1 (by omega), hel, info_sz hT hke]
    rfl
  ·cases h
 ·rename_i id st n k m
  obtain rfl := con_int hq
  split at h
  ·rename_i e hk
   split at h
   ·rename_i fz t2 sz r hr
    split at h <;> cases h
    rename_i h0
    obtain ⟨h1, h2, h3, rfl⟩ := h0
    obtain ⟨hu, hke⟩ : P.underlying t = some (.slice e) ∧ _ := kOk_of hT hk
    have hel : P.elem t = e := by simp [Program.elem, hu]
    obtain ⟨cap, cur, ad, rfl, k1, k2, k3, k4, k5⟩ := (hp.2 _ _ _ _ hr).2 h3
    refine ⟨sliced (some ad) m.toNat n cap (ty e).sz, ?_, fun w' => ?_⟩
    ·refine ⟨⟨hp.1.1, rfl⟩, fun fz2 ty2 sz2 r2 hr2 => ?_⟩
     rw [hr] at hr2
     cases hr2
     refine ⟨by omega, fun _ => ⟨cap - m.toNat, cur, if cap = m.toNat then ad else ad.add (m.toNat * (ty e).sz), ?_, by omega, by omega, k3, ?_, fun hc => ?_⟩⟩
     ·simp only [sliced]
      split <;> rfl
     ·rw [show st + m.toNat + (cap - m.toNat) = st + cap by omega]; exact k4
     ·rw [if_neg (by omega), k5 (by omega), addr_add, Nat.add_mul, Nat.add_assoc]
    ·rw [run_sliceAt_slice w' t _ _ _ _ (by rw [hel]; exact hu), run_slice_l w' t _ n cap (by rw [hel]; exact hu) k m h1 (by omega), hel, info_sz hT hke]
     rfl
   ·cases h
  ·cases h
 ·cases h
theorem slcM_ok (hT : TyOk P ty) (t : TypeId) {p q s r : RV} {u v y : Value} (hp : ConR M σ.H w p u) (hq : ConR M σ.H w q v) (hs : ConR M σ.H w s y) (h : slcM ty (ty t).k p q s = some r) : ∃ z, ConR M σ.H w r z ∧ ∀ w', (Instr.sliceAt t u (some v) (some y) none).run P w' = .ok z w' := by
 unfold slcM at h
 split at h
 ·rename_i n sz f kl l km m
  obtain rfl := con_int hq
  obtain rfl := con_int hs
  split at h
  ·rename_i e hk
   split at h <;> cases h
   rename_i h0
   obtain ⟨h1, h2, h3, rfl⟩ := h0
   obtain ⟨hu, hke⟩ : P.underlying t = some (.slice e) ∧ _ := kOk_of hT hk
   have hel : P.elem t = e := by simp [Program.elem, hu]
   obtain ⟨a, b, off, c, rfl, k1, k2, k3, k4⟩ := hp
   obtain ⟨rfl, hr⟩ := k3 (by omega)
   refine ⟨sliced (some ⟨b, off, none⟩) l.toNat m.toNat c (ty e).sz, ?_, fun w' => ?_⟩
   ·refine ⟨some ⟨b, off + l.toNat * (ty e).sz, none⟩, b, off + l.toNat * (ty e).sz, c - l.toNat, ?_, by omega, by omega, fun _ => ⟨rfl, hr⟩, fun i hi j hj => ?_⟩
    ·simp only [sliced]
     rw [if_neg (by omega)]
     simp [addr_add]
    ·have := k4 (i + l.toNat) (by omega) j hj
     rw [show off + l.toNat * (ty e).sz + i * (ty e).sz + j = off + (i + l.toNat) * (ty e).sz + j by rw [Nat.add_mul]; omega]
     exact this
   ·rw [run_sliceAt_slice w' t _ _ _ _ (by rw [hel]; exact hu), run_slice_lh w' t _ n c (by rw [hel]; exact hu) kl km l m h1 (by omega) (by omega), hel, info_sz hT hke]
    rfl
  ·cases h
 ·cases h
theorem arr_ok (t : TypeId) {p q r : RV} {u v : Value} (hp : ConR M σ.H w p u) (hq : ConR M σ.H w q v) (h : arrV P t p q = some r) : ∃ z, ConR M σ.H w r z ∧ ∀ w', (Instr.index t u v).run P w' = .ok z w' := by
 unfold arrV at h
 split at h
 ·rename_i l k i
  obtain rfl := con_int hq
  obtain ⟨vs, rfl, hc⟩ := hp
  split at h
  ·rename_i n e hu
   have key : ∀ d, P.underlying e = some d → (match d with | .struct _ | .array _ _ => False | _ => True) → (if 0 ≤ i ∧ i < n ∧ i.toNat * P.cellsOf e < l.length ∧ (P.info? e).isSome = true then some (RV.c (nth l (i.toNat * P.cellsOf e))) else none) = some r → ∃ z, ConR M σ.H w r z ∧ ∀ w', (Instr.index t (.agg vs.toArray) (.int k i)).run P w' = .ok z w' := fun d hd hk h => by
    split at h <;> cases h
    rename_i h0
    obtain ⟨h1, h2, h3, h4⟩ := h0
    have hl := hc.len
    obtain ⟨z, hz⟩ : ∃ z, vs[i.toNat * P.cellsOf e]? = some z := ⟨_, List.getElem?_eq_getElem (by omega)⟩
    refine ⟨z, hc.get _ _ hz, fun w' => ?_⟩
    obtain ⟨inf, hinf⟩ := Option.isSome_iff_exists.1 h4
    have hs : (sizeOf e).run P w' = .ok (P.cellsOf e) w' := by simp [sizeOf, typeInfo, hinf, Program.cellsOf]
    have ha : (isAgg e).run P w' = .ok false w' := by
     simp only [isAgg, Sem.run_bind, run_underlying hd, Result.andThen]
     cases d <;> first | exact hk.elim | rfl
    simp [Instr.index, asIntOf, run_underlying hu, h1, h2, hs, part, ha, hz]
   split at h
   ·cases h
   ·cases h
   ·rename_i d n1 n2 hd
    exact key d hd (by cases d <;> first | trivial | exact n1 _ rfl | exact n2 _ _ rfl) h
   ·cases h
  ·cases h
 ·cases h
theorem chr_ok (t : TypeId) {p q r : RV} {u v : Value} (hp : ConR M σ.H w p u) (hq : ConR M σ.H w q v) (h : chrV P t p q = some r) : ∃ z, ConR M σ.H w r z ∧ ∀ w', (Instr.index t u v).run P w' = .ok z w' := by
 unfold chrV at h
 split at h
 ·rename_i s k i
  obtain rfl := con_int hq
  have hp : u = .string s := hp
  subst hp
  split at h
  ·rename_i hu
   split at h
   ·rename_i b hb
    cases h
    exact ⟨_, rfl, fun w' => by simp [Instr.index, asIntOf, run_underlying hu, hb]⟩
   ·cases h
  ·cases h
 ·cases h
theorem gar_ok (t : TypeId) {p q r : RV} {u v : Value} (hp : ConR M σ.H w p u) (hq : ConR M σ.H w q v) (h : garV P t p q = some r) : ∃ z, ConR M σ.H w r z ∧ ∀ w', (Instr.indexAt t u v).run P w' = .ok z w' := by
 unfold garV at h
 split at h
 ·rename_i m f k i
  obtain rfl := con_int hq
  obtain ⟨b, off, rfl, hr, hc⟩ := hp
  split at h
  ·rename_i n e hu
   split at h <;> cases h
   rename_i h0
   obtain ⟨h1, h2, h3, h4⟩ := h0
   obtain ⟨inf, hinf⟩ := Option.isSome_iff_exists.1 h4
   refine ⟨.pointer (some ⟨b, off + i.toNat * P.cellsOf e, none⟩), ⟨b, off + i.toNat * P.cellsOf e, rfl, hr, fun j hj => ?_⟩, fun w' => ?_⟩
   ·have := hc (i.toNat * P.cellsOf e + j) (by rw [Nat.add_mul, Nat.one_mul] at h3; omega)
    rw [Nat.add_assoc]; exact this
   ·have hs : (sizeOf e).run P w' = .ok (P.cellsOf e) w' := by simp [sizeOf, typeInfo, hinf, Program.cellsOf]
    simp [Instr.indexAt, Instr.sureAddr, asIntOf, run_underlying hu, h1, h2, hs, addr_add]
  ·cases h
 ·cases h
theorem ifcT_ok {t : TypeId} (h : ifcT P t = true) : ∃ d, P.underlying t = some d ∧ (match d with | .interface _ => False | _ => True) := by
 unfold ifcT at h
 split at h
 ·cases h
 ·rename_i d n hd
  refine ⟨d, hd, ?_⟩
  cases d <;> first | trivial | exact n _ rfl
 ·cases h
theorem newV_ok (hT : TyOk P ty) (h : St E nt M σ a w) {o : Oper} {r : RV} (ho : newV P ty σ.rd σ.H o.op = some r) : ∃ v, ConR M σ.H w r v ∧ ∀ w', (execOp a.eval o).run P w' = .ok (.value v) w' := by
 obtain ⟨dst, op, type, pos, after, guard⟩ := o
 cases op <;> simp only [newV] at ho
 case nilCheck x =>
  split at ho
  ·rename_i id n i o hx
   have hc := rdO_ok h hx
   split at ho
   ·rename_i fz t sz r hr
    split at ho <;> cases ho
    rename_i hl
    have hv := (hc.2 _ _ _ _ hr).2 hl
    exact ⟨_, hc, fun w' => by rw [hv]; simp [execOp, hv]⟩
   ·cases ho
  ·rename_i n f hx
   have hc := rdO_ok h hx
   cases ho
   obtain ⟨b, off, hv, -⟩ := id hc
   exact ⟨_, hc, fun w' => by rw [hv]; simp [execOp, hv]⟩
  ·cases ho
 case makeInterface t x =>
  obtain ⟨v, hv, ho⟩ := Option.bind_eq_some_iff.1 ho
  split at ho <;> cases ho
  rename_i ht
  obtain ⟨d, hd, hk⟩ := ifcT_ok ht
  refine ⟨.iface t (a.eval x), ⟨_, rfl, rdO_ok h hv⟩, fun w' => run_lift (x := Instr.makeInterface t (a.eval x)) ?_⟩
  simp only [Instr.makeInterface, Sem.run_bind, run_underlying hd, Result.andThen]
  cases d <;> first | exact hk.elim | rfl
 case typeAssert x xt tt ok =>
  split at ho
  ·rename_i t v hx
   split at ho <;> cases ho
   rename_i h0
   obtain ⟨rfl, rfl, ht⟩ := h0
   obtain ⟨u, hu, hc⟩ := rdO_ok h hx
   obtain ⟨d, hd, hk⟩ := ifcT_ok ht
   refine ⟨u, hc, fun w' => run_lift (x := Instr.typeAssert (a.eval x) xt t false) ?_⟩
   rw [hu]
   simp only [Instr.typeAssert, Sem.run_bind, run_underlying hd, Result.andThen]
   cases d <;> first | exact hk.elim | simp
  ·cases ho
 case binOp op t x y yt =>
  obtain ⟨p, hp, ho⟩ := Option.bind_eq_some_iff.1 ho
  obtain ⟨q, hq, ho⟩ := Option.bind_eq_some_iff.1 ho
  have hp := rdO_ok h hp
  have hq := rdO_ok h hq
  split at ho
  ·rename_i r' hb
   cases ho
   obtain ⟨z, h1, h2⟩ := bit_ok (P := P) op t hp hq hb x y
   exact ⟨z, h1, fun w' => run_lift (h2 w')⟩
  ·obtain ⟨z, h1, h2⟩ := eql_ok op t hp hq ho x y
   exact ⟨z, h1, fun w' => run_lift (h2 w')⟩
 case slice t x lo hi mx =>
  cases lo with
  | none => cases ho
  | some lo =>
   cases hi with
   | some hi =>
    cases mx with
    | some _ => cases ho
    | none =>
     simp only at ho
     obtain ⟨p, hp, ho⟩ := Option.bind_eq_some_iff.1 ho
     obtain ⟨q, hq, ho⟩ := Option.bind_eq_some_iff.1 ho
     obtain ⟨s, hs, ho⟩ := Option.bind_eq_some_iff.1 ho
     obtain ⟨z, h1, h2⟩ := slcM_ok hT t (rdO_ok h hp) (rdO_ok h hq) (rdO_ok h hs) ho
     exact ⟨z, h1, fun w' => run_lift (x := Instr.sliceAt t (a.eval x) (some (a.eval lo)) (some (a.eval hi)) none) (h2 w')⟩
   | none =>
    cases mx with
    | some _ => cases ho
    | none =>
     simp only at ho
     obtain ⟨p, hp, ho⟩ := Option.bind_eq_some_iff.1 ho
     obtain ⟨q, hq, ho⟩ := Option.bind_eq_some_iff.1 ho
     obtain ⟨z, h1, h2⟩ := slcL_ok hT t (rdO_ok h hp) (rdO_ok h hq) ho
     exact ⟨z, h1, fun w' => run_lift (x := Instr.sliceAt t (a.eval x) (some (a.eval lo)) none none) (h2 w')⟩
 case index t x i =>
  obtain ⟨p, hp, ho⟩ := Option.bind_eq_some_iff.1 ho
  obtain ⟨q, hq, ho⟩ := Option.bind_eq_some_iff.1 ho
  split at ho
  ·rename_i r' hr'
   cases ho
   obtain ⟨z, h1, h2⟩ := chr_ok t (rdO_ok h hp) (rdO_ok h hq) hr'
   exact ⟨z, h1, fun w' => run_lift (x := Instr.index t (a.eval x) (a.eval i)) (h2 w')⟩
  ·obtain ⟨z, h1, h2⟩ := arr_ok t (rdO_ok h hp) (rdO_ok h hq) ho
   exact ⟨z, h1, fun w' => run_lift (x := Instr.index t (a.eval x) (a.eval i)) (h2 w')⟩
 case indexAddr t x i =>
  obtain ⟨p, hp, ho⟩ := Option.bind_eq_some_iff.1 ho
  obtain ⟨q, hq, ho⟩ := Option.bind_eq_some_iff.1 ho
  obtain ⟨z, h1, h2⟩ := gar_ok t (rdO_ok h hp) (rdO_ok h hq) ho
  exact ⟨z, h1, fun w' => run_lift (x := Instr.indexAt t (a.eval x) (a.eval i)) (h2 w')⟩
 case field t x f =>
  obtain ⟨p, hp, ho⟩ := Option.bind_eq_some_iff.1 ho
  obtain ⟨z, h1, h2⟩ := fld_ok t f (rdO_ok h hp) ho
  exact ⟨z, h1, fun w' => run_lift (x := Instr.field t (a.eval x) f) (h2 w')⟩
 case unOp op t x =>
  split at ho
  ·obtain ⟨p, hp, ho⟩ := Option.bind_eq_some_iff.1 ho
   unfold negV at ho
   split at ho
   ·rename_i k n
    cases ho
    have hv := con_int (rdO_ok h hp)
    exact ⟨_, rfl, fun w' => run_lift (x := Op.unary .neg (a.eval x)) (by rw [hv]; simp [Op.unary, Op.intArith])⟩
   ·cases ho
  ·cases ho
 case build t ps =>
  split at ho
  ·rename_i n esz hk
   split at ho <;> cases ho
   rename_i h0
   obtain ⟨hg, hb⟩ := h0
   obtain ⟨e, hu, he, hi⟩ : ∃ e, P.underlying t = some (.array n e) ∧ P.cellsOf e = esz ∧ (P.info? e).isSome = true := kOk_of hT hk
   obtain ⟨i, z, hi2, hz, -, -, -, -, hzc⟩ := zero_con (M := M) (σ := σ) (w := w) (P := P) hT (t := t) (by rw [hk]; trivial)
   obtain ⟨out, h1, h2⟩ := fill_ok (M := M) (σ := σ) (w := w) (a := a) (fun i => (i * esz, esz)) (fun i => some (i * esz, esz)) (fun _ _ => rfl) ps.toList (ty t).zero z.cells (fun x _ hx => h.rd hx) hg hzc hb
   refine ⟨.agg out, ⟨out.toList, by simp, h2⟩, fun w' => run_lift (x := Instr.build t (ps.map fun (i, x) => (i, a.eval x))) (run_build w' t _ out ?_)⟩
   obtain ⟨inf, hinf⟩ := Option.isSome_iff_exists.1 hi
   unfold Program.built
   simp only [hi2, hu, hz, hinf]
   have hsz : inf.size = esz := by rw [← he]; simp [Program.cellsOf, hinf]
   rw [← h1]
   simp [hsz]
  ·cases ho
 all_goals cases ho
end
def Row.takeR (n : Nat) : Row → Row
 | .box l => .box l
 | .ints k l => .ints k (l.take n)
 | .bools l => .bools (l.take n)
 | .gen l => .gen (l.take n)
 | .own l => .own (l.take n)
theorem takeR_get {r : Row} (hb : r.one = false) {n : Nat} (hn : n ≤ r.len) : (r.takeR n).len = n ∧ (r.takeR n).one = false ∧ (r.takeR n).isBox = r.isBox ∧ ∀ i o, i < n → (r.takeR n).get i o = r.get i o := by
 cases r with
 | box => cases hb
 | ints k l => exact ⟨by simp only [Row.takeR, Row.len, List.length_take] at hn ⊢; omega, rfl, rfl, fun i o hi => by simp [Row.takeR, Row.get, hi]⟩
 | bools l => exact ⟨by simp only [Row.takeR, Row.len, List.length_take] at hn ⊢; omega, rfl, rfl, fun i o hi => by simp [Row.takeR, Row.get, hi]⟩
 | gen l => exact ⟨by simp only [Row.takeR, Row.len, List.length_take] at hn ⊢; omega, rfl, rfl, fun i o hi => by simp [Row.takeR, Row.get, hi]⟩
 | own l => exact ⟨by simp only [Row.takeR, Row.len, List.length_take] at hn ⊢; omega, rfl, rfl, fun i o hi => by simp [Row.takeR, Row.get, hi]⟩
def isOff : RV → Bool
 | .c (.h _ st _) => decide (st ≠ 0)
 | _ => false
def appO (ty : Ty) (k : TyK) (H : List Root) (s x : RV) (K : RV → List Root → Bool) : Bool :=
 match k with
 | .sl e => decide ((appSrc H x).1 ∧ (appSrc H x).2.2 = (ty e).sz ∧ 0 < (ty e).sz ∧ (ty e).bytes ≤ 128) &&
  match s with
  | .c (.h id st len) => match rootAt H id with
   | .live fz t sz r => decide (fz = false ∧ st + len = r.len ∧ t = e ∧ sz = (ty e).sz ∧ r.one = false ∧ len + (appSrc H x).2.1.len ≤ 1099511627776 ∧ ((r.drop st).app (appSrc H x).2.1).1) &&
    K (.c (.h H.length 0 (len + (appSrc H x).2.1.len))) (setRoot H id .dead ++ [.live false e (ty e).sz ((r.drop st).app (appSrc H x).2.1).2])
   | .dead => false
  | _ => false
 | _ => false
section
variable {P : Program} {ty : Ty} {E : Env} {M : Mp} {H : List Root} {w : World}
theorem cut_at {id : Nat} {x : Root} {j : Nat} {fz : Bool} {t : TypeId} {sz : Nat} {r : Row} (h : rootAt (setRoot H id .dead ++ [x]) j = .live fz t sz r) : (j = H.length ∧ x = .live fz t sz r) ∨ (j ≠ H.length ∧ j ≠ id ∧ rootAt H j = .live fz t sz r) := by
 rw [rootAt_app, setRoot_len] at h
 split at h
 ·rename_i e; exact .inl ⟨e, h⟩
 ·rename_i e; exact .inr ⟨e, rootAt_kill h⟩
theorem move_ok (h : Rel E M H w) {id : Nat} {t : TypeId} {sz : Nat} {r r' : Row} (hr : rootAt H id = .live false t sz r) {o : Nat} (hb : r'.one = false) (hbx : r'.isBox = r.isBox) (hn : o + r'.len ≤ r.len) (hg : ∀ i j, i < r'.len → r'.get i j = r.get (o + i) j) :
  Rel E (M.upd H.length (M.phi id) (M.off id + o * sz)) (setRoot H id .dead ++ [.live false t sz r']) w ∧ Kp M H w (M.upd H.length (M.phi id) (M.off id + o * sz)) (setRoot H id .dead ++ [.live false t sz r']) w := by
 have hid := rootAt_lt hr
 have old : ∀ {j : Nat}, j ≠ H.length → (M.upd H.length (M.phi id) (M.off id + o * sz)).phi j = M.phi j := fun h => if_neg h
 have new : (M.upd H.length (M.phi id) (M.off id + o * sz)).phi H.length = M.phi id := if_pos rfl
 have oldo : ∀ {j : Nat}, j ≠ H.length → (M.upd H.length (M.phi id) (M.off id + o * sz)).off j = M.off j := fun h => if_neg h
 have newo : (M.upd H.length (M.phi id) (M.off id + o * sz)).off H.length = M.off id + o * sz := if_pos rfl
 have kp : Kp M H w (M.upd H.length (M.phi id) (M.off id + o * sz)) (setRoot H id .dead ++ [.live false t sz r']) w := fun x v c => by
  have ne : ∀ {j : Nat}, j < H.length → j ≠ H.length := fun h e => by omega
  cases x with
  | ptr j m i o =>
   refine ⟨⟨by simp only [List.length_append, setRoot_len, List.length_singleton]; have := c.1.1; omega, c.1.2⟩, fun fz t2 sz2 r2 hr2 => ?_⟩
   rcases cut_at hr2 with ⟨e, -⟩ | ⟨e1, e2, e3⟩
   ·exact absurd e (ne c.1.1)
   ·rw [old e1, oldo e1]; exact c.2 _ _ _ _ e3
  | h j st len =>
   refine ⟨⟨by simp only [List.length_append, setRoot_len, List.length_singleton]; have := c.1.1; omega, c.1.2⟩, fun fz t2 sz2 r2 hr2 => ?_⟩
   rcases cut_at hr2 with ⟨e, -⟩ | ⟨e1, e2, e3⟩
   ·exact absurd e (ne c.1.1)
   ·rw [old e1, oldo e1]; exact c.2 _ _ _ _ e3
  | _ => exact c
 refine ⟨⟨h.bel, fun j fz t2 sz2 r2 hj => ?_, fun j fz t2 sz2 r2 hj => ?_, fun j t2 sz2 r2 hj => ?_, fun j t2 sz2 r2 hj => ?_, fun i j t1 s1 r1 t2 s2 r2 hi hj he => ?_, h.rlt, h.src, h.tau.keep rfl (fun _ _ _ => rfl) (fun b q hq => (h.tau.new b q hq).2) fun b q j fz t2 s2 r2 hq hj => ?_⟩, kp⟩
 ·rcases cut_at hj with ⟨rfl, e⟩ | ⟨e1, e2, e3⟩
  ·rw [new]; exact h.low _ _ _ _ _ hr
  ·rw [old e1]; exact h.low _ _ _ _ _ e3
 ·rcases cut_at hj with ⟨rfl, e⟩ | ⟨e1, e2, e3⟩
  ·cases e
   rw [new, newo]
   obtain ⟨cur, k1, k2, k3, ⟨c0, k4⟩, k5, k6⟩ := h.row _ _ _ _ _ hr
   have hc0 : r.len ≤ c0 := by
    rcases Nat.lt_or_ge c0 r.len with hlt | hge
    ·have := Nat.mul_le_mul_right sz (show c0 + 1 ≤ r.len from hlt)
     rw [Nat.add_mul] at this
     omega
    ·exact hge
   refine ⟨cur, k1, k2, ?_, ⟨c0 - o, ?_⟩, fun e => (by rw [hb] at e; cases e), fun i hi j hj => ?_⟩
   ·rw [Nat.add_assoc, ← Nat.add_mul]; exact Nat.le_trans (Nat.add_le_add_left (Nat.mul_le_mul_right _ hn) _) k3
   ·rw [Nat.add_assoc, ← Nat.add_mul, show o + (c0 - o) = c0 by omega]; exact k4
   ·obtain ⟨v, v1, v2, v3⟩ := k6 (o + i) (by omega) j hj
    refine ⟨v, by rw [show M.off id + o * sz + i * sz + j = M.off id + (o + i) * sz + j by rw [Nat.add_mul]; omega]; exact v1, v2, ?_⟩
    rw [hbx, hg i j hi]
    exact v3.keep kp (fun _ _ => rfl) (fun _ h => h)
  ·rw [old e1, oldo e1]
   exact (h.row _ _ _ _ _ e3).keep kp (fun _ _ => rfl) (fun _ h => h) rfl
 ·rcases cut_at hj with ⟨rfl, e⟩ | ⟨e1, e2, e3⟩
  ·cases e
  ·rw [old e1]; exact h.froz _ _ _ _ e3
 ·rcases cut_at hj with ⟨rfl, e⟩ | ⟨e1, e2, e3⟩
  ·rw [new]; exact h.thaw _ _ _ _ hr
  ·rw [old e1]; exact h.thaw _ _ _ _ e3
 ·rcases cut_at hi with ⟨rfl, e⟩ | ⟨e1, e2, e3⟩ <;> rcases cut_at hj with ⟨rfl, e'⟩ | ⟨f1, f2, f3⟩
  ·rfl
  ·rw [new, old f1] at he
   exact absurd (h.inj _ _ _ _ _ _ _ _ hr f3 he).symm f2
  ·rw [new, old e1] at he
   exact absurd (h.inj _ _ _ _ _ _ _ _ e3 hr he) e2
  ·rw [old e1, old f1] at he
   exact h.inj _ _ _ _ _ _ _ _ e3 f3 he
 ·rcases cut_at hj with ⟨rfl, e⟩ | ⟨e1, e2, e3⟩
  ·rw [new]; exact h.tau.row _ _ _ _ _ _ _ hq hr
  ·rw [old e1]; exact h.tau.row _ _ _ _ _ _ _ hq e3
theorem setRoot_last (a b : Root) : ∀ (l : List Root), setRoot (l ++ [a]) l.length b = l ++ [b]
 | [] => rfl
 | x :: l => congrArg (x :: ·) (setRoot_last a b l)
theorem appO_ok (hT : TyOk P ty) (h : Rel E M H w) (t rt : TypeId) {s x : RV} {u v : Value} (hu : ConR M H w s u) (hv : ConR M H w x v) {K : RV → List Root → Bool} (ho : appO ty (ty t).k H s x K = true) :
  ∃ M' w' v' r' H', (Builtin.append_ #[t, t] rt #[u, v]).run P w = .ok v' w' ∧ Rel E M' H' w' ∧ Kp M H w M' H' w' ∧ ConR M' H' w' r' v' ∧ H.length ≤ H'.length ∧ K r' H' = true := by
 unfold appO at ho
 split at ho
 case h_2 => cases ho
 rename_i e hk
 simp only [Bool.and_eq_true, decide_eq_true_eq] at ho
 obtain ⟨⟨s1, s2, s3, s4⟩, ho⟩ := ho
 obtain ⟨ad, c, news, hsrc⟩ := src_ok h hv s1
 rw [s2] at hsrc
 split at ho
 ·rename_i id st len
  split at ho
  case h_2 => cases ho
  rename_i fz t2 sz r hr
  simp only [Bool.and_eq_true, decide_eq_true_eq] at ho
  obtain ⟨⟨rfl, h1, rfl, rfl, h2, h3, h4⟩, ho⟩ := ho
  obtain ⟨cap, cur, aq, rfl, q1, q2, q3, q4, q5⟩ := (hu.2 _ _ _ _ hr).2 h1
  obtain ⟨⟨d0, d1⟩, d2, d3⟩ := drop_get h2 st
  obtain ⟨m1, m2⟩ := move_ok h hr (r' := r.drop st) (o := st) d0 d1 (by omega) (fun i j _ => d3 i j)
  have hl : (setRoot H id .dead).length = H.length := setRoot_len _ _ _
  have hr2 : rootAt (setRoot H id .dead ++ [.live false t2 (ty t2).sz (r.drop st)]) H.length = .live false t2 (ty t2).sz (r.drop st) := by
   rw [← hl, rootAt_app, if_pos rfl]
  have n1 : (M.upd H.length (M.phi id) (M.off id + st * (ty t2).sz)).phi H.length = M.phi id := if_pos rfl
  have n2 : (M.upd H.length (M.phi id) (M.off id + st * (ty t2).sz)).off H.length = M.off id + st * (ty t2).sz := if_pos rfl
  have hq : Con (M.upd H.length (M.phi id) (M.off id + st * (ty t2).sz)) (setRoot H id .dead ++ [.live false t2 (ty t2).sz (r.drop st)]) w (.h H.length 0 len) (.slice (some aq) len cap) := by
   refine ⟨⟨by simp [hl], rfl⟩, fun fz t3 s3 r3 e3 => ?_⟩
   rw [hr2] at e3
   cases e3
   exact ⟨by omega, fun _ => ⟨cap, cur, aq, rfl, q1, q2, by rw [n1]; exact q3, by rw [n2, Nat.zero_add, Nat.add_assoc, ← Nat.add_mul]; exact q4, by rw [n1, n2, Nat.zero_mul]; exact q5⟩⟩
  have hs2 : SrcOk (M.upd H.length (M.phi id) (M.off id + st * (ty t2).sz)) (setRoot H id .dead ++ [.live false t2 (ty t2).sz (r.drop st)]) w v (appSrc H x).2.1 (ty t2).sz ad c news :=
   ⟨hsrc.v, hsrc.len, hsrc.cell, hsrc.one, fun i o hi ho => by
    obtain ⟨u, u1, u2⟩ := hsrc.con i o hi ho
    exact ⟨u, u1, u2.keep m2 (fun _ _ => rfl) (fun _ h => h)⟩⟩
  obtain ⟨M', w', v', r0, r1, r2, r3⟩ := appOwn_ok hT m1 t t2 rt hk s3 s4 hs2 hr2 (by omega) hq h3 h4
  have e1 : ∀ X, setRoot (setRoot H id .dead ++ [.live false t2 (ty t2).sz (r.drop st)]) H.length X = setRoot H id .dead ++ [X] := fun X => by
   have := setRoot_last (.live false t2 (ty t2).sz (r.drop st)) X (setRoot H id .dead)
   rwa [hl] at this
  rw [e1] at r1 r2 r3
  exact ⟨M', w', v', .c (.h _ 0 _), _, r0, r1, m2.trans r2, r3, by simp [hl], ho⟩
 ·cases ho
theorem appO_ex {k : TyK} {s x : RV} {K : RV → List Root → Bool} (h : appO ty k H s x K = true) : ∃ r H', K r H' = true := by
 unfold appO at h
 split at h
 ·simp only [Bool.and_eq_true] at h
  obtain ⟨-, h⟩ := h
  split at h
  ·split at h
   ·simp only [Bool.and_eq_true] at h; exact ⟨_, _, h.2⟩
   ·cases h
  ·cases h
 ·cases h
end
def isI (k : IntKind) : AV → Bool
 | .int k' _ => decide (k' = k)
 | _ => false
def intA : AV → Int
 | .int _ n => n
 | _ => 0
theorem isI_eq {k : IntKind} {a : AV} (h : isI k a = true) : a = .int k (intA a) := by
 cases a <;> simp_all [isI, intA]
def copyB (ty : Ty) (k : TyK) (H : List Root) (d x : RV) (K : RV → List Root → Bool) : Bool :=
 match k with
 | .sl e => match d with
  | .c (.h id st n) => match x with
   | .c (.sl m sz' f) => match rootAt H id with
    | .live false t sz (.ints kk l) => decide (st = 0 ∧ n = l.length ∧ m = l.length ∧ 0 < m ∧ sz' = 1 ∧ sz = 1 ∧ (ty e).sz = 1) && (List.range m).all (fun i => isI kk (f i 0)) && K (.c (.int .i64 m)) (setRoot H id (.live false t sz (.ints kk ((List.range m).map fun i => intA (f i 0)))))
    | _ => false
   | _ => false
  | _ => false
 | _ => false
section
variable {P : Program} {ty : Ty} {E : Env} {M : Mp} {H : List Root} {w : World}
theorem copy_ok (hT : TyOk P ty) (h : Rel E M H w) (t rt : TypeId) {s x : RV} {u v : Value} (hu : ConR M H w s u) (hv : ConR M H w x v) {K : RV → List Root → Bool} (ho : copyB ty (ty t).k H s x K = true) :
  ∃ w' v' r' H', (Builtin.copy_ #[t, t] rt #[u, v]).run P w = .ok v' w' ∧ Rel E M H' w' ∧ Kp M H w M H' w' ∧ ConR M H' w' r' v' ∧ H.length ≤ H'.length ∧ K r' H' = true := by
 unfold copyB at ho
 split at ho
 case h_2 => cases ho
 rename_i e hk
 split at ho
 case h_2 => cases ho
 rename_i id st n
 split at ho
 case h_2 => cases ho
 rename_i m sz' f
 split at ho
 case h_2 => cases ho
 rename_i t2 sz kk l hr
 simp only [Bool.and_eq_true, decide_eq_true_eq, List.all_eq_true, List.mem_range] at ho
 obtain ⟨⟨⟨rfl, rfl, hm, hpos, rfl, rfl, hsz⟩, hall⟩, hK⟩ := ho
 obtain ⟨hue, hke⟩ : P.underlying t = some (.slice e) ∧ _ := kOk_of hT hk
 obtain ⟨i0, z0, hi1, hi2, -⟩ := hT.info hke
 obtain ⟨cap, cur, ad, rfl, q1, q2, q3, q4, q5⟩ := (hu.2 _ _ _ _ hr).2 (Nat.zero_add _)
 obtain ⟨a, b, off, c, rfl, g1, g2, g3, g4⟩ : Con0 M.rho w (.sl m 1 f) v := hv
 obtain ⟨rfl, -⟩ := g3 hpos
 obtain rfl := q5 (by omega)
 obtain ⟨cur2, h1, h2, h3, h4, h5, h6⟩ := h.row _ _ _ _ _ hr
 rw [q3] at h1
 cases h1
 have hlen : (Row.ints kk l).len = l.length := rfl
 rw [hlen] at h3
 let xs : List Int := (List.range m).map fun i => intA (f i 0)
 let vs : List Value := xs.map (Value.int kk)
 have hxl : xs.length = l.length := by simp [xs, hm]
 have hvl : vs.length = l.length := by simp [vs, hxl]
 have hfit : M.off id + vs.length ≤ cur.size := by omega
 have hcell : ∀ j, j < m → w.cell? ⟨b, off + j, none⟩ = some (.int kk (intA (f j 0))) := fun j hj => by
  obtain ⟨u, k1, k2⟩ := g4 j hj 0 Nat.zero_lt_one
  rw [isI_eq (hall j hj)] at k2
  have k2 : u = .int kk (intA (f j 0)) := k2
  rw [k2] at k1
  rw [← k1]; congr 2; omega
 have hrun := run_copy_row (P := P) w t t rt e (M.phi id) (M.off id) l.length cap ⟨b, off, none⟩ m c cur t2 vs hue (by rw [hi1]; simp [hi2, hsz]) q3 (by rw [hvl, hm]; exact (Nat.min_self _).symm)
  (fun j v hj => by
   have hjl : j < vs.length := (List.getElem?_eq_some_iff.1 hj).1
   have e1 : vs[j]? = some (.int kk (intA (f j 0))) := by
    simp only [vs, xs, List.getElem?_map, List.getElem?_range (show j < m by omega), Option.map_some]
   rw [e1] at hj
   cases hj
   rw [← hcell j (by omega)]
   by_cases e0 : j = 0 <;> simp [Addr.add, e0]) hfit (fun v hv => by
   obtain ⟨n, -, rfl⟩ := List.mem_map.1 hv; rfl)
 have hg : w.grownBy (w.setRow (M.phi id) (spl cur (M.off id) vs)) (some (M.phi id)) := ⟨rfl, rfl, rfl, by simp [World.setRow], fun k _ hne => setRow_other w _ _ _ (fun e => hne (by rw [e]))⟩
 have hnew : (w.setRow (M.phi id) (spl cur (M.off id) vs)).heap[M.phi id]? = some (.cells (spl cur (M.off id) vs) t2 (0, 0)) := setRow_heap w _ cur _ t2 _ q3
 have hid := rootAt_lt hr
 have p : Put E M H (setRoot H id (.live false t2 1 (.ints kk xs))) w (w.setRow (M.phi id) (spl cur (M.off id) vs)) (some (M.phi id)) id (M.phi id) (M.off id) t2 1 (.ints kk xs) :=
  ⟨hg, fun j hj => (by rw [rootAt_set, if_neg (fun h => hj h.1)]), (by rw [rootAt_set, if_pos ⟨rfl, hid⟩]), (by rw [setRoot_len]; exact Nat.le_refl _), fun e => (by rw [hr] at e; cases e),
   fun b e => ⟨(Option.some.inj e).symm, t2, 1, _, hr⟩, .inl ⟨rfl, t2, 1, _, hr⟩, fun fz t2 s2 r2 e => by
    rw [hr] at e
    cases e
    refine .inr ⟨hxl.symm, rfl, rfl, rfl, rfl, fun c hc => ⟨_, hnew, ?_⟩⟩
    rw [q3] at hc
    cases hc
    exact splice_size cur vs _ hfit⟩
 have hk := p.kp h
 have hrel := p.rel h ⟨spl cur (M.off id) vs, hnew, Nat.one_pos, by rw [show (Row.ints kk xs).len = l.length from hxl]; unfold spl; rw [splice_size _ _ _ hfit]; exact h3, by unfold spl; rw [splice_size _ _ _ hfit]; exact h4, fun hb => (by cases hb), fun i' hi' o' ho' => ?_⟩
 ·rw [upd_self] at hrel hk
  refine ⟨_, _, .c (.int .i64 m), _, hrun, hrel, hk, ?_, by rw [setRoot_len]; exact Nat.le_refl _, hK⟩
  show goInt vs.length = .int .i64 m
  rw [hvl, hm]; rfl
 ·have hi2 : i' < l.length := by rw [← hxl]; exact hi'
  obtain rfl : o' = 0 := by omega
  refine ⟨.int kk (xs.getD i' 0), ?_, rfl, rfl⟩
  unfold spl
  rw [splice_get _ _ _ _ hfit, if_pos (by omega), show M.off id + i' * 1 + 0 - M.off id = i' by omega]
  simp only [vs, List.getElem?_map, List.getD_eq_getElem?_getD]
  rw [List.getElem?_eq_getElem (by omega)]; rfl
def fr3B (ty : Ty) (k : TyK) (H : List Root) (id st n : Nat) (m m2 : Int) (K : RV → List Root → Bool) : Bool :=
 match k with
 | .sl e => match rootAt H id with
  | .live fz t sz r => decide (0 < m ∧ m ≤ n ∧ m2 = m ∧ st + n = r.len ∧ r.isBox = false ∧ sz = (ty e).sz) && K (.c (.sl m.toNat sz (fun i j => r.get (st + i) j))) (setRoot H id (rootAt H id).mark)
  | _ => false
 | _ => false
theorem run_slice_3 {t e : TypeId} (ht : P.underlying t = some (.slice e)) (w : World) (a : Option Addr) (len cap : Nat) (kh km : IntKind) (h : Int) (h0 : 0 ≤ h) (h2 : h ≤ cap) :
  (Instr.slice t (.slice a len cap) none (some (.int kh h)) (some (.int km h))).run P w = ((sizeOf e).run P w).andThen fun s w => .ok (sliced a 0 h.toNat h.toNat s) w := by
 have eh : (h.toNat : Int) = h := Int.toNat_of_nonneg h0
 have hel : P.elem t = e := by simp [Program.elem, ht]
 rw [run_slice_any (ht := by rw [hel]; exact ht), hel]
 simp [Instr.sliceBounds, run_sliceBound, *, Result.andThen]
theorem fr3_ok (hT : TyOk P ty) (h : Rel E M H w) (t : TypeId) {id st n : Nat} {k k2 : IntKind} {m m2 : Int} {u : Value} (hu : ConR M H w (.c (.h id st n)) u) {K : RV → List Root → Bool} (ho : fr3B ty (ty t).k H id st n m m2 K = true) :
  ∃ M' v' r' H', (Instr.sliceAt t u none (some (.int k m)) (some (.int k2 m2))).run P w = .ok v' w ∧ Rel E M' H' w ∧ Kp M H w M' H' w ∧ ConR M' H' w r' v' ∧ H.length ≤ H'.length ∧ K r' H' = true := by
 unfold fr3B at ho
 split at ho
 case h_2 => cases ho
 rename_i e hk
 split at ho
 case h_2 => cases ho
 rename_i fz t2 sz r hr
 simp only [Bool.and_eq_true, decide_eq_true_eq] at ho
 obtain ⟨⟨h1, h2, rfl, h3, h4, rfl⟩, hK⟩ := ho
 obtain ⟨hue, hke⟩ : P.underlying t = some (.slice e) ∧ _ := kOk_of hT hk
 have hel : P.elem t = e := by simp [Program.elem, hue]
 obtain ⟨M', f1, f2, f3, f4, f5⟩ := frz_ok [.h id st n] h ⟨by unfold vldF; rw [hr]; exact ⟨h3, h4⟩, trivial⟩
 obtain ⟨_, _, e1, c1, -⟩ := f5 [u] ⟨u, [], rfl, hu, rfl⟩
 cases e1
 have hfz : frz H (.h id st n) = .sl n (ty e).sz (fun i j => r.get (st + i) j) := by unfold frz; simp only [hr]
 rw [hfz] at c1
 obtain ⟨a, b, off, c, rfl, g1, g2, g3, g4⟩ := c1
 obtain ⟨rfl, g5⟩ := g3 (by omega)
 refine ⟨M', .slice (some ⟨b, off, none⟩) m2.toNat m2.toNat, _, _, ?_, f3, f4, ?_, by simp [setRoot_len, frzH], hK⟩
 ·rw [run_sliceAt_slice w t _ _ _ _ (by rw [hel]; exact hue), run_slice_3 hue w _ n c k k2 m2 (by omega) (by omega), info_sz hT hke]
  simp only [Result.andThen, sliced, Nat.sub_zero, Nat.zero_mul]
  rw [if_neg (by omega)]
  simp [addr_add]
 ·exact ⟨_, b, off, _, rfl, Nat.le_refl _, by omega, fun _ => ⟨rfl, g5⟩, fun i hi j hj => g4 i (by omega) j hj⟩
end
def mthB (P : Program) (t : TypeId) (nm : String) : Option (FuncId × Option TypeId) :=
 match P.info? t with
 | some i => match i.methods.find? (fun m => m.name == nm) with
  | some m => match m.path with
   | ⟨[]⟩ => match m.func, P.underlying t with
    | some (f, true), some (.pointer _) => some (f, none)
    | some (f, false), some (.pointer e) => some (f, some e)
    | _, _ => none
   | _ => none
  | none => none
 | none => none
def MthV (P : Program) (ad : Addr) (w : World) (u : Value) : Option TypeId → Prop
 | none => u = .pointer (some ad)
 | some e => (loadVar e ad).run P w = .ok u w
theorem ext1 (x : Value) (y : Array Value) : (#[x] ++ y).extract 1 (#[x] ++ y).size = y := by
 obtain ⟨l⟩ := y
 apply Array.toList_inj.1
 simp [List.extract_eq_drop_take]
theorem wrap_run {P : Program} (ts : Array TypeId) (t : TypeId) (ad : Addr) (s m : ByteArray) (w : World) : (Builtin.ssaWrapNilChk_ ts t #[.pointer (some ad), .string s, .string m]).run P w = .ok (.pointer (some ad)) w := rfl
theorem mth_ok {P : Program} {t : TypeId} {nm : String} {f : FuncId} {e : Option TypeId} (h : mthB P t nm = some (f, e)) (n : Nat) (ad : Addr) (w : World) {u : Value} (hu : MthV P ad w u e) :
  (method (n + 1) t (.pointer (some ad)) nm).run P w = .ok (f, u) w := by
 unfold mthB at h
 split at h
 case h_2 => cases h
 rename_i i hi
 split at h
 case h_2 => cases h
 rename_i m hm
 split at h
 case h_2 => cases h
 rename_i hp
 have hti : (typeInfo t).run P w = .ok i w := by simp [typeInfo, hi]
 split at h
 ·rename_i f' e' hf ht
  cases h
  obtain rfl : u = .pointer (some ad) := hu
  simp [method, hti, hm, hp, hf, follow, receiverAt, run_underlying ht, Place.get]
 ·rename_i f' e' hf ht
  cases h
  have hu : (loadVar e' ad).run P w = .ok u w := hu
  simp [method, hti, hm, hp, hf, follow, receiverAt, run_underlying ht, Place.get, wrap_run, strVal, asAddr, hu]
 ·cases h
section
variable {P : Program} {ty : Ty} {E : Env} {nt : Nat} {M : Mp} {H : List Root} {σ : AS} {a : Act} {w : World}
end
section
variable (P : Program) (ty : Ty) (call : CallB)
def cutB (k : TyK) (H : List Root) (id st n : Nat) (m : Int) (K : RV → List Root → Bool) : Bool :=
 match k with
 | .sl e => match rootAt H id with
  | .live false t sz r => decide (0 ≤ m ∧ m ≤ n ∧ st + n = r.len ∧ sz = (ty e).sz) && !r.one && K (.c (.h H.length st m.toNat)) (setRoot H id .dead ++ [.live false t sz (r.takeR (st + m.toNat))])
  | _ => false
 | _ => false
def invB (pu : Pu) (rd : Operand → Bool × RV) (H : List Root) (t : TypeId) (v : RV) (nm : String) (args : List Operand) (K : RV → List Root → Bool) : Bool :=
 match mthB P t nm with
 | some (f, none) => decide (gOk true (rgs rd args)) && ptrOk H v && call pu f (v :: rds rd args) H K
 | some (f, some e) => decide (gOk true (rgs rd args)) && ptrOk H v && decide (loadV (ty e) H v).1 && call pu f ((loadV (ty e) H v).2 :: rds rd args) H K
 | none => false
where ptrOk (H : List Root) : RV → Bool
 | .c (.ptr id n _ _) => match rootAt H id with
  | .live _ _ _ r => decide (r.len = n)
  | .dead => false
 | _ => false
def newE (pu : Pu) (tm : Tm) (rd : Operand → Bool × RV) (H : List Root) (o : Oper) (d : Bool) (K : AS → Bool) : Bool :=
 match o.op with
 | .call c => match c.callee with
  | .invoke r nm => match rdO rd r with
   | some (.ifc t v) => invB P ty call pu rd H t v nm c.args.toList (fun r H => K ⟨putT tm true o.dst r, H⟩)
   | _ => false
  | .builtin .append => match c.args.toList with
   | [s, x] => if isOff (rd s).2 then pu.isNone && (decide (gOk true [(rd s).1, (rd x).1] ∧ c.argTypes.toList = [c.argTypes.getD 0 0, c.argTypes.getD 0 0]) && appO ty (ty (c.argTypes.getD 0 0)).k H (rd s).2 (rd x).2 (fun r H => K ⟨putT tm true o.dst r, H⟩)) else d
   | _ => d
  | .builtin .copy => match c.args.toList with
   | [s, x] => pu.isNone && (decide (gOk true [(rd s).1, (rd x).1] ∧ c.argTypes.toList = [c.argTypes.getD 0 0, c.argTypes.getD 0 0]) && copyB ty (ty (c.argTypes.getD 0 0)).k H (rd s).2 (rd x).2 (fun r H => K ⟨putT tm true o.dst r, H⟩))
   | _ => d
  | _ => d
 | .slice t x none (some hi) none => match rdO rd x, rdO rd hi with
  | some (.c (.h id st n)), some (.c (.int _ m)) => cutB ty (ty t).k H id st n m (fun r H => K ⟨putT tm true o.dst r, H⟩)
  | _, _ => d
 | .slice t x none (some hi) (some mx) => match rdO rd x, rdO rd hi, rdO rd mx with
  | some (.c (.h id st n)), some (.c (.int _ m)), some (.c (.int _ m2)) => fr3B ty (ty t).k H id st n m m2 (fun r H => K ⟨putT tm true o.dst r, H⟩)
  | _, _, _ => d
 | _ => d
def isNew : Op → Bool
 | .nilCheck _ => true
 | .makeInterface .. => true
 | .typeAssert .. => true
 | .index .. => true
 | .build .. => true
 | .slice .. => true
 | .binOp op .. => match op with
  | .and => true
  | .or => true
  | .andNot => true
  | .shl => true
  | .shr => true
  | .eql => true
  | .neq => true
  | .mul => true
  | .xor => true
  | _ => false
 | .indexAddr _ x _ => match x with
  | .global _ => true
  | _ => false
 | .field .. => true
 | .unOp op _ _ => match op with
  | .neg => true
  | _ => false
 | .call c => match c.callee with
  | .invoke .. => true
  | .builtin .append => true
  | .builtin .copy => true
  | _ => false
 | _ => false
def opX0 (pu : Pu) (ops : Array Oper) (σ : AS) (o : Oper) (K : AS → Bool) : Bool :=
 match isNew o.op with
 | true => match guardOf σ.tm ops o.guard with
  | some true => match newV P ty σ.rd σ.H o.op with
   | some r => K ⟨putT σ.tm true o.dst r, σ.H⟩
   | none => newE P ty call pu σ.tm σ.rd σ.H o (opB ty call pu ops σ o K) K
  | _ => opB ty call pu ops σ o K
 | false => opB ty call pu ops σ o K
noncomputable def opBF (pu : Pu) (ops : Array Oper) (σ : AS) (o : Oper) (K : AS → Bool) : Bool :=
 match guardF σ.tm ops o.guard with
 | none => false
 | some g => decide (gOk g (opGs (rdF σ) o.op)) &&
  (if isV o.op then (!g || decide (opV ty g (rdF σ) σ.H o.op).1) && K ⟨putT σ.tm g o.dst (opV ty g (rdF σ) σ.H o.op).2, σ.H⟩
  else if g then effB ty call pu σ.tm (rdF σ) σ.H o K else K ⟨putT σ.tm g o.dst (.c .junk), σ.H⟩)
noncomputable def opX (pu : Pu) (ops : Array Oper) (σ : AS) (o : Oper) (K : AS → Bool) : Bool :=
 match isNew o.op with
 | true => match guardF σ.tm ops o.guard with
  | some true => match newV P ty (rdF σ) σ.H o.op with
   | some r => K ⟨putT σ.tm true o.dst r, σ.H⟩
   | none => newE P ty call pu σ.tm (rdF σ) σ.H o (opBF ty call pu ops σ o K) K
  | _ => opBF ty call pu ops σ o K
 | false => opBF ty call pu ops σ o K
theorem opBF_eq (pu : Pu) (ops : Array Oper) (σ : AS) (o : Oper) (K : AS → Bool) : opBF ty call pu ops σ o K = opB ty call pu ops σ o K := by
 unfold opBF opB
 rw [rdF_eq, guardF_eq]
 all_goals rfl
theorem opX_eq (pu : Pu) (ops : Array Oper) (σ : AS) (o : Oper) (K : AS → Bool) : opX P ty call pu ops σ o K = opX0 P ty call pu ops σ o K := by
 unfold opX opX0
 rw [rdF_eq, guardF_eq, opBF_eq]
end
section
variable {P : Program} {ty : Ty} {call : CallB} {E : Env} {nt : Nat} {M : Mp} {σ : AS} {a : Act} {w : World} {pu : Pu} {ops : Array Oper} {o : Oper} {K : AS → Bool}
theorem opX_ok (hT : TyOk P ty) (hcall : ∀ pu f args H K, call pu f args H K = true → callK P pu f args H (fun r H => K r H = true)) (h : St E nt M σ a w) (hd : ∀ t, o.dst = some t → t < nt) (hw : opX P ty call pu ops σ o K = true) {next : Act → World → Prop} {Q : Exit → Act → World → Prop}
  (hn : ∀ M' σ' a' w', St E nt M' σ' a' w' → (∀ g, pu = some g → OldD (g.map M.phi) w w') → Stp M σ a w M' σ' a' w' (fun t => o.dst = some t) → K σ' = true → next a' w') : if Region.wanted o (yielded ops a.tmps) then o.wp P a w next Q else next (a.put o.dst undef) w := by
 rw [opX_eq] at hw
 unfold opX0 at hw
 split at hw
 case h_2 => exact op_ok hT h hd (opB_ok hcall hw) hn (fun _ _ h => (noPan_elim h).elim)
 rename_i hnew
 clear hnew
 split at hw
 case h_2 => exact op_ok hT h hd (opB_ok hcall hw) hn (fun _ _ h => (noPan_elim h).elim)
 rename_i hg
 have hwt : Region.wanted o (yielded ops a.tmps) = true := guard_ok h hg rfl
 split at hw
 ·rename_i r hr
  obtain ⟨v, v1, v2⟩ := newV_ok hT h hr
  rw [if_pos hwt]
  unfold Oper.wp
  rw [v2 w]
  exact hn M _ _ w (h.putV hd (fun _ => v1) (fun e => by cases e)) (fun _ _ => OldD.refl _ _) (val_stp rfl) hw
 ·rename_i hnone
  clear hnone
  have base : opB ty call pu ops σ o K = true → if Region.wanted o (yielded ops a.tmps) then o.wp P a w next Q else next (a.put o.dst undef) w := fun hw => op_ok hT h hd (opB_ok hcall hw) hn (fun _ _ h => (noPan_elim h).elim)
  obtain ⟨dst, op, type, pos, after, guard⟩ := o
  unfold newE at hw
  simp only at hw
  split at hw
  ·rename_i c
   obtain ⟨callee, args, ats⟩ := c
   simp only at hw
   cases callee with
   | value f => exact base hw
   | builtin b =>
    cases b with
    | append =>
     simp only at hw
     split at hw
     case h_2 => exact base hw
     rename_i s x hsx
     split at hw
     case isFalse => exact base hw
     simp only [Bool.and_eq_true, decide_eq_true_eq] at hw
     obtain ⟨hpu, ⟨hgs, hats⟩, hw⟩ := hw
     obtain ⟨args⟩ := args
     simp only at hsx
     subst hsx
     obtain ⟨ats⟩ := ats
     simp only [gOk] at hgs
     have hs := h.rd (hgs.1 trivial)
     have hx := h.rd (hgs.2.1 trivial)
     obtain ⟨t, rfl⟩ : ∃ t, ats = [t, t] := ⟨_, hats⟩
     have htt : (List.toArray [t, t]).getD 0 0 = t := rfl
     rw [htt] at hw
     obtain ⟨M', w', v', r', H', r0, r1, r2, r3, r4, r5⟩ := appO_ok hT h.rel t type hs hx hw
     have hex : (execOp a.eval ⟨dst, .call ⟨.builtin .append, [s, x].toArray, [t, t].toArray⟩, type, pos, after, guard⟩).run P w = .ok (.value v') w' := by
      have := run_lift (x := Builtin.append_ #[t, t] type #[a.eval s, a.eval x]) r0
      simpa [execOp, resolve, invoke, builtin] using this
     rw [if_pos hwt]
     unfold Oper.wp
     rw [hex]
     exact hn _ _ _ _ (h.put r1 r2 hd r3) (fun _ e => by rw [e] at hpu; cases hpu) ⟨r4, r2, put_tm _ _ _⟩ r5
    | copy =>
     simp only at hw
     split at hw
     case h_2 => exact base hw
     rename_i s x hsx
     simp only [Bool.and_eq_true, decide_eq_true_eq] at hw
     obtain ⟨hpu, ⟨hgs, hats⟩, hw⟩ := hw
     obtain ⟨args⟩ := args
     simp only at hsx
     subst hsx
     obtain ⟨ats⟩ := ats
     simp only [gOk] at hgs
     have hs := h.rd (hgs.1 trivial)
     have hx := h.rd (hgs.2.1 trivial)
     obtain ⟨t, rfl⟩ : ∃ t, ats = [t, t] := ⟨_, hats⟩
     have htt : (List.toArray [t, t]).getD 0 0 = t := rfl
     rw [htt] at hw
     obtain ⟨w', v', r', H', r0, r1, r2, r3, r4, r5⟩ := copy_ok hT h.rel t type hs hx hw
     have hex : (execOp a.eval ⟨dst, .call ⟨.builtin .copy, [s, x].toArray, [t, t].toArray⟩, type, pos, after, guard⟩).run P w = .ok (.value v') w' := by
      have := run_lift (x := Builtin.copy_ #[t, t] type #[a.eval s, a.eval x]) r0
      simpa [execOp, resolve, invoke, builtin] using this
     rw [if_pos hwt]
     unfold Oper.wp
     rw [hex]
     exact hn _ _ _ _ (h.put r1 r2 hd r3) (fun _ e => by rw [e] at hpu; cases hpu) ⟨r4, r2, put_tm _ _ _⟩ r5
    | _ => exact base hw
   | invoke r nm =>
    simp only at hw
    split at hw
    case h_2 => cases hw
    rename_i t v hv
    rw [if_pos hwt]
    obtain ⟨u, hu, hc⟩ := rdO_ok h hv
    have run : ∀ (f : FuncId) (e : Option TypeId) (z : Value) (rz : RV) (ad : Addr), u = .pointer (some ad) → mthB P t nm = some (f, e) → MthV P ad w z e → ConR M σ.H w rz z → gOk true (rgs σ.rd args.toList) → call pu f (rz :: rds σ.rd args.toList) σ.H (fun r H => K ⟨putT σ.tm true dst r, H⟩) = true → Oper.wp P ⟨dst, .call ⟨.invoke r nm, args, ats⟩, type, pos, after, guard⟩ a w next Q := fun f e z rz ad hu2 hm hz hcz hgs hk => by
     obtain ⟨henter, hcl⟩ := hcall _ _ _ _ _ hk
     have hc2 := hcl E M w (z :: args.toList.map a.eval) h.rel ⟨z, _, rfl, hcz, rds_ok h args.toList hgs⟩
     have hmr := mth_ok hm (P.types.size + 99) ad w hz
     unfold Oper.wp
     have hrun : (execOp a.eval ⟨dst, .call ⟨.invoke r nm, args, ats⟩, type, pos, after, guard⟩).run P w = .ok (.enter f (z :: args.toList.map a.eval).toArray) w := by
      have e1 : #[z] ++ args.map a.eval = (z :: args.toList.map a.eval).toArray := by
       apply Array.toList_inj.1; simp
      have e2 : (#[a.eval r] ++ args.map a.eval).extract 1 (#[a.eval r] ++ args.map a.eval).size = args.map a.eval := ext1 _ _
      have e3 : (#[a.eval r] ++ args.map a.eval)[0]? = some (.iface t (.pointer (some ad))) := by
       rw [hu, hu2, Array.getElem?_append_left (Nat.zero_lt_one)]; rfl
      have e4 : (method (P.types.size + Made.depth) t (.pointer (some ad)) nm).run P w = .ok (f, z) w := hmr
      have e5 : (callMethod (.iface t (.pointer (some ad))) nm (args.map a.eval)).run P w = .ok (.enter f (z :: args.toList.map a.eval).toArray) w := by
       have h1 : (callMethod (.iface t (.pointer (some ad))) nm (args.map a.eval)).run P w = ((do let (f, receiver) ← method (P.types.size + Made.depth) t (.pointer (some ad)) nm; callFunc f (#[receiver] ++ args.map a.eval)) : Sem Next).run P w := rfl
       rw [h1, Sem.run_bind, e4]
       show (callFunc f (#[z] ++ args.map a.eval)).run P w = _
       rw [e1]
       exact henter.run _ _
      have h2 : (execOp a.eval ⟨dst, .call ⟨.invoke r nm, args, ats⟩, type, pos, after, guard⟩).run P w = ((do
        let some recv := (#[a.eval r] ++ args.map a.eval)[0]? | stuck "call: a method without a receiver"
        callMethod recv nm ((#[a.eval r] ++ args.map a.eval).extract 1 (#[a.eval r] ++ args.map a.eval).size)) : Sem Next).run P w := rfl
      rw [h2, e3, e2]
      exact e5
     rw [hrun, Oper.upon_enter]
     refine hc2.mono ?_
     rintro e w' (⟨M', H', r', v', rfl, q1, q2, q3, q4, q5, q6⟩ | ⟨_, _, hP⟩)
     ·exact hn _ _ _ _ (h.put q1 q2 hd q3) q4 ⟨q5, q2, put_tm _ _ _⟩ q6
     ·exact (noPan_elim hP).elim
    unfold invB at hw
    have hptr : invB.ptrOk σ.H v = true → ∃ ad, u = .pointer (some ad) := fun hp => by
     unfold invB.ptrOk at hp
     split at hp
     ·rename_i id n i o
      split at hp
      ·rename_i fz t2 sz r2 hr2
       exact ⟨_, (hc.2 _ _ _ _ hr2).2 (by simpa using hp)⟩
      ·cases hp
     ·cases hp
    split at hw
    ·rename_i f hm
     simp only [Bool.and_eq_true, decide_eq_true_eq] at hw
     obtain ⟨⟨w1, w2⟩, w3⟩ := hw
     obtain ⟨ad, had⟩ := hptr w2
     exact run f none u v ad had hm had hc w1 w3
    ·rename_i f e hm
     simp only [Bool.and_eq_true, decide_eq_true_eq] at hw
     obtain ⟨⟨⟨w1, w2⟩, w4⟩, w3⟩ := hw
     obtain ⟨ad, had⟩ := hptr w2
     obtain ⟨z, z1, z2⟩ := load_ok hT h.rel e hc w4
     have z3 := z2 w Same.refl
     rw [had] at z3
     exact run f (some e) z _ ad had hm (show (loadVar e ad).run P w = .ok z w by simpa [Instr.loadAt, Instr.sureAddr] using z3) z1 w1 w3
    ·cases hw
  ·rename_i t x hi
   split at hw
   ·rename_i id st n k m hx hhi
    rw [if_pos hwt]
    have hxv := rdO_ok h hx
    have hmv := con_int (rdO_ok h hhi)
    unfold cutB at hw
    split at hw
    case h_2 => cases hw
    rename_i e hk
    split at hw
    case h_2 => cases hw
    rename_i t2 sz r hr
    simp only [Bool.and_eq_true, decide_eq_true_eq, Bool.not_eq_true'] at hw
    obtain ⟨⟨⟨w1, w2, w3, rfl⟩, w4⟩, w5⟩ := hw
    obtain ⟨hu, hke⟩ : P.underlying t = some (.slice e) ∧ _ := kOk_of hT hk
    have hel : P.elem t = e := by simp [Program.elem, hu]
    obtain ⟨cap, cur, ad, hv, k1, k2, k3, k4, k5⟩ := (hxv.2 _ _ _ _ hr).2 w3
    obtain ⟨g1, g2, g3, g4⟩ := takeR_get w4 (n := st + m.toNat) (by omega)
    obtain ⟨q1, q2⟩ := move_ok h.rel hr (r' := r.takeR (st + m.toNat)) (o := 0) g2 g3 (by omega) (fun i o hi => by rw [Nat.zero_add]; exact g4 i o (by omega))
    rw [Nat.zero_mul, Nat.add_zero] at q1 q2
    unfold Oper.wp
    have hrun : (execOp a.eval ⟨dst, .slice t x none (some hi) none, type, pos, after, guard⟩).run P w = .ok (.value (.slice (some ad) m.toNat cap)) w := by
     refine run_lift (x := Instr.sliceAt t (a.eval x) none (some (a.eval hi)) none) ?_
     rw [hv, hmv, run_sliceAt_slice w t _ _ _ _ (by rw [hel]; exact hu), run_slice_h w t _ n cap (by rw [hel]; exact hu) k m w1 (by omega), hel, info_sz hT hke]
     simp only [Result.andThen, sliced, Nat.sub_zero, Nat.zero_mul]
     split
     ·rfl
     ·rw [k5 (by omega)]; simp [addr_add]
    rw [hrun]
    refine hn _ _ _ _ (h.put (r := .c (.h σ.H.length st m.toNat)) q1 q2 hd ?_) (fun _ _ => OldD.refl _ _) ⟨by simp [setRoot_len], q2, put_tm _ _ _⟩ w5
    refine ⟨⟨by simp [setRoot_len], rfl⟩, fun fz t3 s3 r3 hr3 => ?_⟩
    rcases cut_at hr3 with ⟨-, e3⟩ | ⟨e1, -⟩
    ·cases e3
     have n1 : (M.upd σ.H.length (M.phi id) (M.off id)).phi σ.H.length = M.phi id := if_pos rfl
     have n2 : (M.upd σ.H.length (M.phi id) (M.off id)).off σ.H.length = M.off id := if_pos rfl
     exact ⟨by rw [g1]; exact Nat.le_refl _, fun _ => ⟨cap, cur, ad, rfl, by omega, k2, by rw [n1]; exact k3, by rw [n2]; exact k4, by rw [n1, n2]; exact k5⟩⟩
    ·exact absurd rfl e1
   ·exact base hw
  ·rename_i t x hi mx
   split at hw
   ·rename_i id st n k m k2 m2 hx hhi hmx
    rw [if_pos hwt]
    have hmv := con_int (rdO_ok h hhi)
    have hmv2 := con_int (rdO_ok h hmx)
    obtain ⟨M', v', r', H', r0, r1, r2, r3, r4, r5⟩ := fr3_ok hT h.rel t (k := k) (k2 := k2) (rdO_ok h hx) hw
    have hex : (execOp a.eval ⟨dst, .slice t x none (some hi) (some mx), type, pos, after, guard⟩).run P w = .ok (.value v') w := by
     refine run_lift (x := Instr.sliceAt t (a.eval x) none (some (a.eval hi)) (some (a.eval mx))) ?_
     rw [hmv, hmv2]; exact r0
    unfold Oper.wp
    rw [hex]
    exact hn _ _ _ _ (h.put r1 r2 hd r3) (fun _ _ => OldD.refl _ _) ⟨r4, r2, put_tm _ _ _⟩ r5
   ·exact base hw
  ·exact base hw
end
end Go.Proofs.YtabadfkikdefeaaGreat.Ab
