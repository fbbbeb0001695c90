/- Texts of the proof, joined: A9, A10, Ty. -/
import Derived.Test.YtabadfkikdefeaaGreatProg
import Derived.Test.YtabadfkikdefeaaGreatQ4
set_option linter.all false
set_option maxRecDepth 100000
set_option maxHeartbeats 6400000
namespace Go.Proofs.YtabadfkikdefeaaGreat.Ab
open Go.RowKit
def Eqv : AV → AV → Prop
 | .sl n sz f, y => ∃ g, y = .sl n sz g ∧ ∀ i, i < n → ∀ j, j < sz → Eqv (f i j) (g i j)
 | .nils, y => y = .nils ∨ ∃ sz g, y = .sl 0 sz g
 | .int k n, y => y = .int k n
 | .bool b, y => y = .bool b
 | .flt b, y => y = .flt b
 | .str b, y => y = .str b
 | .nilp, y => y = .nilp
 | .rp n f, y => y = .rp n f
 | .ptr .., _ => False
 | .h .., _ => False
 | .ws .., _ => False
 | .wu .., _ => False
 | .wp .., _ => False
 | .junk, y => y = .junk
def EqvL : List AV → List AV → Prop
 | [], m => m = []
 | a :: l, m => ∃ b r, m = b :: r ∧ (a = b ∨ Eqv a b) ∧ EqvL l r
def EqvR : RV → RV → Prop
 | .c a, y => ∃ b, y = .c b ∧ (a = b ∨ Eqv a b)
 | .agg l, y => ∃ m, y = .agg m ∧ EqvL l m
 | _, _ => False
def EqvRL : List RV → List RV → Prop
 | [], m => m = []
 | a :: l, m => ∃ b r, m = b :: r ∧ (a = b ∨ EqvR a b) ∧ EqvRL l r
def EqvT : RV → RV → Prop
 | .tup l, y => ∃ m, y = .tup m ∧ EqvRL l m
 | x, y => EqvR x y
theorem Con0.eqv {rho : Nat → Prop} {w : World} : ∀ {x y : AV} {v : Value}, Con0 rho w x v → Eqv x y → Con0 rho w y v
 | .sl n sz f, y, v, ⟨a, b, off, c, h1, h2, h3, h4, h5⟩, ⟨g, e, hg⟩ => by
  subst e
  refine ⟨a, b, off, c, h1, h2, h3, h4, fun i hi j hj => ?_⟩
  obtain ⟨u, hu, hc⟩ := h5 i hi j hj
  exact ⟨u, hu, hc.eqv (hg i hi j hj)⟩
 | .nils, y, v, h, e => by
  rcases e with rfl | ⟨sz, g, rfl⟩
  ·exact h
  ·exact ⟨none, 0, 0, 0, h, Nat.le_refl _, Nat.zero_le _, fun h => absurd h (Nat.not_lt_zero _), fun i hi => absurd hi (Nat.not_lt_zero _)⟩
 | .int .., _, _, h, e => by cases e; exact h
 | .bool _, _, _, h, e => by cases e; exact h
 | .flt _, _, _, h, e => by cases e; exact h
 | .str _, _, _, h, e => by cases e; exact h
 | .nilp, _, _, h, e => by cases e; exact h
 | .rp .., _, _, h, e => by cases e; exact h
 | .junk, _, _, _, e => by cases e; trivial
 | .ptr .., _, _, h, _ => h.elim
 | .h .., _, _, h, _ => h.elim
theorem Con0.eqv' {rho : Nat → Prop} {w : World} {x y : AV} {v : Value} (h : Con0 rho w x v) (e : x = y ∨ Eqv x y) : Con0 rho w y v := by
 rcases e with rfl | e
 ·exact h
 ·exact h.eqv e
def Con0R (rho : Nat → Prop) (w : World) : RV → Value → Prop
 | .c a, v => Con0 rho w a v
 | .agg l, v => ∃ vs : List Value, v = .agg vs.toArray ∧ Con0L rho w l vs
 | .fn f caps, v => ∃ vs : List Value, v = .func (.func f) #[] vs.toArray ∧ Con0L rho w caps vs
 | .tup _, _ => False
 | .ifc .., _ => False
def Con0RL (rho : Nat → Prop) (w : World) : List RV → List Value → Prop
 | [], vs => vs = []
 | a :: l, vs => ∃ v r, vs = v :: r ∧ Con0R rho w a v ∧ Con0RL rho w l r
def Con0T (rho : Nat → Prop) (w : World) : RV → Value → Prop
 | .tup l, v => ∃ vs : List Value, v = .tuple vs.toArray ∧ Con0RL rho w l vs
 | x, v => Con0R rho w x v
section
variable {rho rho' : Nat → Prop} {w w' : World}
theorem Con0L.eqv : ∀ {l m : List AV} {vs : List Value}, Con0L rho w l vs → EqvL l m → Con0L rho w m vs
 | [], _, _, h, e => by cases e; exact h
 | _ :: _, _, _, ⟨v, r, h, h1, h2⟩, ⟨b, m, e, e1, e2⟩ => by subst e; exact ⟨v, r, h, h1.eqv' e1, Con0L.eqv h2 e2⟩
theorem Con0R.eqv : ∀ {x y : RV} {v : Value}, Con0R rho w x v → EqvR x y → Con0R rho w y v
 | .c _, _, _, h, ⟨b, e, e1⟩ => by subst e; exact Con0.eqv' h e1
 | .agg _, _, _, ⟨vs, h, h1⟩, ⟨m, e, e1⟩ => by subst e; exact ⟨vs, h, h1.eqv e1⟩
theorem Con0RL.eqv : ∀ {l m : List RV} {vs : List Value}, Con0RL rho w l vs → EqvRL l m → Con0RL rho w m vs
 | [], _, _, h, e => by cases e; exact h
 | _ :: _, _, _, ⟨v, r, h, h1, h2⟩, ⟨b, m, e, e1, e2⟩ => by
  subst e
  refine ⟨v, r, h, ?_, Con0RL.eqv h2 e2⟩
  rcases e1 with rfl | e1
  ·exact h1
  ·exact h1.eqv e1
theorem Con0T.eqv {x y : RV} {v : Value} (h : Con0T rho w x v) (e : EqvT x y) : Con0T rho w y v := by
 cases x with
 | ifc => exact e.elim
 | tup l =>
  obtain ⟨m, rfl, e⟩ := e
  obtain ⟨vs, h1, h2⟩ := h
  exact ⟨vs, h1, h2.eqv e⟩
 | c a => obtain ⟨b, rfl, e⟩ := e; exact Con0.eqv' h e
 | agg l => obtain ⟨b, rfl, e⟩ := e; obtain ⟨vs, h1, h2⟩ := h; exact ⟨vs, h1, h2.eqv e⟩
 | fn => exact e.elim
theorem Con0L.keep (hb : ∀ b, rho b → w'.heap[b]? = w.heap[b]?) (hr : ∀ b, rho b → rho' b) : ∀ {l : List AV} {vs : List Value}, Con0L rho w l vs → Con0L rho' w' l vs
 | [], _, h => h
 | _ :: _, _, ⟨v, r, h, h1, h2⟩ => ⟨v, r, h, h1.keep hb hr, Con0L.keep hb hr h2⟩
theorem Con0R.keep (hb : ∀ b, rho b → w'.heap[b]? = w.heap[b]?) (hr : ∀ b, rho b → rho' b) : ∀ {x : RV} {v : Value}, Con0R rho w x v → Con0R rho' w' x v
 | .c _, _, h => Con0.keep hb hr h
 | .agg _, _, ⟨vs, h, h1⟩ => ⟨vs, h, h1.keep hb hr⟩
 | .fn .., _, ⟨vs, h, h1⟩ => ⟨vs, h, h1.keep hb hr⟩
theorem Con0RL.keep (hb : ∀ b, rho b → w'.heap[b]? = w.heap[b]?) (hr : ∀ b, rho b → rho' b) : ∀ {l : List RV} {vs : List Value}, Con0RL rho w l vs → Con0RL rho' w' l vs
 | [], _, h => h
 | _ :: _, _, ⟨v, r, h, h1, h2⟩ => ⟨v, r, h, h1.keep hb hr, Con0RL.keep hb hr h2⟩
theorem Con0T.keep (hb : ∀ b, rho b → w'.heap[b]? = w.heap[b]?) (hr : ∀ b, rho b → rho' b) {x : RV} {v : Value} (h : Con0T rho w x v) : Con0T rho' w' x v := by
 cases x with
 | ifc => exact h.elim
 | tup l => obtain ⟨vs, h1, h2⟩ := h; exact ⟨vs, h1, h2.keep hb hr⟩
 | c a => exact Con0R.keep (x := .c a) hb hr h
 | agg l => exact Con0R.keep (x := .agg l) hb hr h
 | fn f l => exact Con0R.keep (x := .fn f l) hb hr h
variable {M : Mp} {H : List Root}
theorem Con0L.up : ∀ {l : List AV} {vs : List Value}, Con0L M.rho w l vs → ConL M H w l vs
 | [], _, h => h
 | _ :: _, _, ⟨v, r, h, h1, h2⟩ => ⟨v, r, h, Con.of0 h1, Con0L.up h2⟩
theorem Con0R.up : ∀ {x : RV} {v : Value}, Con0R M.rho w x v → ConR M H w x v
 | .c _, _, h => Con.of0 h
 | .agg _, _, ⟨vs, h, h1⟩ => ⟨vs, h, h1.up⟩
 | .fn .., _, ⟨vs, h, h1⟩ => ⟨vs, h, h1.up⟩
theorem Con0RL.up : ∀ {l : List RV} {vs : List Value}, Con0RL M.rho w l vs → ConRL M H w l vs
 | [], _, h => h
 | _ :: _, _, ⟨v, r, h, h1, h2⟩ => ⟨v, r, h, h1.up, Con0RL.up h2⟩
theorem Con0T.up {x : RV} {v : Value} (h : Con0T M.rho w x v) : ConR M H w x v := by
 cases x with
 | ifc => exact h.elim
 | tup l => obtain ⟨vs, h1, h2⟩ := h; exact ⟨vs, h1, h2.up⟩
 | c a => exact Con0R.up (x := .c a) h
 | agg l => exact Con0R.up (x := .agg l) h
 | fn f l => exact Con0R.up (x := .fn f l) h
end
def PCall (P : Program) (f : FuncId) (args : List RV) (post : RV → Prop) : Prop :=
 Enters P f ∧ ∀ (rho : Nat → Prop) (w : World) (vs : List Value), GlobIn rho w → (∀ b, rho b → b < w.heap.size) → Con0RL rho w args vs →
  Calls P f vs.toArray w fun e w' => ∃ r v rho', e = .returned v ∧ post r ∧ Con0T rho' w' r v ∧ (∀ b, rho' b → rho b ∨ (w.heap.size ≤ b ∧ b < w'.heap.size)) ∧ Below w.heap.size w w'
def frzR (H : List Root) : RV → RV
 | .c a => .c (frz H a)
 | .agg l => .agg (frzL H l)
 | .fn f l => .fn f (frzL H l)
 | .tup l => .tup l
 | .ifc t x => .ifc t x
def frzRL (H : List Root) : List RV → List RV
 | [] => []
 | a :: l => frzR H a :: frzRL H l
def frzT (H : List Root) : RV → RV
 | .tup l => .tup (frzRL H l)
 | x => frzR H x
def okR (H : List Root) : RV → Prop
 | .c a => frzOk H [a]
 | .agg l => frzOk H l
 | .fn _ l => frzOk H l
 | .tup _ => False
 | .ifc .. => False
def okRL (H : List Root) : List RV → Prop
 | [] => True
 | a :: l => okR H a ∧ okRL H l
def okT (H : List Root) : RV → Prop
 | .tup l => okRL H l
 | x => okR H x
def frzHR (H : List Root) : RV → List Root
 | .c a => frzH H [a]
 | .agg l => frzH H l
 | .fn _ l => frzH H l
 | .tup _ => H
 | .ifc .. => H
def frzHRL : List Root → List RV → List Root
 | H, [] => H
 | H, a :: l => frzHRL (frzHR H a) l
section
variable {P : Program} {ty : Ty} {E : Env} {nt : Nat} {M M' : Mp} {H : List Root} {σ σ' : AS} {a a' : Act} {w w' : World}
theorem frzH_frz : ∀ (l : List AV) {H : List Root}, (∀ id st len, AV.h id st len ∈ l → ∃ fz t sz r, rootAt H id = .live fz t sz r) → (∀ x, frz (frzH H l) x = frz H x) ∧ (∀ m, frzOk H m → frzOk (frzH H l) m) ∧ ∀ id, (∃ fz t sz r, rootAt H id = .live fz t sz r) → ∃ fz t sz r, rootAt (frzH H l) id = .live fz t sz r
 | [], _, _ => ⟨fun _ => rfl, fun _ h => h, fun _ h => h⟩
 | a :: l, H, h => by
  have plain : frzH H (a :: l) = frzH H l → (∀ x, frz (frzH H (a :: l)) x = frz H x) ∧ (∀ m, frzOk H m → frzOk (frzH H (a :: l)) m) ∧ ∀ id, (∃ fz t sz r, rootAt H id = .live fz t sz r) → ∃ fz t sz r, rootAt (frzH H (a :: l)) id = .live fz t sz r := fun e => by
   obtain ⟨h1, h2, h3⟩ := frzH_frz l (H := H) (fun id st len hm => h id st len (List.mem_cons_of_mem _ hm))
   rw [e]
   exact ⟨h1, h2, h3⟩
  cases a with
  | h id st len =>
   obtain ⟨fz, t, sz, r, hr⟩ := h id st len (List.mem_cons_self ..)
   have hlive : ∀ id', (∃ fz t sz r, rootAt H id' = .live fz t sz r) → ∃ fz t sz r, rootAt (setRoot H id (rootAt H id).mark) id' = .live fz t sz r := fun id' ⟨f, t2, s2, r2, h2⟩ => by
    rw [rootAt_mark hr]
    by_cases e : id' = id
    ·exact ⟨true, t, sz, r, by rw [if_pos e]⟩
    ·exact ⟨f, t2, s2, r2, by rw [if_neg e]; exact h2⟩
   obtain ⟨h1, h2, h3⟩ := frzH_frz l (H := setRoot H id (rootAt H id).mark) (fun id' st len hm => hlive _ (h id' st len (List.mem_cons_of_mem _ hm)))
   exact ⟨fun x => by simp only [frzH]; rw [h1, frz_mark hr], fun m hm => h2 m (frzOk_mark hr m hm), fun id' h' => h3 id' (hlive id' h')⟩
  | _ => exact plain rfl
theorem frzOk_live : ∀ {l : List AV}, frzOk H l → ∀ id st len, AV.h id st len ∈ l → ∃ fz t sz r, rootAt H id = .live fz t sz r
 | a :: l, h, id, st, len, hm => by
  rcases List.mem_cons.1 hm with rfl | hm2
  ·have := h.1
   unfold vldF at this
   split at this
   ·rename_i fz t sz r hr; exact ⟨fz, t, sz, r, hr⟩
   ·exact this.elim
  ·cases a with
   | h => exact frzOk_live h.2 id st len hm2
   | ptr => exact h.elim
   | junk => exact h.elim
   | ws => exact h.elim
   | wu => exact h.elim
   | wp => exact h.elim
   | int => exact frzOk_live (l := l) h id st len hm2
   | bool => exact frzOk_live (l := l) h id st len hm2
   | flt => exact frzOk_live (l := l) h id st len hm2
   | str => exact frzOk_live (l := l) h id st len hm2
   | nilp => exact frzOk_live (l := l) h id st len hm2
   | nils => exact frzOk_live (l := l) h id st len hm2
   | sl => exact frzOk_live (l := l) h id st len hm2
   | rp => exact frzOk_live (l := l) h id st len hm2
theorem frzL_same {H' : List Root} (h : ∀ x, frz H' x = frz H x) : ∀ l : List AV, frzL H' l = frzL H l
 | [] => rfl
 | x :: l => by simp [frzL, h, frzL_same h l]
theorem frzRL_same {H' : List Root} (h : ∀ x, frz H' x = frz H x) : ∀ l : List RV, frzRL H' l = frzRL H l
 | [] => rfl
 | x :: l => by cases x <;> simp [frzRL, frzR, h, frzL_same h, frzRL_same h l]
theorem frzR_ok (h : Rel E M H w) {x : RV} {v : Value} (ho : okR H x) (hc : ConR M H w x v) : ∃ M', (M'.phi = M.phi ∧ M'.off = M.off) ∧ (∀ b, M.rho b → M'.rho b) ∧ Rel E M' (frzHR H x) w ∧ Kp M H w M' (frzHR H x) w ∧ Con0R M'.rho w (frzR H x) v ∧
  (∀ y, frz (frzHR H x) y = frz H y) ∧ (∀ m, frzOk H m → frzOk (frzHR H x) m) := by
 cases x with
 | ifc => exact ho.elim
 | c a =>
  obtain ⟨M', e1, e2, e3, e4, e5⟩ := frz_ok [a] h ho
  obtain ⟨f1, f2, -⟩ := frzH_frz [a] (frzOk_live ho)
  obtain ⟨u, r, e, c1, -⟩ := e5 [v] ⟨v, [], rfl, hc, rfl⟩
  cases e
  exact ⟨M', e1, e2, e3, e4, c1, f1, f2⟩
 | agg l =>
  obtain ⟨M', e1, e2, e3, e4, e5⟩ := frz_ok l h ho
  obtain ⟨f1, f2, -⟩ := frzH_frz l (frzOk_live ho)
  obtain ⟨vs, rfl, c⟩ := hc
  exact ⟨M', e1, e2, e3, e4, ⟨vs, rfl, e5 vs c⟩, f1, f2⟩
 | fn f l =>
  obtain ⟨M', e1, e2, e3, e4, e5⟩ := frz_ok l h ho
  obtain ⟨f1, f2, -⟩ := frzH_frz l (frzOk_live ho)
  obtain ⟨vs, rfl, c⟩ := hc
  exact ⟨M', e1, e2, e3, e4, ⟨vs, rfl, e5 vs c⟩, f1, f2⟩
 | tup l => exact ho.elim
theorem okR_same {H' : List Root} (hm : ∀ m, frzOk H m → frzOk H' m) : ∀ {l : List RV}, okRL H l → okRL H' l
 | [], _ => trivial
 | .c _ :: _, h => ⟨hm _ h.1, okR_same hm h.2⟩
 | .agg _ :: _, h => ⟨hm _ h.1, okR_same hm h.2⟩
 | .fn .. :: _, h => ⟨hm _ h.1, okR_same hm h.2⟩
theorem frzRL_ok : ∀ (l : List RV) {M : Mp} {H : List Root} {vs : List Value}, Rel E M H w → okRL H l → ConRL M H w l vs → ∃ M', (M'.phi = M.phi ∧ M'.off = M.off) ∧ (∀ b, M.rho b → M'.rho b) ∧ Rel E M' (frzHRL H l) w ∧ Kp M H w M' (frzHRL H l) w ∧ Con0RL M'.rho w (frzRL H l) vs
 | [], M, H, vs, h, _, hc => ⟨M, ⟨rfl, rfl⟩, fun _ h => h, h, Kp.refl _ _ _, hc⟩
 | x :: l, M, H, _, h, ho, ⟨v, r, e, h1, h2⟩ => by
  subst e
  obtain ⟨M1, e1, e2, e3, e4, e5, e6, e7⟩ := frzR_ok h ho.1 h1
  obtain ⟨M2, k1, k2, k3, k4, k5⟩ := frzRL_ok l e3 (okR_same e7 ho.2) (e4.RL h2)
  refine ⟨M2, ⟨k1.1.trans e1.1, k1.2.trans e1.2⟩, fun b hb => k2 b (e2 b hb), k3, e4.trans k4, v, r, rfl, e5.keep (fun _ _ => rfl) k2, ?_⟩
  rwa [frzRL_same e6] at k5
theorem frzT_ok (h : Rel E M H w) {x : RV} {v : Value} (ho : okT H x) (hc : ConR M H w x v) : ∃ M' H', Rel E M' H' w ∧ Con0T M'.rho w (frzT H x) v := by
 cases x with
 | ifc => exact ho.elim
 | tup l =>
  obtain ⟨vs, rfl, c⟩ := hc
  obtain ⟨M', -, -, e3, -, e5⟩ := frzRL_ok l h ho c
  exact ⟨M', _, e3, vs, rfl, e5⟩
 | c a => obtain ⟨M', -, -, e3, -, e5, -⟩ := frzR_ok (x := .c a) h ho hc; exact ⟨M', _, e3, e5⟩
 | agg l => obtain ⟨M', -, -, e3, -, e5, -⟩ := frzR_ok (x := .agg l) h ho hc; exact ⟨M', _, e3, e5⟩
 | fn f l => obtain ⟨M', -, -, e3, -, e5, -⟩ := frzR_ok (x := .fn f l) h ho hc; exact ⟨M', _, e3, e5⟩
section
variable (ty)
def res1 (σ : AS) : ResultVar → Vo
 | .tmp t => ((lk σ.tm t).1 = true, (lk σ.tm t).2)
 | .cell a t => ((lk σ.tm a).1 = true ∧ (loadV (ty t) σ.H (lk σ.tm a).2).1, (loadV (ty t) σ.H (lk σ.tm a).2).2)
def resL (σ : AS) : List ResultVar → Prop × List RV
 | [] => (True, [])
 | r :: l => ((res1 ty σ r).1 ∧ (resL σ l).1, (res1 ty σ r).2 :: (resL σ l).2)
def one : List RV → RV
 | [x] => x
 | l => .tup l
def retK (rs : List ResultVar) (K : RV → List Root → Prop) : Exit → AS → Prop
 | .ret, σ => (resL ty σ rs).1 ∧ K (one (resL ty σ rs).2) σ.H
 | .normal, σ => (resL ty σ rs).1 ∧ K (one (resL ty σ rs).2) σ.H
 | _, _ => False
end
def resSem (a : Act) : ResultVar → Sem Value
 | .tmp t => pure (a.tmps.getD t undef)
 | .cell x t => do loadVar t (← asAddr (a.tmps.getD x undef))
theorem res1_ok (hT : TyOk P ty) (h : St E nt M σ a w) {r : ResultVar} (ho : (res1 ty σ r).1) : ∃ v, ConR M σ.H w (res1 ty σ r).2 v ∧ (resSem a r).run P w = .ok v w := by
 cases r with
 | tmp t => exact ⟨_, h.tms t ho, rfl⟩
 | cell x t =>
  obtain ⟨h1, h2⟩ := ho
  have hc := h.tms x h1
  obtain ⟨v, k1, k2⟩ := load_ok hT h.rel t hc h2
  refine ⟨v, k1, ?_⟩
  have k3 := k2 w Same.refl
  show (do loadVar t (← asAddr (a.tmps.getD x undef)) : Sem Value).run P w = _
  obtain ⟨u, hu⟩ : ∃ u, u = a.tmps.getD x undef := ⟨_, rfl⟩
  rw [← hu] at k3 ⊢
  clear hu
  cases u <;> first | (simp [Instr.loadAt, Instr.sureAddr, stuck] at k3; done) | skip
  rename_i p
  cases p with
  | none => simp [Instr.loadAt, Instr.sureAddr, stuck] at k3
  | some ad =>
   simp only [Instr.loadAt, Instr.sureAddr] at k3
   simpa [asAddr] using k3
theorem resL_ok (hT : TyOk P ty) (h : St E nt M σ a w) : ∀ (rs : List ResultVar), (resL ty σ rs).1 → ∃ vs, ConRL M σ.H w (resL ty σ rs).2 vs ∧ (rs.mapM (resSem a)).run P w = .ok vs w
 | [], _ => ⟨[], rfl, rfl⟩
 | r :: rs, ho => by
  obtain ⟨v, h1, h2⟩ := res1_ok hT h ho.1
  obtain ⟨vs, h3, h4⟩ := resL_ok hT h rs ho.2
  refine ⟨v :: vs, ⟨v, vs, rfl, h1, h3⟩, ?_⟩
  rw [List.mapM_cons, Sem.run_bind, h2]
  simp only [Result.andThen]
  rw [Sem.run_bind, h4]
  rfl
theorem conRL_len : ∀ {l : List RV} {vs : List Value}, ConRL M H w l vs → vs.length = l.length
 | [], _, h => by cases h; rfl
 | _ :: _, _, ⟨v, r, e, _, h⟩ => by subst e; simp [conRL_len h]
theorem results_ok (hT : TyOk P ty) (h : St E nt M σ a w) {fn : Func} {rs : List ResultVar} (hr : fn.results.toList = rs) (ho : (resL ty σ rs).1) : ∃ v, ConR M σ.H w (one (resL ty σ rs).2) v ∧ (results fn a.tmps).run P w = .ok v w := by
 obtain ⟨vs, h1, h2⟩ := resL_ok hT h rs ho
 have hrun : (results fn a.tmps).run P w = .ok (if h : vs.toArray.size = 1 then vs.toArray[0] else .tuple vs.toArray) w := by
  have hfun : ∀ f : ResultVar → Sem Value, (∀ r, f r = resSem a r) → fn.results.mapM f = fn.results.mapM (resSem a) := fun f hf => by rw [funext hf]
  unfold results
  rw [Sem.run_bind, hfun _ (fun r => by cases r <;> rfl), Array.mapM_eq_mapM_toList, hr]
  have : ((List.toArray <$> rs.mapM (resSem a)) : Sem (Array Value)).run P w = .ok vs.toArray w := by
   rw [map_eq_pure_bind, Sem.run_bind, h2]; rfl
  rw [this]
  rfl
 refine ⟨_, ?_, hrun⟩
 have hl := conRL_len h1
 generalize (resL ty σ rs).2 = l at h1 hl
 match l, vs, h1, hl with
 | [x], [v], ⟨v', r, e, c1, c2⟩, _ => cases e; exact c1
 | [], [], h1, _ => exact ⟨[], rfl, h1⟩
 | x :: y :: l, v :: u :: vs, h1, _ =>
  have : ¬ (v :: u :: vs).toArray.size = 1 := by simp
  rw [dif_neg this]
  exact ⟨_, rfl, h1⟩
def argT : Nat → List RV → Tm
 | _, [] => []
 | k, x :: l => (k, true, x) :: argT (k + 1) l
theorem argT_lk : ∀ (l : List RV) (k t : Nat) (vs : List Value), ConRL M H w l vs → (lk (argT k l) t).1 = true ∧ (∀ v, (k ≤ t ∧ vs[t - k]? = some v) → ConR M H w (lk (argT k l) t).2 v) ∧ ((t < k ∨ k + vs.length ≤ t) → (lk (argT k l) t).2 = .c .junk)
 | [], k, t, vs, h => by cases h; exact ⟨rfl, fun v h => by simp at h, fun _ => rfl⟩
 | x :: l, k, t, _, ⟨v, r, e, h1, h2⟩ => by
  subst e
  simp only [argT, lk]
  by_cases e : k = t
  ·subst e
   rw [if_pos rfl]
   exact ⟨rfl, fun u hu => by simp at hu; subst hu; exact h1, fun h => by simp at h; omega⟩
  ·rw [if_neg e]
   obtain ⟨i1, i2, i3⟩ := argT_lk l (k + 1) t r h2
   refine ⟨i1, fun u ⟨hu1, hu2⟩ => i2 u ⟨by omega, ?_⟩, fun h => i3 (by simp at h; omega)⟩
   rw [show t - k = (t - (k + 1)) + 1 by omega] at hu2
   simpa using hu2
theorem Rel.env (h : Rel E M H w) (d : List Deferred) : Rel ⟨E.W0, E.rho0, d⟩ M H w := ⟨h.bel, h.low, h.row, h.froz, h.thaw, h.inj, h.rlt, h.src, h.tau⟩
theorem Rel.env2 {d : List Deferred} (h : Rel ⟨E.W0, E.rho0, d⟩ M H w) : Rel E M H w := ⟨h.bel, h.low, h.row, h.froz, h.thaw, h.inj, h.rlt, h.src, h.tau⟩
theorem St.enter (h : Rel E M H w) (hdf : E.df = []) {args : List RV} {vs : List Value} (hc : ConRL M H w args vs) {n : Nat} (hn : args.length ≤ n) : St E n M ⟨argT 0 args, H⟩ ⟨vs.toArray ++ Array.replicate (n - vs.toArray.size) undef, []⟩ w := by
 have hl := conRL_len hc
 refine ⟨h, fun t ht => ?_, fun t ht => ?_, by simp; omega, hdf.symm⟩
 ·obtain ⟨i1, i2, i3⟩ := argT_lk args 0 t vs hc
  show ConR M H w (lk (argT 0 args) t).2 ((vs.toArray ++ Array.replicate (n - vs.toArray.size) undef).getD t undef)
  by_cases hlt : t < vs.length
  ·have : (vs.toArray ++ Array.replicate (n - vs.toArray.size) undef).getD t undef = vs[t] := by
    rw [Array.getD_eq_getD_getElem?, Array.getElem?_append_left (by simpa using hlt)]
    simp [hlt]
   rw [this]
   exact i2 _ ⟨Nat.zero_le _, by simp [hlt]⟩
  ·rw [i3 (.inr (by omega))]; trivial
 ·obtain ⟨i1, -⟩ := argT_lk args 0 t vs hc
  have ht' : (lk (argT 0 args) t).1 = false := ht
  rw [i1] at ht'; cases ht'
def finP (post : RV → Prop) (r : RV) (H : List Root) : Prop := okT H r ∧ ∃ r', EqvT (frzT H r) r' ∧ post r'
theorem pcall_of (hT : TyOk P ty) (hm : P.follows .mixedOrders = true) {f : FuncId} {fn : Func} {c : Code} (ord : Nat → List Nat × Nat × Option Nat) (hf : P.funcs[f]? = some fn) (hb : fn.body = some c) (hname : (fn.name == "runtime.NumGoroutine") = false) {n : Nat} (hnt : fn.ntmps = n) {rs : List ResultVar} (hr : fn.results.toList = rs)
  (hok : okC n ord c = true) {args : List RV} (hn : args.length ≤ n) {post : RV → Prop}
  (h : awp P ty ord c (retK ty rs (finP post)) ⟨argT 0 args, []⟩) : PCall P f args post := by
 refine ⟨⟨fn, c, hf, hname, hb⟩, fun rho w vs hgl hrho hc => calls_of_wp hf hb ?_⟩
 have hrel : Rel ⟨w, rho, []⟩ ⟨fun _ => 0, fun _ => 0, rho, fun _ => none⟩ [] w := ⟨Below.refl _ _, fun _ _ _ _ _ h => (by cases h), fun _ _ _ _ _ h => (by cases h), fun _ _ _ _ h => (by cases h), fun _ _ _ _ h => (by cases h), fun _ _ _ _ _ _ _ _ h => (by cases h), hrho, ⟨fun b hb => .inl hb, hgl⟩, ⟨fun _ _ h => (by cases h), fun _ _ _ _ _ _ _ h => (by cases h), fun _ _ _ h => (by cases h)⟩⟩
 have hst := St.enter hrel rfl (Con0RL.up (M := ⟨fun _ => 0, fun _ => 0, rho, fun _ => none⟩) (H := []) hc) (n := n) hn
 rw [hnt]
 refine wp_mono (awp_ok hT hm c hok hst h) fun e a' w' hA => ?_
 rcases hA with ⟨hp, M', σ', q1, q2, q3⟩ | ⟨ch, rfl, -, hP⟩
 case inr => exact (noPan_elim hP).elim
 have fin : (resL ty σ' rs).1 ∧ (okT σ'.H (one (resL ty σ' rs).2) ∧ ∃ r', EqvT (frzT σ'.H (one (resL ty σ' rs).2)) r' ∧ post r') → a'.defers = [] ∧ ∃ v, (results fn a'.tmps).run P w' = .ok v w' ∧ ∃ r v' rho', Ending.returned v = .returned v' ∧ post r ∧ Con0T rho' w' r v' ∧ (∀ b, rho' b → rho b ∨ (w.heap.size ≤ b ∧ b < w'.heap.size)) ∧ Below w.heap.size w w' := by
  rintro ⟨h1, h2, r', h3, h4⟩
  obtain ⟨v, k1, k2⟩ := results_ok hT q1 hr h1
  obtain ⟨M2, H2, k3, k4⟩ := frzT_ok q1.rel h2 k1
  refine ⟨q1.df, v, k2, r', v, M2.rho, rfl, h4, k4.eqv h3, fun b hb => ?_, q1.rel.bel⟩
  rcases k3.src.1 b hb with h | h
  ·exact .inl h
  ·exact .inr ⟨h, k3.rlt b hb⟩
 cases e with
 | normal => exact fin q3
 | ret => exact fin q3
 | panic ch => exact absurd rfl (hp ch)
 | exit id => exact q3.elim
 | goto l => exact q3.elim
 | outgrown => exact q3.elim
def AV.scal : AV → Bool
 | .int .. | .bool _ | .flt _ | .str _ | .nilp | .nils => true
 | _ => false
def scalL : List AV → Bool
 | [] => true
 | a :: l => a.scal && scalL l
def scalR : RV → Bool
 | .c a => a.scal
 | .agg l => scalL l
 | _ => false
def scalRL : List RV → Bool
 | [] => true
 | a :: l => scalR a && scalRL l
def scalT : RV → Bool
 | .tup l => scalRL l
 | x => scalR x
theorem scal_con {rho rho' : Nat → Prop} {x : AV} {v : Value} (hs : x.scal = true) (h : Con0 rho w x v) : Con0 rho' w' x v := by
 cases x <;> first | exact h | cases hs
theorem scalL_con {rho rho' : Nat → Prop} : ∀ {l : List AV} {vs : List Value}, scalL l = true → Con0L rho w l vs → Con0L rho' w' l vs
 | [], _, _, h => h
 | _ :: _, _, hs, ⟨v, r, e, h1, h2⟩ => by
  simp only [scalL, Bool.and_eq_true] at hs
  exact ⟨v, r, e, scal_con hs.1 h1, scalL_con hs.2 h2⟩
theorem scalR_con {rho rho' : Nat → Prop} {x : RV} {v : Value} (hs : scalR x = true) (h : Con0R rho w x v) : Con0R rho' w' x v := by
 cases x with
 | c a => exact scal_con hs h
 | agg l => obtain ⟨vs, e, h⟩ := h; exact ⟨vs, e, scalL_con hs h⟩
 | fn => cases hs
 | tup => cases hs
 | ifc => cases hs
theorem scalRL_con {rho rho' : Nat → Prop} : ∀ {l : List RV} {vs : List Value}, scalRL l = true → Con0RL rho w l vs → Con0RL rho' w' l vs
 | [], _, _, h => h
 | _ :: _, _, hs, ⟨v, r, e, h1, h2⟩ => by
  simp only [scalRL, Bool.and_eq_true] at hs
  exact ⟨v, r, e, scalR_con hs.1 h1, scalRL_con hs.2 h2⟩
theorem scalT_con {rho rho' : Nat → Prop} {x : RV} {v : Value} (hs : scalT x = true) (h : Con0T rho w x v) : Con0T rho' w' x v := by
 cases x with
 | ifc => cases hs
 | tup l => obtain ⟨vs, e, h⟩ := h; exact ⟨vs, e, scalRL_con hs h⟩
 | c a => exact scalR_con (x := .c a) hs h
 | agg l => exact scalR_con (x := .agg l) hs h
 | fn f l => cases hs
theorem callK_s [Pan] {pu : Pu} {f : FuncId} {args args' : List RV} {post : RV → Prop} {K : RV → List Root → Prop} (hp : PCall P f args' post) (ho : okRL H args) (he : EqvRL (frzRL H args) args') (hs : ∀ r, post r → scalT r = true) (hK : ∀ r, post r → K r H) : callK P pu f args H K := by
 refine ⟨hp.1, fun E M w vs h hc => ?_⟩
 obtain ⟨M1, e1, e2, e3, e4, e5⟩ := frzRL_ok args h ho hc
 refine (hp.2 M1.rho w vs e3.glob e3.rlt (e5.eqv he)).mono ?_
 rintro e w' ⟨r, v, rho', rfl, h1, h2, h3, h4⟩
 exact .inl ⟨M, H, r, v, rfl, h.below h4, Kp.below h h4, Con0T.up (scalT_con (hs r h1) h2), fun _ _ => OldD.below h4, Nat.le_refl _, hK r h1⟩
theorem eqvRL_refl : ∀ l : List RV, EqvRL l l
 | [] => rfl
 | _ :: l => ⟨_, _, rfl, .inl rfl, eqvRL_refl l⟩
theorem callK_e [Pan] {pu : Pu} {f : FuncId} {args args' : List RV} {post : RV → Prop} {K : RV → List Root → Prop} (hp : PCall P f args' post) (ho : okRL H args) (he : frzRL H args = args') (hs : ∀ r, post r → scalT r = true) (hK : ∀ r, post r → K r H) : callK P pu f args H K :=
 callK_s hp ho (by rw [he]; exact eqvRL_refl _) hs hK
def frL : List AV → Bool
 | [] => true
 | a :: l => a.fr && frL l
def lent (M : Mp) (H : List Root) (b : Nat) : Prop := M.rho b ∨ ∃ id fz ty sz r, rootAt H id = .live fz ty sz r ∧ M.phi id = b
theorem fr_con {M : Mp} {H : List Root} {w : World} {rho : Nat → Prop} {x : AV} {v : Value} (hx : x.fr = true) (hr : ∀ b, M.rho b → rho b) (h : Con M H w x v) : Con0 rho w x v := by
 cases x <;> first | (cases hx; done) | exact Con0.keep (fun _ _ => rfl) hr h
theorem frzHRL_len : ∀ (l : List RV) (H : List Root), (frzHRL H l).length = H.length
 | [], _ => rfl
 | x :: l, H => by
  simp only [frzHRL]
  rw [frzHRL_len l]
  cases x <;> simp [frzHR, frzH_len]
theorem callK_f [Pan] {pu : Pu} {f : FuncId} {args args' : List RV} {post : RV → Prop} {K : RV → List Root → Prop} (hp : PCall P f args' post) (ho : okRL H args) (he : EqvRL (frzRL H args) args') (hK : ∀ r, post r → K r (frzHRL H args)) : callK P pu f args H K := by
 refine ⟨hp.1, fun E M w vs h hc => ?_⟩
 obtain ⟨M1, e1, e2, e3, e4, e5⟩ := frzRL_ok args h ho hc
 refine (hp.2 M1.rho w vs e3.glob e3.rlt (e5.eqv he)).mono ?_
 rintro e w' ⟨r, v, rho', rfl, h1, h2, h3, h4⟩
 have h5 := e3.below h4
 have h6 := Kp.below e3 h4
 have hkp : Kp M1 (frzHRL H args) w' ⟨M1.phi, M1.off, fun b => M1.rho b ∨ (w.heap.size ≤ b ∧ b < w'.heap.size), M1.tau⟩ (frzHRL H args) w' := by
  intro x v c
  cases x with
  | ptr => exact c
  | h => exact c
  | ws => exact c
  | wu => exact c
  | wp => exact c
  | junk => trivial
  | _ => exact Con0.keep (fun _ _ => rfl) (fun _ h => .inl h) c
 refine .inl ⟨⟨M1.phi, M1.off, fun b => M1.rho b ∨ (w.heap.size ≤ b ∧ b < w'.heap.size), M1.tau⟩, frzHRL H args, r, v, rfl, ?_, (e4.trans h6).trans hkp, Con0T.up (Con0T.keep (fun _ _ => rfl) h3 h2), fun _ _ => OldD.below h4, by rw [frzHRL_len]; exact Nat.le_refl _, hK r h1⟩
 refine ⟨h5.bel, h5.low, fun id fz t sz q hr => (h5.row id fz t sz q hr).keep hkp (fun _ _ => rfl) (fun _ h => .inl h) rfl, fun id t sz q hr => .inl (h5.froz id t sz q hr), fun id t sz q hr => ?_, h5.inj, fun b hb => ?_, ⟨fun b hb => ?_, h5.src.2.mono fun _ => .inl⟩, h5.tau.keep rfl (fun _ _ _ => rfl) (fun b q hq => ?_) h5.tau.row⟩
 ·rintro (hb | ⟨hb, -⟩)
  ·exact h5.thaw id t sz q hr hb
  ·have hlt : M1.phi id < w.heap.size := e3.lt hr
   have hb : w.heap.size ≤ M1.phi id := hb
   omega
 ·rcases hb with hb | ⟨-, hb⟩
  ·exact h5.rlt b hb
  ·exact hb
 ·rcases hb with hb | ⟨hb, -⟩
  ·exact h5.src.1 b hb
  ·exact .inr (Nat.le_trans e3.bel.size hb)
 ·rintro (hb | ⟨hb, -⟩)
  ·exact (h5.tau.new b q hq).2 hb
  ·have := e3.tau.lt hq; omega
def kB (P : Program) (ty : Ty) (t : TypeId) : TyK → Bool
 | .i k => match P.underlying t with
  | some (.int k') => decide (k = k')
  | _ => false
 | .b => match P.underlying t with
  | some .bool => true
  | _ => false
 | .str => match P.underlying t with
  | some .string => true
  | _ => false
 | .sc => match P.underlying t with
  | some (.struct _) => false
  | some (.array ..) => false
  | some _ => true
  | none => false
 | .st fs => match P.underlying t with
  | some (.struct fields) => decide (fields.toList.map (fun f => (f.offset, P.cellsOf f.type)) = fs) && fields.toList.all (fun f => (P.info? f.type).isSome)
  | _ => false
 | .ar n esz => match P.underlying t with
  | some (.array n' e) => decide (n = n') && decide (P.cellsOf e = esz) && (P.info? e).isSome
  | _ => false
 | .sl e => match P.underlying t with
  | some (.slice e') => decide (e = e') && (match (ty e).k with | .no => false | _ => true)
  | _ => false
 | .no => true
def tyB (P : Program) (ty : Ty) (t : TypeId) : Bool :=
 kB P ty t (ty t).k && (match (ty t).k with
  | .no => true
  | _ => match P.info? t with
   | some i => decide (i.size = (ty t).sz) && decide (i.bytes = (ty t).bytes) && (match i.zero with
    | some z => zvL (ty t).zero z.cells.toList && decide (z.cells.size = (ty t).sz)
    | none => false)
   | none => false)
theorem kB_ok {t : TypeId} : ∀ {k : TyK}, kB P ty t k = true → kOk P ty t k
 | .i k, h => by
  simp only [kB] at h
  split at h
  ·rename_i k' hu; simp only [decide_eq_true_eq] at h; subst h; exact hu
  ·cases h
 | .b, h => by
  simp only [kB] at h
  split at h
  ·rename_i hu; exact hu
  ·cases h
 | .str, h => by
  simp only [kB] at h
  split at h
  ·rename_i hu; exact hu
  ·cases h
 | .sc, h => by
  simp only [kB] at h
  split at h
  ·cases h
  ·cases h
  ·rename_i d h1 h2 hu
   refine ⟨d, hu, ?_⟩
   cases d <;> first | trivial | (exact h1 _ rfl) | (exact h2 _ _ rfl)
  ·cases h
 | .st fs, h => by
  simp only [kB] at h
  split at h
  ·rename_i fields hu
   simp only [Bool.and_eq_true, decide_eq_true_eq, List.all_eq_true] at h
   exact ⟨fields, hu, h.1, h.2⟩
  ·cases h
 | .ar n esz, h => by
  simp only [kB] at h
  split at h
  ·rename_i n' e hu
   simp only [Bool.and_eq_true, decide_eq_true_eq] at h
   obtain ⟨⟨rfl, h2⟩, h3⟩ := h
   exact ⟨e, hu, h2, h3⟩
  ·cases h
 | .sl e, h => by
  simp only [kB] at h
  split at h
  ·rename_i e' hu
   simp only [Bool.and_eq_true, decide_eq_true_eq] at h
   obtain ⟨rfl, h2⟩ := h
   exact ⟨hu, by split at h2 <;> first | (cases h2; done) | (split <;> simp_all)⟩
  ·cases h
 | .no, _ => trivial
theorem tyB_ok {t : TypeId} (h : tyB P ty t = true) : TyOk1 P ty t := by
 unfold tyB at h
 rw [Bool.and_eq_true] at h
 obtain ⟨h1, h2⟩ := h
 refine ⟨kB_ok h1, ?_⟩
 cases hk : (ty t).k
 case no => trivial
 all_goals
  rw [hk] at h2
  simp only at h2
  split at h2
  ·rename_i i hi
   simp only [Bool.and_eq_true, decide_eq_true_eq] at h2
   obtain ⟨⟨h3, h4⟩, h5⟩ := h2
   split at h5
   ·rename_i z hz
    simp only [Bool.and_eq_true, decide_eq_true_eq] at h5
    exact ⟨i, z, hi, h3, h4, hz, h5.1, h5.2⟩
   ·cases h5
  ·cases h2
theorem tyOk_of {n : Nat} (h : (List.range n).all (tyB P ty) = true) (h2 : ∀ t, n ≤ t → (ty t).k = .no) : TyOk P ty := by
 intro t
 by_cases e : t < n
 ·exact tyB_ok (List.all_eq_true.1 h t (List.mem_range.2 e))
 ·exact ⟨by rw [h2 t (Nat.le_of_not_lt e)]; trivial, by rw [h2 t (Nat.le_of_not_lt e)]; trivial⟩
end
section
variable {P : Program} {ty : Ty} {ord : Nat → List Nat × Nat × Option Nat} {Q : Exit → AS → Prop} {K : AS → Prop} {σ : AS} {nf : Nat} {ops : Array Oper} {o : Oper} {l : List Oper} {pu : Pu} {tm : Tm} {rd : Operand → Bool × RV} {H : List Root}
theorem gOk_nil (g : Bool) : gOk g [] = True := rfl
theorem gOk_t (g : Bool) (l : List Bool) : gOk g (true :: l) = gOk g l := by simp [gOk]
theorem gOk_s (g : Bool) (l : List Bool) : gOk g (g :: l) = gOk g l := by simp [gOk]
theorem gOk_a (g h : Bool) (l : List Bool) : gOk (g && h) (h :: l) = gOk (g && h) l := by cases g <;> cases h <;> simp [gOk]
theorem gOk_b (g h : Bool) (l : List Bool) : gOk (g && h) (g :: l) = gOk (g && h) l := by cases g <;> cases h <;> simp [gOk]
theorem ite_f (b c : Bool) : selB b c false = (b && c) := by cases b <;> rfl
theorem ite_t (b c : Bool) : selB b true c = (b || c) := by cases b <;> rfl
theorem callK_congr [Pan] {pu : Pu} {f : FuncId} {a a' : List RV} {H H' : List Root} {K : RV → List Root → Prop} (h : a = a') (h2 : H = H') : callK P pu f a H K = callK P pu f a' H' K := by rw [h, h2]
theorem e_skip [Pan] : awp P ty ord .skip Q σ = Q .normal σ := rfl
theorem e_reg [Pan] {id : Nat} : awp P ty ord (.region id ops true) Q σ = awpR P ty ops (ord id) (Q .normal) σ := rfl
theorem e_regf [Pan] {id : Nat} : awp P ty ord (.region id ops false) Q σ = awpL P ty ops.toList.length none ops ops.toList (Q .normal) σ := rfl
theorem e_seq [Pan] {a b : Code} : awp P ty ord (.seq a b) Q σ = awp P ty ord a (thenK (awp P ty ord b Q) Q) σ := rfl
theorem e_cond [Pan] {x : Operand} {a b : Code} : awp P ty ord (.cond x a b) Q σ = condK (σ.rd x) (awp P ty ord a Q σ) (awp P ty ord b Q σ) := rfl
theorem e_block [Pan] {id : Nat} {a : Code} : awp P ty ord (.block id a) Q σ = awp P ty ord a (inB id Q) σ := rfl
theorem e_exit [Pan] {id : Nat} : awp P ty ord (.exit id) Q σ = Q (.exit id) σ := rfl
theorem e_ret [Pan] : awp P ty ord .ret Q σ = Q .ret σ := rfl
theorem e_R0 [Pan] {n : Nat} {dd : Option Nat} : awpR P ty ops ([], n, dd) K σ = awpL P ty n dd ops ops.toList K σ := rfl
theorem e_R1 [Pan] {n i : Nat} {is : List Nat} {dd : Option Nat} : awpR P ty ops (i :: is, n, dd) K σ = awpL P ty n dd ops (pick ops (i :: is)) K σ := rfl
theorem e_nil [Pan] {dd : Option Nat} : awpL P ty nf dd ops [] K σ = K σ := rfl
theorem e_cons [Pan] {dd : Option Nat} : awpL P ty nf dd ops (o :: l) K σ = awpO P ty (puOf nf l.length dd) dd ops σ o (awpL P ty nf dd ops l K) := rfl
theorem pu_w {n : Nat} {dd : Option Nat} : isW (puOf nf n dd) = (n < nf) := by
 unfold puOf isW
 by_cases h : nf ≤ n
 ·rw [if_pos h]; exact propext ⟨fun h => h.elim, fun h2 => by omega⟩
 ·rw [if_neg h]; exact propext ⟨fun _ => by omega, fun _ => trivial⟩
theorem e_op [Pan] {dd : Option Nat} : awpO P ty pu dd ops σ o K = if isV o.op = true then awpV ty (guardOf σ.tm ops o.guard) dd σ o K else stb dd (vldW σ.H) ∧ awpE P ty (guardOf σ.tm ops o.guard) pu σ o K := rfl
theorem stb_n {A : Nat → Prop} : stb none A = True := rfl
theorem stb_s {A : Nat → Prop} {k : Nat} : stb (some k) A = A k := rfl
theorem e_eff [Pan] {g : Bool} : awpE P ty (some g) pu σ o K = (gOk g (opGs σ.rd o.op) ∧ effG g (eff P ty pu σ.tm σ.rd σ.H o K) (K ⟨putT σ.tm g o.dst (.c .junk), σ.H⟩)) := rfl
theorem effG_congr {g g' : Bool} {A B : Prop} (h : g = g') : effG g A B = effG g' A B := by rw [h]
theorem ef_t {A B : Prop} : effG true A B = A := by simp [effG]
theorem ef_g {g : Bool} {A B : Prop} : effG g A B = ((g = true → A) ∧ (g = false → B)) := rfl
def putV (g : Bool) (tm : Tm) (H : List Root) (d : Option Nat) (q : Vo) (K : AS → Prop) : Prop := (g = true → q.1) ∧ K ⟨putT tm g d q.2, H⟩
theorem e_val {g : Bool} {dd : Option Nat} : awpV ty (some g) dd σ o K = (gOk g (opGs σ.rd o.op) ∧ stb dd (fun k => vldW σ.H k ∧ (g = true → (opV ty g σ.rd (setRoot σ.H k .dead) o.op).1)) ∧ putV g σ.tm σ.H o.dst (opV ty g σ.rd σ.H o.op) K) := rfl
theorem e_putt {d : Option Nat} {p : Prop} {v : RV} : putV true tm H d (p, v) K = (p ∧ K ⟨putT tm true d v, H⟩) := by simp [putV]
theorem e_putg {g : Bool} {d : Option Nat} {p : Prop} {v : RV} : putV g tm H d (p, v) K = ((g = true → p) ∧ K ⟨putT tm g d v, H⟩) := rfl
theorem e_putn {g : Bool} {d : Option Nat} : putV g tm H d no K = ((g = true → False) ∧ K ⟨putT tm g d (.c .junk), H⟩) := rfl
theorem e_put1 {t : Nat} {g : Bool} {v : RV} : putT tm g (some t) v = (t, g, v) :: tm := rfl
theorem e_put0 {g : Bool} {v : RV} : putT tm g none v = tm := rfl
section
variable {d : Option Nat} {t : TypeId} {p : String} {af : Array Edge} {gd : Option (Nat × Bool)}
theorem f_box [Pan] {u : TypeId} {x : Operand} : eff P ty pu tm rd H ⟨d, .box u x, t, p, af, gd⟩ K = (((cellsR (rd x).2).length = (ty u).sz ∧ 0 < (ty u).sz ∧ njL (cellsR (rd x).2) = true) ∧ K ⟨putT tm true d (.c (.ptr H.length 1 0 0)), H ++ [.live false u (ty u).sz (.box (cellsR (rd x).2))]⟩) := rfl
theorem f_alloc [Pan] {u : TypeId} : eff P ty pu tm rd H ⟨d, .alloc u, t, p, af, gd⟩ K = ((0 < (ty u).sz ∧ kN (ty u).k) ∧ K ⟨putT tm true d (.c (.ptr H.length 1 0 0)), H ++ [.live false u (ty u).sz (.box (ty u).zero)]⟩) := rfl
theorem f_store [Pan] {u : TypeId} {x v : Operand} : eff P ty pu tm rd H ⟨d, .store u x v, t, p, af, gd⟩ K = (isW pu ∧ stoT (ty u) H (rd x).2 (rd v).2 (fun H => K ⟨putT tm true d (.c .junk), H⟩)) := rfl
def litT (wk : Option (List CK)) (ty : Ty) (e : TypeId) (H : List Root) (n : Nat) (q : Prop × List AV) (K : RV → List Root → Prop) : Prop :=
 match wk with
 | none => litV ty e H n q K
 | some [] => litO ty e H n q K
 | some (c :: cs) => litW ty e (c :: cs) n q (fun r => K r H)
theorem lit_n {e : TypeId} {n : Nat} {q : Prop × List AV} {K : RV → List Root → Prop} : litT none ty e H n q K = litV ty e H n q K := rfl
theorem lit_s {c : CK} {cs : List CK} {e : TypeId} {n : Nat} {q : Prop × List AV} {K : RV → List Root → Prop} : litT (some (c :: cs)) ty e H n q K = litW ty e (c :: cs) n q (fun r => K r H) := rfl
theorem lit_o {e : TypeId} {n : Nat} {q : Prop × List AV} {K : RV → List Root → Prop} : litT (some []) ty e H n q K = litO ty e H n q K := rfl
theorem zw_n {k : TyK} {z : List AV} {n : Nat} : zerosW none k z n = zeros k z n := rfl
theorem zw_s {c : CK} {cs : List CK} {k : TyK} {z : List AV} {n : Nat} : zerosW (some (c :: cs)) k z n = zeros k z n := rfl
theorem zw_o {k : TyK} {z : List AV} {n : Nat} : zerosW (some []) k z n = .own (List.replicate n z) := rfl
def appU (wk : Option (List CK)) (ty : Ty) (e : TypeId) (H : List Root) (s x : RV) (K : RV → List Root → Prop) : Prop :=
 match wk with
 | none => appV ty (.sl e) H s x K
 | some [] => appV ty (.sl e) H s x K
 | some (c :: cs) => appW ty e (c :: cs) s x (fun r => K r H)
theorem app_t {e : TypeId} {s x : RV} {K : RV → List Root → Prop} : appT ty (.sl e) H s x K = appU (ty e).wk ty e H s x K := rfl
theorem app_n {e : TypeId} {s x : RV} {K : RV → List Root → Prop} : appU none ty e H s x K = appV ty (.sl e) H s x K := rfl
theorem app_s {c : CK} {cs : List CK} {e : TypeId} {s x : RV} {K : RV → List Root → Prop} : appU (some (c :: cs)) ty e H s x K = appW ty e (c :: cs) s x (fun r => K r H) := rfl
theorem app_o {e : TypeId} {s x : RV} {K : RV → List Root → Prop} : appU (some []) ty e H s x K = appV ty (.sl e) H s x K := rfl
def litK (ty : Ty) (k : TyK) (rd : Operand → Bool × RV) (H : List Root) (n : Nat) (ps : List (Nat × Operand)) (K : RV → List Root → Prop) : Prop :=
 match k with
 | .sl e => litT (ty e).wk ty e H n (buildV (fun i => (i * (ty e).sz, (ty e).sz)) rd (rep (ty e).zero n) ps) K
 | _ => False
theorem f_lit [Pan] {u : TypeId} {n : Nat} {ps : Array (Nat × Operand)} : eff P ty pu tm rd H ⟨d, .buildSlice u n ps, t, p, af, gd⟩ K = litK ty (ty u).k rd H n ps.toList (fun r H => K ⟨putT tm true d r, H⟩) := by
 unfold eff litK
 dsimp only
 cases (ty u).k with
 | sl e =>
  unfold litT
  dsimp only
  match (ty e).wk with
  | none => rfl
  | some [] => rfl
  | some (_ :: _) => rfl
 | _ => rfl
theorem f_litK {e : TypeId} {n : Nat} {ps : List (Nat × Operand)} {K : RV → List Root → Prop} : litK ty (.sl e) rd H n ps K = litT (ty e).wk ty e H n (buildV (fun i => (i * (ty e).sz, (ty e).sz)) rd (rep (ty e).zero n) ps) K := rfl
theorem f_make [Pan] {u : TypeId} {x y : Operand} : eff P ty pu tm rd H ⟨d, .makeSlice u x y, t, p, af, gd⟩ K = makeV ty (ty u).k H (rd x).2 (rd y).2 (fun r H => K ⟨putT tm true d r, H⟩) := rfl
theorem f_app [Pan] {x y : Operand} {u v : TypeId} : eff P ty pu tm rd H ⟨d, .call ⟨.builtin .append, #[x, y], #[u, v]⟩, t, p, af, gd⟩ K = (isW pu ∧ apK ty (strOf (rd y).2) [u, v] u v H (rd x).2 (rd y).2 (fun r H => K ⟨putT tm true d r, H⟩)) := rfl
theorem ap_s {b : ByteArray} {ts : List TypeId} {u v : TypeId} {s x : RV} {K : RV → List Root → Prop} : apK ty (some b) ts u v H s x K = ((ts = [u, v] ∧ (ty v).k = .str) ∧ appS ty (ty u).k H s b K) := rfl
theorem ap_n {ts : List TypeId} {u v : TypeId} {s x : RV} {K : RV → List Root → Prop} : apK ty none ts u v H s x K = (ts = [u, u] ∧ appT ty (ty u).k H s x K) := rfl
def clsK [Pan] (P : Program) (pu : Pu) (f : RV) (zs : List RV) (H : List Root) (K : RV → List Root → Prop) : Prop :=
 match f with
 | .fn f caps => callK P pu f (zs ++ caps.map .c) H K
 | _ => False
theorem f_call [Pan] {x : Operand} {zs : Array Operand} {ts : Array TypeId} : eff P ty pu tm rd H ⟨d, .call ⟨.value x, zs, ts⟩, t, p, af, gd⟩ K = clsK P pu (rd x).2 (rds rd zs.toList) H (fun r H => K ⟨putT tm true d r, H⟩) := rfl
theorem f_fld [Pan] {u : TypeId} {x : Operand} {f : Nat} : eff P ty pu tm rd H ⟨d, .field u x f, t, p, af, gd⟩ K = fldK (fldV P u f (rd x).2) (fun r => K ⟨putT tm true d r, H⟩) := rfl
theorem fk_s {r : RV} {K : RV → Prop} : fldK (some r) K = K r := rfl
theorem f_cls [Pan] {f : FuncId} {caps : List AV} {zs : List RV} {K : RV → List Root → Prop} : clsK P pu (.fn f caps) zs H K = callK P pu f (zs ++ caps.map .c) H K := rfl
end
theorem x_int {k : IntKind} {n : Int} {p : RV → Prop} : (∃ r, EqvT (.c (.int k n)) r ∧ p r) = p (.c (.int k n)) := propext ⟨fun ⟨_, ⟨_, e, e2⟩, h⟩ => by subst e; rcases e2 with e2 | e2 <;> (subst e2; exact h), fun h => ⟨_, ⟨_, rfl, .inl rfl⟩, h⟩⟩
theorem x_bool {b : Bool} {p : RV → Prop} : (∃ r, EqvT (.c (.bool b)) r ∧ p r) = p (.c (.bool b)) := propext ⟨fun ⟨_, ⟨_, e, e2⟩, h⟩ => by subst e; rcases e2 with e2 | e2 <;> (subst e2; exact h), fun h => ⟨_, ⟨_, rfl, .inl rfl⟩, h⟩⟩
def lpK {ι : Type} (vy : List Nat) (n : Nat) (inv : ι → Prop) (vals : ι → List RV) (H : ι → List Root) (μ : ι → Nat) (m : Nat) (σ' : AS) : Prop := ∃ s', inv s' ∧ gets σ'.tm vy = tvals (vals s') ∧ σ'.H.take n = H s' ∧ μ s' < m
theorem awp_loop [Pan] {c : Code} {ι : Type} (fx vy : List Nat) (inv : ι → Prop) (vals : ι → List RV) (H : ι → List Root) (μ : ι → Nat) (hfx : noAsg c fx = true) (h0 : ∃ s, inv s ∧ gets σ.tm vy = tvals (vals s) ∧ σ.H = H s)
  (hsc : ∀ s, inv s → (H s).length = σ.H.length ∧ scpRL σ.H.length (vals s) = true ∧ scpH σ.H.length (H s) = true ∧ (vals s).length = vy.length)
  (round : ∀ s, inv s → awp P ty ord c (thenK (lpK vy σ.H.length inv vals H μ (μ s)) Q) ⟨setT vy (vals s) (fxT σ.tm fx), H s⟩) : awp P ty ord (.loop c) Q σ :=
 .inl ⟨ι, fx, vy, inv, vals, H, μ, hfx, h0, hsc, round⟩
def lpK2 {ι : Type} (d : Nat) (vy : List Nat) (n : Nat) (inv : ι → Prop) (vals : ι → List RV) (H : ι → List Root) (μ : ι → Nat) (m : Nat) (σ' : AS) : Prop := ∃ s' ids, inv s' ∧ (ids.length = d ∧ okI n ids = true) ∧ renG n ids (gets σ'.tm vy) = tvals (vals s') ∧ renH n ids σ'.H = H s' ∧ μ s' < m
theorem awp_loop2 [Pan] {c : Code} {ι : Type} (d : Nat) (fx vy : List Nat) (inv : ι → Prop) (vals : ι → List RV) (H : ι → List Root) (μ : ι → Nat) (hfx : noAsg c fx = true) (h0 : ∃ s, inv s ∧ gets σ.tm vy = tvals (vals s) ∧ σ.H ++ List.replicate d .dead = H s)
  (hsc : ∀ s, inv s → (H s).length = σ.H.length + d)
  (round : ∀ s, inv s → awp P ty ord c (thenK (lpK2 d vy σ.H.length inv vals H μ (μ s)) Q) ⟨setT vy (vals s) (fxT σ.tm fx), H s⟩) : awp P ty ord (.loop c) Q σ :=
 .inr (.inl ⟨ι, d, fx, vy, inv, vals, H, μ, hfx, h0, hsc, round⟩)
theorem rk_c {body : (Exit → AS → Prop) → AS → Prop} {u : Unit} {l : List Unit} : roundsK body (u :: l) Q σ = body (thenK (roundsK body l Q) Q) σ := rfl
def opD : List Oper → Nat → Oper
 | [], _ => default
 | o :: _, 0 => o
 | _ :: l, n + 1 => opD l n
theorem opD_eq : ∀ (l : List Oper) (j : Nat), opD l j = l.getD j default
 | [], _ => rfl
 | _ :: _, 0 => rfl
 | _ :: l, j + 1 => by simp only [opD, List.getD_cons_succ]; exact opD_eq l j
theorem e_pick {i : Nat} {is : List Nat} : pick ops (i :: is) = opD ops.toList i :: pick ops is := by
 simp [pick, opD_eq, List.getD_eq_getElem?_getD, Array.getD_eq_getD_getElem?]
theorem e_pick0 : pick ops [] = [] := rfl
theorem t_n {n : AS → Prop} : thenK n Q .normal σ = n σ := rfl
theorem t_e {n : AS → Prop} {id : Nat} : thenK n Q (.exit id) σ = Q (.exit id) σ := rfl
theorem t_r {n : AS → Prop} : thenK n Q .ret σ = Q .ret σ := rfl
theorem b_n {id : Nat} : inB id Q .normal σ = Q .normal σ := rfl
theorem b_e {id j : Nat} : inB id Q (.exit j) σ = if j = id then Q .normal σ else Q (.exit j) σ := rfl
theorem b_r {id : Nat} : inB id Q .ret σ = Q .ret σ := rfl
theorem c_t {b : Bool} {A B : Prop} : condK (true, .c (.bool b)) A B = ((b = true → A) ∧ (b = false → B)) := rfl
theorem r_r {rs : List ResultVar} {K : RV → List Root → Prop} : retK ty rs K .ret σ = ((resL ty σ rs).1 ∧ K (one (resL ty σ rs).2) σ.H) := rfl
theorem r_n {rs : List ResultVar} {K : RV → List Root → Prop} : retK ty rs K .normal σ = ((resL ty σ rs).1 ∧ K (one (resL ty σ rs).2) σ.H) := rfl
end
section
variable {n : Nat} {ids : List Nat}
theorem rr_dead {n : Nat} {ids : List Nat} : renRoot n ids .dead = .dead := rfl
theorem rr_box {n : Nat} {ids : List Nat} {fz : Bool} {t : TypeId} {sz : Nat} {l : List AV} : renRoot n ids (.live fz t sz (.box l)) = .live fz t sz (.box (renL n ids l)) := rfl
theorem rr_ints {n : Nat} {ids : List Nat} {fz : Bool} {t : TypeId} {sz : Nat} {k : IntKind} {l : List Int} : renRoot n ids (.live fz t sz (.ints k l)) = .live fz t sz (.ints k l) := rfl
theorem rr_bools {n : Nat} {ids : List Nat} {fz : Bool} {t : TypeId} {sz : Nat} {l : List Bool} : renRoot n ids (.live fz t sz (.bools l)) = .live fz t sz (.bools l) := rfl
theorem rr_gen {n : Nat} {ids : List Nat} {fz : Bool} {t : TypeId} {sz : Nat} {l : List (List AV)} : renRoot n ids (.live fz t sz (.gen l)) = .live fz t sz (.gen l) := rfl
theorem rr_own {n : Nat} {ids : List Nat} {fz : Bool} {t : TypeId} {sz : Nat} {l : List (List AV)} : renRoot n ids (.live fz t sz (.own l)) = .live fz t sz (.own (renLL n ids l)) := rfl
theorem ra_ptr {id m i o : Nat} : renA n ids (.ptr id m i o) = mkPtr m i o (renI n ids id) := rfl
theorem ra_h {id st len : Nat} : renA n ids (.h id st len) = mkH st len (renI n ids id) := rfl
theorem ra_int {k : IntKind} {v : Int} : renA n ids (.int k v) = .int k v := rfl
theorem ra_bool {b : Bool} : renA n ids (.bool b) = .bool b := rfl
theorem ra_flt {b : Nat} : renA n ids (.flt b) = .flt b := rfl
theorem ra_str {b : ByteArray} : renA n ids (.str b) = .str b := rfl
theorem ra_nilp : renA n ids .nilp = .nilp := rfl
theorem ra_nils : renA n ids .nils = .nils := rfl
theorem ra_junk : renA n ids .junk = .junk := rfl
theorem ra_sl {k sz : Nat} {f : Nat → Nat → AV} : renA n ids (.sl k sz f) = .sl k sz f := rfl
theorem ra_rp {k : Nat} {f : Nat → AV} : renA n ids (.rp k f) = .rp k f := rfl
theorem mk_ps {m i o j : Nat} : mkPtr m i o (some j) = .ptr j m i o := rfl
theorem mk_pn {m i o : Nat} : mkPtr m i o none = .junk := rfl
theorem mk_hs {st len j : Nat} : mkH st len (some j) = .h j st len := rfl
theorem mk_hn {st len : Nat} : mkH st len none = .junk := rfl
end
attribute [congr] callK_congr effG_congr
def tyM : Nat → TyE
 | 2 => ⟨1, 8, .i .i64, [.int .i64 0], none⟩
 | 3 => ⟨1, 8, .i .i64, [.int .i64 0], none⟩
 | 4 => ⟨1, 1, .b, [.bool false], none⟩
 | 5 => ⟨1, 1, .i .u8, [.int .u8 0], none⟩
 | 6 => ⟨1, 1, .i .u8, [.int .u8 0], none⟩
 | 7 => ⟨4, 24, .st [(0, 1), (1, 1), (2, 1), (3, 1)], [.int .i64 0, .int .i64 0, .bool false, .int .u8 0], none⟩
 | 8 => ⟨4, 24, .st [(0, 1), (1, 1), (2, 1), (3, 1)], [.int .i64 0, .int .i64 0, .bool false, .int .u8 0], none⟩
 | 9 => ⟨1, 16, .str, [.str ⟨#[]⟩], none⟩
 | 10 => ⟨1, 16, .str, [.str ⟨#[]⟩], none⟩
 | 11 => ⟨1, 16, .str, [.str ⟨#[]⟩], none⟩
 | 12 => ⟨1, 8, .i .u64, [.int .u64 0], none⟩
 | 13 => ⟨2, 24, .st [(0, 1), (1, 1)], [.str ⟨#[]⟩, .int .u64 0], none⟩
 | 14 => ⟨2, 24, .st [(0, 1), (1, 1)], [.str ⟨#[]⟩, .int .u64 0], none⟩
 | 15 => ⟨1, 8, .sc, [.nilp], none⟩
 | 16 => ⟨1, 8, .sc, [.nilp], none⟩
 | 17 => ⟨1, 8, .sc, [.nilp], none⟩
 | 18 => ⟨1, 8, .st [(0, 1)], [.nilp], none⟩
 | 19 => ⟨1, 8, .st [(0, 1)], [.nilp], none⟩
 | 21 => ⟨1, 4, .i .i32, [.int .i32 0], none⟩
 | 22 => ⟨1, 24, .sl 163, [.nils], none⟩
 | 23 => ⟨1, 24, .sl 165, [.nils], none⟩
 | 24 => ⟨1, 24, .sl 5, [.nils], none⟩
 | 25 => ⟨11, 112, .st [(0, 1), (1, 1), (2, 1), (3, 1), (4, 1), (5, 1), (6, 1), (7, 1), (8, 1), (9, 1), (10, 1)], [.int .u8 0, .int .u8 0, .int .u8 0, .int .u8 0, .int .u8 0, .nils, .nils, .nils, .nils, .bool false, .bool false], none⟩
 | 26 => ⟨11, 112, .st [(0, 1), (1, 1), (2, 1), (3, 1), (4, 1), (5, 1), (6, 1), (7, 1), (8, 1), (9, 1), (10, 1)], [.int .u8 0, .int .u8 0, .int .u8 0, .int .u8 0, .int .u8 0, .nils, .nils, .nils, .nils, .bool false, .bool false], none⟩
 | 27 => ⟨3, 72, .st [(0, 1), (1, 1), (2, 1)], [.nils, .nils, .nils], none⟩
 | 28 => ⟨3, 72, .st [(0, 1), (1, 1), (2, 1)], [.nils, .nils, .nils], none⟩
 | 29 => ⟨1, 1, .i .i8, [.int .i8 0], none⟩
 | 30 => ⟨1, 24, .sl 29, [.nils], none⟩
 | 31 => ⟨2, 32, .st [(0, 1), (1, 1)], [.nils, .int .u8 0], none⟩
 | 32 => ⟨2, 32, .st [(0, 1), (1, 1)], [.nils, .int .u8 0], none⟩
 | 34 => ⟨1, 24, .sl 124, [.nils], none⟩
 | 35 => ⟨1, 24, .sl 70, [.nils], none⟩
 | 36 => ⟨2, 48, .st [(0, 1), (1, 1)], [.nils, .nils], none⟩
 | 37 => ⟨2, 48, .st [(0, 1), (1, 1)], [.nils, .nils], none⟩
 | 38 => ⟨1, 24, .sl 78, [.nils], none⟩
 | 39 => ⟨1, 24, .sl 136, [.nils], none⟩
 | 40 => ⟨2, 48, .st [(0, 1), (1, 1)], [.nils, .nils], none⟩
 | 41 => ⟨2, 48, .st [(0, 1), (1, 1)], [.nils, .nils], none⟩
 | 42 => ⟨5, 104, .st [(0, 2), (2, 2), (4, 1)], [.nils, .nils, .nils, .nils, .int .i64 0], none⟩
 | 43 => ⟨5, 104, .st [(0, 2), (2, 2), (4, 1)], [.nils, .nils, .nils, .nils, .int .i64 0], none⟩
 | 47 => ⟨1, 8, .i .i64, [.int .i64 0], none⟩
 | 52 => ⟨2, 16, .st [(0, 1), (1, 1)], [.int .i64 0, .int .i64 0], none⟩
 | 53 => ⟨2, 16, .st [(0, 1), (1, 1)], [.int .i64 0, .int .i64 0], none⟩
 | 54 => ⟨1, 24, .sl 87, [.nils], none⟩
 | 55 => ⟨1, 24, .sl 167, [.nils], none⟩
 | 56 => ⟨9, 136, .st [(0, 1), (1, 2), (3, 2), (5, 1), (6, 1), (7, 1), (8, 1)], [.int .i64 0, .int .i64 0, .int .i64 0, .int .i64 0, .int .i64 0, .nils, .nils, .nils, .nils], none⟩
 | 57 => ⟨9, 136, .st [(0, 1), (1, 2), (3, 2), (5, 1), (6, 1), (7, 1), (8, 1)], [.int .i64 0, .int .i64 0, .int .i64 0, .int .i64 0, .int .i64 0, .nils, .nils, .nils, .nils], none⟩
 | 68 => ⟨1, 24, .sl 3, [.nils], none⟩
 | 69 => ⟨2, 32, .st [(0, 1), (1, 1)], [.int .i64 0, .nils], none⟩
 | 70 => ⟨2, 32, .st [(0, 1), (1, 1)], [.int .i64 0, .nils], none⟩
 | 78 => ⟨1, 24, .sl 2, [.nils], none⟩
 | 86 => ⟨2, 16, .st [(0, 1), (1, 1)], [.int .i64 0, .int .i64 0], none⟩
 | 87 => ⟨2, 16, .st [(0, 1), (1, 1)], [.int .i64 0, .int .i64 0], none⟩
 | 88 => ⟨1, 24, .sl 268, [.nils], none⟩
 | 89 => ⟨1, 8, .i .u64, [.int .u64 0], none⟩
 | 90 => ⟨4, 48, .st [(0, 1), (1, 1), (2, 1), (3, 1)], [.nils, .int .u8 0, .int .u64 0, .int .u64 0], none⟩
 | 91 => ⟨4, 48, .st [(0, 1), (1, 1), (2, 1), (3, 1)], [.nils, .int .u8 0, .int .u64 0, .int .u64 0], none⟩
 | 93 => ⟨1, 8, .sc, [.flt 0], none⟩
 | 94 => ⟨4, 48, .st [(0, 1), (1, 1), (2, 1), (3, 1)], [.nils, .int .i64 0, .flt 0, .flt 0], none⟩
 | 95 => ⟨4, 48, .st [(0, 1), (1, 1), (2, 1), (3, 1)], [.nils, .int .i64 0, .flt 0, .flt 0], none⟩
 | 99 => ⟨5, 40, .st [(0, 1), (1, 1), (2, 1), (3, 1), (4, 1)], [.int .i64 0, .int .i64 0, .int .i64 0, .int .i64 0, .bool false], none⟩
 | 100 => ⟨5, 40, .st [(0, 1), (1, 1), (2, 1), (3, 1), (4, 1)], [.int .i64 0, .int .i64 0, .int .i64 0, .int .i64 0, .bool false], none⟩
 | 104 => ⟨1, 24, .sl 110, [.nils], none⟩
 | 107 => ⟨1, 8, .sc, [.nilp], none⟩
 | 108 => ⟨1, 8, .i .i64, [.int .i64 0], none⟩
 | 109 => ⟨5, 40, .st [(0, 1), (1, 1), (2, 1), (3, 1), (4, 1)], [.int .i64 0, .int .i64 0, .int .i64 0, .int .i64 0, .int .i64 0], none⟩
 | 110 => ⟨5, 40, .st [(0, 1), (1, 1), (2, 1), (3, 1), (4, 1)], [.int .i64 0, .int .i64 0, .int .i64 0, .int .i64 0, .int .i64 0], none⟩
 | 114 => ⟨1, 8, .sc, [.nilp], none⟩
 | 115 => ⟨3, 40, .st [(0, 1), (1, 1), (2, 1)], [.nils, .int .i64 0, .bool false], none⟩
 | 116 => ⟨3, 40, .st [(0, 1), (1, 1), (2, 1)], [.nils, .int .i64 0, .bool false], none⟩
 | 120 => ⟨2, 16, .st [(0, 1), (1, 1)], [.int .i64 0, .int .i64 0], none⟩
 | 121 => ⟨2, 16, .st [(0, 1), (1, 1)], [.int .i64 0, .int .i64 0], none⟩
 | 122 => ⟨1, 24, .sl 121, [.nils], none⟩
 | 123 => ⟨1, 24, .st [(0, 1)], [.nils], none⟩
 | 124 => ⟨1, 24, .st [(0, 1)], [.nils], none⟩
 | 125 => ⟨1, 8, .sc, [.nilp], none⟩
 | 126 => ⟨2, 32, .st [(0, 1), (1, 1)], [.nilp, .nils], none⟩
 | 127 => ⟨2, 32, .st [(0, 1), (1, 1)], [.nilp, .nils], none⟩
 | 135 => ⟨3, 40, .st [(0, 1), (1, 1), (2, 1)], [.int .i64 0, .nils, .int .i64 0], none⟩
 | 136 => ⟨3, 40, .st [(0, 1), (1, 1), (2, 1)], [.int .i64 0, .nils, .int .i64 0], none⟩
 | 144 => ⟨1, 8, .sc, [.nilp], none⟩
 | 152 => ⟨1, 24, .sl 160, [.nils], none⟩
 | 155 => ⟨1, 8, .sc, [.nilp], none⟩
 | 156 => ⟨4, 48, .st [(0, 1), (1, 1), (2, 1), (3, 1)], [.nils, .int .i64 0, .int .i64 0, .int .i64 0], none⟩
 | 157 => ⟨4, 48, .st [(0, 1), (1, 1), (2, 1), (3, 1)], [.nils, .int .i64 0, .int .i64 0, .int .i64 0], none⟩
 | 159 => ⟨2, 24, .st [(0, 1), (1, 1)], [.str ⟨#[]⟩, .int .i64 0], none⟩
 | 160 => ⟨2, 24, .st [(0, 1), (1, 1)], [.str ⟨#[]⟩, .int .i64 0], none⟩
 | 162 => ⟨2, 2, .st [(0, 1), (1, 1)], [.int .u8 0, .int .u8 0], none⟩
 | 163 => ⟨2, 2, .st [(0, 1), (1, 1)], [.int .u8 0, .int .u8 0], none⟩
 | 164 => ⟨4, 4, .st [(0, 1), (1, 1), (2, 1), (3, 1)], [.int .u8 0, .int .u8 0, .int .u8 0, .int .u8 0], none⟩
 | 165 => ⟨4, 4, .st [(0, 1), (1, 1), (2, 1), (3, 1)], [.int .u8 0, .int .u8 0, .int .u8 0, .int .u8 0], none⟩
 | 166 => ⟨4, 32, .st [(0, 1), (1, 1), (2, 1), (3, 1)], [.int .i64 0, .int .i64 0, .int .i64 0, .int .i64 0], none⟩
 | 167 => ⟨4, 32, .st [(0, 1), (1, 1), (2, 1), (3, 1)], [.int .i64 0, .int .i64 0, .int .i64 0, .int .i64 0], none⟩
 | 172 => ⟨1, 8, .sc, [.nilp], none⟩
 | 177 => ⟨1, 8, .sc, [.nilp], none⟩
 | 184 => ⟨1, 24, .sl 191, [.nils], none⟩
 | 191 => ⟨1, 8, .i .u64, [.int .u64 0], none⟩
 | 193 => ⟨1, 24, .sl 195, [.nils], none⟩
 | 195 => ⟨1, 24, .sl 4, [.nils], none⟩
 | 201 => ⟨3, 24, .st [(0, 1), (1, 1), (2, 1)], [.int .i64 0, .int .i64 0, .int .i64 0], none⟩
 | 202 => ⟨3, 24, .st [(0, 1), (1, 1), (2, 1)], [.int .i64 0, .int .i64 0, .int .i64 0], none⟩
 | 210 => ⟨1, 8, .sc, [.nilp], none⟩
 | 211 => ⟨29, 440, .st [(0, 9), (9, 5), (14, 5), (19, 1), (20, 4), (24, 5)], [.int .i64 0, .int .i64 0, .int .i64 0, .int .i64 0, .int .i64 0, .nils, .nils, .nils, .nils, .nils, .nils, .nils, .nils, .int .i64 0, .nils, .nils, .nils, .nils, .int .i64 0, .flt 0, .nils, .int .i64 0, .flt 0, .flt 0, .int .i64 0, .int .i64 0, .int .i64 0, .int .i64 0, .bool false], none⟩
 | 212 => ⟨29, 440, .st [(0, 9), (9, 5), (14, 5), (19, 1), (20, 4), (24, 5)], [.int .i64 0, .int .i64 0, .int .i64 0, .int .i64 0, .int .i64 0, .nils, .nils, .nils, .nils, .nils, .nils, .nils, .nils, .int .i64 0, .nils, .nils, .nils, .nils, .int .i64 0, .flt 0, .nils, .int .i64 0, .flt 0, .flt 0, .int .i64 0, .int .i64 0, .int .i64 0, .int .i64 0, .bool false], none⟩
 | 213 => ⟨2, 32, .st [(0, 1), (1, 1)], [.nils, .int .i64 0], none⟩
 | 214 => ⟨2, 32, .st [(0, 1), (1, 1)], [.nils, .int .i64 0], none⟩
 | 218 => ⟨1, 8, .sc, [.nilp], none⟩
 | 219 => ⟨1, 24, .sl 230, [.nils], none⟩
 | 222 => ⟨2, 16, .st [(0, 1), (1, 1)], [.int .i64 0, .int .i64 0], none⟩
 | 223 => ⟨2, 16, .st [(0, 1), (1, 1)], [.int .i64 0, .int .i64 0], none⟩
 | 225 => ⟨3, 40, .st [(0, 1), (1, 1), (2, 1)], [.nils, .int .i64 0, .int .i64 0], none⟩
 | 226 => ⟨3, 40, .st [(0, 1), (1, 1), (2, 1)], [.nils, .int .i64 0, .int .i64 0], none⟩
 | 230 => ⟨2, 24, .st [(0, 1), (1, 1)], [.str ⟨#[]⟩, .int .i64 0], none⟩
 | 241 => ⟨1, 24, .sl 260, [.nils], none⟩
 | 242 => ⟨2, 32, .st [(0, 1), (1, 1)], [.int .i64 0, .nils], none⟩
 | 243 => ⟨2, 32, .st [(0, 1), (1, 1)], [.int .i64 0, .nils], none⟩
 | 259 => ⟨3, 24, .st [(0, 1), (1, 1), (2, 1)], [.int .i64 0, .int .i64 0, .int .i64 0], none⟩
 | 260 => ⟨3, 24, .st [(0, 1), (1, 1), (2, 1)], [.int .i64 0, .int .i64 0, .int .i64 0], none⟩
 | 261 => ⟨2, 48, .st [(0, 1), (1, 1)], [.nils, .nils], none⟩
 | 262 => ⟨2, 48, .st [(0, 1), (1, 1)], [.nils, .nils], none⟩
 | 268 => ⟨1, 4, .i .u32, [.int .u32 0], none⟩
 | 273 => ⟨2, 48, .ar 2 1, [.nils, .nils], none⟩
 | 280 => ⟨20, 20, .ar 20 1, [.int .u8 0, .int .u8 0, .int .u8 0, .int .u8 0, .int .u8 0, .int .u8 0, .int .u8 0, .int .u8 0, .int .u8 0, .int .u8 0, .int .u8 0, .int .u8 0, .int .u8 0, .int .u8 0, .int .u8 0, .int .u8 0, .int .u8 0, .int .u8 0, .int .u8 0, .int .u8 0], none⟩
 | 286 => ⟨1, 8, .sc, [.nilp], none⟩
 | 287 => ⟨3, 56, .st [(0, 2), (2, 1)], [.int .i64 0, .nils, .nils], none⟩
 | 288 => ⟨3, 56, .st [(0, 2), (2, 1)], [.int .i64 0, .nils, .nils], none⟩
 | 289 => ⟨1, 24, .sl 68, [.nils], none⟩
 | 303 => ⟨1, 8, .sc, [.nilp], none⟩
 | 306 => ⟨2, 16, .st [(0, 1), (1, 1)], [.int .i64 0, .int .i64 0], none⟩
 | 307 => ⟨2, 16, .st [(0, 1), (1, 1)], [.int .i64 0, .int .i64 0], none⟩
 | 324 => ⟨1, 24, .sl 307, [.nils], none⟩
 | 325 => ⟨1, 24, .sl 307, [.nils], none⟩
 | 326 => ⟨1, 24, .st [(0, 1)], [.nils], none⟩
 | 327 => ⟨1, 24, .st [(0, 1)], [.nils], none⟩
 | 329 => ⟨1, 8, .sc, [.nilp], none⟩
 | 337 => ⟨1, 8, .i .i64, [.int .i64 0], none⟩
 | 340 => ⟨1, 8, .i .u64, [.int .u64 0], none⟩
 | 356 => ⟨1, 24, .sl 93, [.nils], none⟩
 | 361 => ⟨4, 40, .st [(0, 1), (1, 1), (2, 1), (3, 1)], [.nilp, .nilp, .nilp, .str ⟨#[]⟩], none⟩
 | 362 => ⟨4, 40, .st [(0, 1), (1, 1), (2, 1), (3, 1)], [.nilp, .nilp, .nilp, .str ⟨#[]⟩], none⟩
 | 363 => ⟨0, 0, .ar 0 1, [], none⟩
 | 364 => ⟨0, 0, .st [(0, 0)], [], none⟩
 | 365 => ⟨0, 0, .st [(0, 0)], [], none⟩
 | 366 => ⟨1, 1, .i .u8, [.int .u8 0], none⟩
 | 367 => ⟨1, 1, .i .u8, [.int .u8 0], none⟩
 | 369 => ⟨1, 4, .i .i32, [.int .i32 0], none⟩
 | 370 => ⟨1, 4, .i .i32, [.int .i32 0], none⟩
 | _ => ⟨0, 0, .no, [], none⟩
def ty : Ty := fun t => if t < 376 then tyM t else ⟨0, 0, .no, [], none⟩
theorem ty_eq (t : Nat) : ty t = if t < 376 then tyM t else ⟨0, 0, .no, [], none⟩ := rfl
theorem ty_ok : TyOk Tryz.prog ty := tyOk_of (n := 376) (by kernel_rfl) (fun t h => by
 show (if t < 376 then tyM t else _).k = .no
 rw [if_neg (Nat.not_lt.2 h)])
end Go.Proofs.YtabadfkikdefeaaGreat.Ab
