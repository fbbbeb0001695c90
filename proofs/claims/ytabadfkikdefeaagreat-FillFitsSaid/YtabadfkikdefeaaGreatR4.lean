/- Texts of the proof, joined: Le, Exp, RunC, Deep, RunF, Cat, RunX, Ord, SumL, RfA, RfB, RfC, RfD, RunP, Awake21, FitD. -/
import Derived.Test.YtabadfkikdefeaaGreatR3
set_option linter.all false
set_option maxRecDepth 100000
set_option maxHeartbeats 6400000
namespace Go.Proofs.YtabadfkikdefeaaGreat.Ab
open Go.RowKit
def leA (k : Nat) (x y : AV) : Bool :=
 match y with
 | .junk => true
 | .int k n => match x with
  | .int k' m => decide (k' = k ∧ m = n)
  | _ => false
 | .bool b => match x with
  | .bool a => decide (a = b)
  | _ => false
 | .flt b => match x with
  | .flt a => decide (a = b)
  | _ => false
 | .str b => match x with
  | .str a => decide (a = b)
  | _ => false
 | .nilp => match x with
  | .nilp => true
  | _ => false
 | .nils => match x with
  | .nils => true
  | _ => false
 | .ptr id n i o => match x with
  | .ptr id' n' i' o' => decide (id' = id ∧ n' = n ∧ i' = i ∧ o' = o)
  | _ => false
 | .h id st n => match x with
  | .h id' st' n' => decide (id' = id ∧ st' = st ∧ n' = n)
  | _ => false
 | .sl n sz g => match k with
  | 0 => false
  | k + 1 => match x with
   | .sl n' sz' f => decide (n' = n ∧ sz' = sz) && (List.range n).all fun i => (List.range sz).all fun j => leA k (f i j) (g i j)
   | _ => false
 | .rp n g => match k with
  | 0 => false
  | k + 1 => match x with
   | .rp n' f => decide (n' = n) && (List.range n).all fun j => leA k (f j) (g j)
   | _ => false
 | _ => false
def leL (k : Nat) : List AV → List AV → Bool
 | [], [] => true
 | a :: l, b :: m => leA k a b && leL k l m
 | _, _ => false
def leR1 (k : Nat) : RV → RV → Bool
 | _, .c .junk => true
 | .c a, .c b => leA k a b
 | .agg l, .agg m => leL k l m
 | .fn f l, .fn g m => decide (f = g) && leL k l m
 | .ifc t (.c a), .ifc t' (.c b) => decide (t = t') && leA k a b
 | .ifc t (.agg a), .ifc t' (.agg b) => decide (t = t') && leL k a b
 | _, _ => false
def leRL (k : Nat) : List RV → List RV → Bool
 | [], [] => true
 | a :: l, b :: m => leR1 k a b && leRL k l m
 | _, _ => false
def leR (k : Nat) (x y : RV) : Bool :=
 match y with
 | .tup m => match x with
  | .tup l => leRL k l m
  | _ => false
 | y => leR1 k x y
def leRt (k : Nat) : Root → Root → Bool
 | _, .dead => true
 | .live fz t sz r, .live fz' t' sz' r' => decide (fz' = fz ∧ t' = t ∧ sz' = sz ∧ r'.len = r.len ∧ r'.one = r.one ∧ r'.isBox = r.isBox) && (List.range r.len).all fun i => (List.range sz).all fun o => leA k (r.get i o) (r'.get i o)
 | .dead, .live .. => false
def leH (k : Nat) (H H' : List Root) : Bool := decide (H.length = H'.length) && (List.range H.length).all fun id => leRt k (rootAt H id) (rootAt H' id)
noncomputable def leT (k nt : Nat) (tm tm' : Tm) : Bool := (tm'.all fun e => decide (e.1 < nt)) && (List.range nt).all fun t => decide ((lkF tm' t).1 = (lkF tm t).1) && leR k (lkF tm t).2 (lkF tm' t).2
noncomputable def leS (k nt : Nat) (σ σ' : AS) : Bool := leH k σ.H σ'.H && leT k nt σ.tm σ'.tm
section
variable {P : Program} {ty : Ty} {E : Env} {nt n : Nat} {M : Mp} {H H' : List Root} {σ σ' : AS} {a : Act} {w : World}
theorem le_con0 {rho : Nat → Prop} : ∀ (k : Nat) {x y : AV} {v : Value}, leA k x y = true → Con0 rho w x v → Con0 rho w y v
 | k, x, y, v, h, c => by
  unfold leA at h
  cases y <;> simp only at h
  case junk => trivial
  case sl n sz g =>
   cases k with
   | zero => cases h
   | succ k =>
    cases x <;> simp only at h
    case sl n' sz' f =>
     simp only [Bool.and_eq_true, decide_eq_true_eq, List.all_eq_true, List.mem_range] at h
     obtain ⟨⟨rfl, rfl⟩, h⟩ := h
     obtain ⟨a, b, off, cc, h1, h2, h3, h4, h5⟩ := c
     refine ⟨a, b, off, cc, h1, h2, h3, h4, fun i hi j hj => ?_⟩
     obtain ⟨u, u1, u2⟩ := h5 i hi j hj
     exact ⟨u, u1, le_con0 k (h i hi j hj) u2⟩
    all_goals cases h
  case rp n g =>
   cases k with
   | zero => cases h
   | succ k =>
    cases x <;> simp only at h
    case rp n' f =>
     simp only [Bool.and_eq_true, decide_eq_true_eq, List.all_eq_true, List.mem_range] at h
     obtain ⟨rfl, h⟩ := h
     obtain ⟨b, off, h1, h2, h3⟩ := c
     refine ⟨b, off, h1, h2, fun j hj => ?_⟩
     obtain ⟨u, u1, u2⟩ := h3 j hj
     exact ⟨u, u1, le_con0 k (h j hj) u2⟩
    all_goals cases h
  all_goals first | (cases h; done) | (cases x <;> (try simp only at h) <;> first | (cases h; done) | exact c | (simp only [decide_eq_true_eq] at h; first | (subst h; exact c) | (obtain ⟨rfl, rfl⟩ := h; exact c) | exact c.elim))
def ShapeH (H H' : List Root) : Prop := H.length = H'.length ∧ ∀ id fz t sz r', rootAt H' id = .live fz t sz r' → ∃ r, rootAt H id = .live fz t sz r ∧ r.len = r'.len
theorem le_con (hs : ShapeH H H') (k : Nat) {x y : AV} {v : Value} (h : leA k x y = true) (c : Con M H w x v) : Con M H' w y v := by
 have keep : ∀ z, Con M H w z v → (∀ n sz f, z ≠ .sl n sz f) → (∀ n f, z ≠ .rp n f) → Con M H' w z v := fun z c n1 n2 => by
  cases z with
  | ptr id n i o =>
   refine ⟨⟨hs.1 ▸ c.1.1, c.1.2⟩, fun fz t sz r hr => ?_⟩
   obtain ⟨r0, k1, k2⟩ := hs.2 _ _ _ _ _ hr
   have := c.2 _ _ _ _ k1
   rw [k2] at this; exact this
  | h id st len =>
   refine ⟨⟨hs.1 ▸ c.1.1, c.1.2⟩, fun fz t sz r hr => ?_⟩
   obtain ⟨r0, k1, k2⟩ := hs.2 _ _ _ _ _ hr
   have := c.2 _ _ _ _ k1
   rw [k2] at this; exact this
  | _ => exact c
 cases y with
 | sl n sz g =>
  have c0 : Con0 M.rho w x v := by
   unfold leA at h
   try simp only at h
   cases k with
   | zero => cases h
   | succ k => cases x <;> first | exact c | cases h
  exact le_con0 k h c0
 | rp n g =>
  have c0 : Con0 M.rho w x v := by
   unfold leA at h
   try simp only at h
   cases k with
   | zero => cases h
   | succ k => cases x <;> first | exact c | cases h
  exact le_con0 k h c0
 | junk => trivial
 | ptr id n i o =>
  refine keep _ ?_ (fun _ _ _ e => by cases e) (fun _ _ e => by cases e)
  unfold leA at h; (try simp only at h)
  cases x <;> first | (cases h; done) | (simp only [decide_eq_true_eq] at h; obtain ⟨rfl, rfl, rfl, rfl⟩ := h; exact c)
 | h id st n =>
  refine keep _ ?_ (fun _ _ _ e => by cases e) (fun _ _ e => by cases e)
  unfold leA at h; (try simp only at h)
  cases x <;> first | (cases h; done) | (simp only [decide_eq_true_eq] at h; obtain ⟨rfl, rfl, rfl⟩ := h; exact c)
 | int k2 n =>
  unfold leA at h; (try simp only at h)
  cases x <;> first | (cases h; done) | (simp only [decide_eq_true_eq] at h; obtain ⟨rfl, rfl⟩ := h; exact c)
 | bool n =>
  unfold leA at h; (try simp only at h)
  cases x <;> first | (cases h; done) | (simp only [decide_eq_true_eq] at h; subst h; exact c)
 | flt n =>
  unfold leA at h; (try simp only at h)
  cases x <;> first | (cases h; done) | (simp only [decide_eq_true_eq] at h; subst h; exact c)
 | str n =>
  unfold leA at h; (try simp only at h)
  cases x <;> first | (cases h; done) | (simp only [decide_eq_true_eq] at h; subst h; exact c)
 | nilp =>
  unfold leA at h; (try simp only at h)
  cases x <;> first | exact c | cases h
 | nils =>
  unfold leA at h; (try simp only at h)
  cases x <;> first | exact c | cases h
 | _ => unfold leA at h; (try simp only at h); cases h
theorem le_conL (hs : ShapeH H H') (k : Nat) : ∀ {l m : List AV} {vs : List Value}, leL k l m = true → ConL M H w l vs → ConL M H' w m vs
 | [], [], _, _, c => c
 | _ :: _, _ :: _, _, h, ⟨v, r, e, c1, c2⟩ => by
  simp only [leL, Bool.and_eq_true] at h
  exact ⟨v, r, e, le_con hs k h.1 c1, le_conL hs k h.2 c2⟩
 | [], _ :: _, _, h, _ => by cases h
 | _ :: _, [], _, h, _ => by cases h
theorem le_conR1 (hs : ShapeH H H') (k : Nat) {x y : RV} {v : Value} (h : leR1 k x y = true) (c : ConR M H w x v) : ConR M H' w y v := by
 unfold leR1 at h
 split at h
 ·trivial
 ·exact le_con hs k h c
 ·obtain ⟨vs, e, c⟩ := c; exact ⟨vs, e, le_conL hs k h c⟩
 ·simp only [Bool.and_eq_true, decide_eq_true_eq] at h
  obtain ⟨rfl, h⟩ := h
  obtain ⟨vs, e, c⟩ := c; exact ⟨vs, e, le_conL hs k h c⟩
 ·simp only [Bool.and_eq_true, decide_eq_true_eq] at h
  obtain ⟨rfl, h⟩ := h
  obtain ⟨u, e, c⟩ := c; exact ⟨u, e, le_con hs k h c⟩
 ·simp only [Bool.and_eq_true, decide_eq_true_eq] at h
  obtain ⟨rfl, h⟩ := h
  obtain ⟨u, e, vs, e2, c⟩ := c; exact ⟨u, e, vs, e2, le_conL hs k h c⟩
 ·cases h
theorem le_conRL (hs : ShapeH H H') (k : Nat) : ∀ {l m : List RV} {vs : List Value}, leRL k l m = true → ConRL M H w l vs → ConRL M H' w m vs
 | [], [], _, _, c => c
 | _ :: _, _ :: _, _, h, ⟨v, r, e, c1, c2⟩ => by
  simp only [leRL, Bool.and_eq_true] at h
  exact ⟨v, r, e, le_conR1 hs k h.1 c1, le_conRL hs k h.2 c2⟩
 | [], _ :: _, _, h, _ => by cases h
 | _ :: _, [], _, h, _ => by cases h
theorem le_conR (hs : ShapeH H H') (k : Nat) {x y : RV} {v : Value} (h : leR k x y = true) (c : ConR M H w x v) : ConR M H' w y v := by
 unfold leR at h
 split at h
 ·split at h
  ·obtain ⟨vs, e, c⟩ := c; exact ⟨vs, e, le_conRL hs k h c⟩
  ·cases h
 ·exact le_conR1 hs k h c
theorem leH_at {k : Nat} (h : leH k H H' = true) {id : Nat} {fz : Bool} {t : TypeId} {sz : Nat} {r' : Row} (hr : rootAt H' id = .live fz t sz r') : ∃ r, rootAt H id = .live fz t sz r ∧ r'.len = r.len ∧ r'.one = r.one ∧ r'.isBox = r.isBox ∧ ∀ i, i < r.len → ∀ o, o < sz → leA k (r.get i o) (r'.get i o) = true := by
 unfold leH at h
 simp only [Bool.and_eq_true, decide_eq_true_eq, List.all_eq_true, List.mem_range] at h
 have hl := h.2 id (by rw [h.1]; exact rootAt_lt hr)
 rw [hr] at hl
 cases hh : rootAt H id with
 | dead => rw [hh] at hl; cases hl
 | live fz2 t2 sz2 r =>
  rw [hh] at hl
  simp only [leRt, Bool.and_eq_true, decide_eq_true_eq, List.all_eq_true, List.mem_range] at hl
  obtain ⟨⟨rfl, rfl, rfl, e1, e2, e3⟩, hc⟩ := hl
  exact ⟨r, rfl, e1, e2, e3, hc⟩
theorem leH_shape {k : Nat} (h : leH k H H' = true) : ShapeH H H' := by
 refine ⟨?_, fun id fz t sz r' hr => ?_⟩
 ·unfold leH at h
  simp only [Bool.and_eq_true, decide_eq_true_eq] at h
  exact h.1
 ·obtain ⟨r, h1, h2, -⟩ := leH_at h hr
  exact ⟨r, h1, h2.symm⟩
theorem Rel.le {k : Nat} (hl : leH k H H' = true) (h : Rel E M H w) : Rel E M H' w := by
 have lift : ∀ {id : Nat} {fz : Bool} {t : TypeId} {sz : Nat} {r' : Row}, rootAt H' id = .live fz t sz r' → ∃ r, rootAt H id = .live fz t sz r := fun hr => by
  obtain ⟨r, h1, -⟩ := leH_at hl hr; exact ⟨r, h1⟩
 refine ⟨h.bel, fun id fz t sz r hr => ?_, fun id fz t sz r hr => ?_, fun id t sz r hr => ?_, fun id t sz r hr => ?_, fun i j t s r t' s' r' hi hj he => ?_, h.rlt, h.src, h.tau.keep rfl (fun _ _ _ => rfl) (fun b q hq => (h.tau.new b q hq).2) fun b q j fz t s r hq hj => ?_⟩
 ·obtain ⟨r0, h0⟩ := lift hr; exact h.low _ _ _ _ _ h0
 ·obtain ⟨r0, h0, e1, e2, e3, hc⟩ := leH_at hl hr
  obtain ⟨cur, k1, k2, k3, k4, k5, k6⟩ := h.row _ _ _ _ _ h0
  refine ⟨cur, k1, k2, by rw [e1]; exact k3, k4, by rw [e2]; exact k5, fun i hi o ho => ?_⟩
  rw [e1] at hi
  obtain ⟨v, g1, g2, g3⟩ := k6 i hi o ho
  refine ⟨v, g1, g2, ?_⟩
  unfold RCon at g3 ⊢
  rw [e3]
  split
  ·rename_i hb; rw [if_pos hb] at g3; exact le_con (leH_shape hl) k (hc i hi o ho) g3
  ·rename_i hb; rw [if_neg hb] at g3; exact le_con0 k (hc i hi o ho) g3
 ·obtain ⟨r0, h0⟩ := lift hr; exact h.froz _ _ _ _ h0
 ·obtain ⟨r0, h0⟩ := lift hr; exact h.thaw _ _ _ _ h0
 ·obtain ⟨r0, h0⟩ := lift hi; obtain ⟨r1, h1⟩ := lift hj; exact h.inj _ _ _ _ _ _ _ _ h0 h1 he
 ·obtain ⟨r0, h0⟩ := lift hj; exact h.tau.row _ _ _ _ _ _ _ hq h0
theorem lk_none : ∀ (tm : Tm) (t : Nat), (∀ e ∈ tm, e.1 ≠ t) → lk tm t = (true, .c .junk)
 | [], _, _ => rfl
 | (k, v) :: l, t, h => by
  have h1 : k ≠ t := h _ (List.mem_cons_self ..)
  simp only [lk]
  rw [if_neg h1]
  exact lk_none l t fun e he => h e (List.mem_cons_of_mem _ he)
theorem Kp.le {k : Nat} (hl : leH k H H' = true) : Kp M H w M H' w := fun x v c => by
 have hs := leH_shape hl
 cases x with
 | ptr id n i o =>
  refine ⟨⟨hs.1 ▸ c.1.1, c.1.2⟩, fun fz t sz r hr => ?_⟩
  obtain ⟨r0, k1, k2⟩ := hs.2 _ _ _ _ _ hr
  have := c.2 _ _ _ _ k1
  rw [k2] at this; exact this
 | h id st len =>
  refine ⟨⟨hs.1 ▸ c.1.1, c.1.2⟩, fun fz t sz r hr => ?_⟩
  obtain ⟨r0, k1, k2⟩ := hs.2 _ _ _ _ _ hr
  have := c.2 _ _ _ _ k1
  rw [k2] at this; exact this
 | _ => exact c
theorem St.le {k : Nat} (hl : leS k nt σ σ' = true) (h : St E nt M σ a w) : St E nt M σ' a w := by
 unfold leS leT at hl
 simp only [lkF_eq, Bool.and_eq_true, decide_eq_true_eq, List.all_eq_true, List.mem_range] at hl
 obtain ⟨h1, h2, h3⟩ := hl
 refine ⟨h.rel.le h1, fun t ht => ?_, fun t ht => ?_, h.sz, h.df⟩
 ·by_cases hb : t < nt
  ·obtain ⟨e, hc⟩ := h3 t hb
   rw [e] at ht
   exact le_conR (leH_shape h1) k hc (h.tms t ht)
  ·rw [lk_none σ'.tm t fun e he hh => hb (hh ▸ h2 e he)]; trivial
 ·by_cases hb : t < nt
  ·obtain ⟨e, hc⟩ := h3 t hb
   rw [e] at ht
   exact h.off t ht
  ·rw [lk_none σ'.tm t fun e he hh => hb (hh ▸ h2 e he)] at ht; cases ht
end
def idsA : AV → List Nat
 | .ptr id .. => [id]
 | .h id .. => [id]
 | _ => []
def idsL : List AV → List Nat
 | [] => []
 | a :: l => idsA a ++ idsL l
mutual
def idsR : RV → List Nat
 | .c a => idsA a
 | .agg l => idsL l
 | .fn _ l => idsL l
 | .tup l => idsRL l
 | .ifc _ x => idsR x
def idsRL : List RV → List Nat
 | [] => []
 | a :: l => idsR a ++ idsRL l
end
def idsLL : List (List AV) → List Nat
 | [] => []
 | a :: l => idsL a ++ idsLL l
def idsRt : Root → List Nat
 | .live _ _ _ (.box l) => idsL l
 | .live _ _ _ (.own l) => idsLL l
 | _ => []
def walkI (n : Nat) (H : List Root) : Nat → List Nat → List Nat → List Nat
 | 0, _, acc => acc.reverse
 | _ + 1, [], acc => acc.reverse
 | k + 1, id :: l, acc => if Nat.blt id n || acc.contains id then walkI n H k l acc else walkI n H k (idsRt (rootAt H id) ++ l) (id :: acc)
noncomputable def idsT (tm : Tm) : List Nat → List Nat
 | [] => []
 | t :: l => idsR (lkF tm t).2 ++ idsT tm l
def idsH : List Root → List Nat
 | [] => []
 | r :: l => idsRt r ++ idsH l
noncomputable def canon (n nt : Nat) (σ : AS) : List Nat := walkI n σ.H 100000 (idsT σ.tm (List.range nt) ++ idsH (σ.H.take n)) []
noncomputable def normS (n nt : Nat) (σ : AS) : AS := renS n (canon n nt σ) ⟨fxF σ.tm (List.range nt), σ.H⟩
section
variable {E : Env} {nt n : Nat} {M : Mp} {σ : AS} {a : Act} {w : World}
theorem St.fx (h : St E nt M σ a w) (ks : List Nat) : St E nt M ⟨fxT σ.tm ks, σ.H⟩ a w := by
 refine ⟨h.rel, fun t ht => ?_, fun t ht => ?_, h.sz, h.df⟩
 ·have ht : (lk (fxT σ.tm ks) t).1 = true := ht
  show ConR M σ.H w (lk (fxT σ.tm ks) t).2 _
  rcases lk_fxT σ.tm ks t with ⟨-, e⟩ | ⟨-, e⟩
  ·rw [e] at ht ⊢; exact h.tms t ht
  ·rw [e]; trivial
 ·have ht : (lk (fxT σ.tm ks) t).1 = false := ht
  rcases lk_fxT σ.tm ks t with ⟨-, e⟩ | ⟨-, e⟩
  ·rw [e] at ht; exact h.off t ht
  ·rw [e] at ht; cases ht
theorem St.norm (h : St E nt M σ a w) (hn : n ≤ σ.H.length) (ho : okI n (canon n nt σ) = true) : St E nt (renM n (canon n nt σ) M) (normS n nt σ) a w := by
 unfold normS
 rw [fxF_eq]
 exact (h.fx (List.range nt)).ren hn ho
theorem Kp.norm {M0 : Mp} {H0 : List Root} {w0 : World} (h : Kp M0 H0 w0 M σ.H w) (hn : H0.length ≤ σ.H.length) : Kp M0 H0 w0 (renM H0.length (canon H0.length nt σ) M) (normS H0.length nt σ).H w := fun x v c => by
 have := (h x v c).ren (ids := canon H0.length nt σ) hn
 rw [ren_scp (scp_of c)] at this
 exact this
end
section
variable {P : Program} {ty : Ty} {call : CallB} {pu : Pu} {ops : Array Oper} {tm : Tm} {rd : Operand → Bool × RV} {H : List Root} {o : Oper}
theorem stoB_ex {e : TyE} {p v : RV} {K : List Root → Bool} (h : stoB e H p v K = true) : ∃ H', K H' = true := by
 unfold stoB at h
 repeat' split at h
 all_goals first | (cases h; done) | (simp only [Bool.and_eq_true] at h; first | exact ⟨_, h.2.2⟩ | exact ⟨_, h.2.2.2⟩ | exact ⟨_, h.2⟩)
theorem litB_ex {e : TypeId} {n : Nat} {ok : Bool} {l : List AV} {K : RV → List Root → Bool} (h : litB ty e H n ok l K = true) : ∃ r H', K r H' = true := by
 unfold litB at h
 repeat' split at h
 all_goals first | (cases h; done) | (simp only [Bool.and_eq_true] at h; first | exact ⟨_, _, h.2.2.2⟩ | exact ⟨_, _, h.2.2.2.2⟩ | exact ⟨_, _, h.2⟩)
theorem makeB_ex {k : TyK} {n c : RV} {K : RV → List Root → Bool} (h : makeB ty k H n c K = true) : ∃ r H', K r H' = true := by
 unfold makeB at h
 repeat' split at h
 all_goals first | (cases h; done) | (simp only [Bool.and_eq_true] at h; exact ⟨_, _, h.2⟩)
theorem appB_ex {k : TyK} {s x : RV} {K : RV → List Root → Bool} (h : appB ty k H s x K = true) : ∃ r H', K r H' = true := by
 unfold appB at h
 repeat' split at h
 all_goals first | (cases h; done) | (simp only [Bool.and_eq_true] at h; first | exact absurd h.2 (by decide) | exact absurd h.2.2 (by decide) | exact ⟨_, _, h.2⟩ | exact ⟨_, _, h.2.2⟩ | exact ⟨_, _, h.2.2.2⟩ | exact ⟨_, _, h.2.2.2.2⟩)
def CallEx (call : CallB) : Prop := ∀ pu f args H K, call pu f args H K = true → ∃ r H', K r H' = true
theorem effB_ex (hx : CallEx call) {K : AS → Bool} (h : effB ty call pu tm rd H o K = true) : ∃ σ, K σ = true := by
 have lift : ∀ {d : Option Nat}, (∃ r H', K ⟨putT tm true d r, H'⟩ = true) → ∃ σ, K σ = true := fun ⟨r, H', h⟩ => ⟨_, h⟩
 unfold effB at h
 split at h
 ·simp only [Bool.and_eq_true] at h; exact ⟨_, h.2⟩
 ·simp only [Bool.and_eq_true] at h; exact ⟨_, h.2⟩
 ·simp only [Bool.and_eq_true] at h
  obtain ⟨H', h⟩ := stoB_ex h.2
  exact ⟨_, h⟩
 ·split at h
  ·exact lift (litB_ex h)
  ·cases h
 ·exact lift (makeB_ex h)
 ·split at h
  ·split at h
   ·simp only [Bool.and_eq_true] at h; exact lift (appB_ex h.2.2)
   ·cases h
  ·split at h
   ·exact lift (hx _ _ _ _ _ h)
   ·cases h
  ·cases h
 ·cases h
theorem opB_ex (hx : CallEx call) {σ : AS} {K : AS → Bool} (h : opB ty call pu ops σ o K = true) : ∃ σ, K σ = true := by
 unfold opB at h
 split at h
 ·cases h
 ·simp only [Bool.and_eq_true] at h
  obtain ⟨-, h⟩ := h
  split at h
  ·simp only [Bool.and_eq_true] at h; exact ⟨_, h.2⟩
  ·split at h
   ·exact effB_ex hx h
   ·exact ⟨_, h⟩
theorem copy_ex {k : TyK} {H : List Root} {s x : RV} {K : RV → List Root → Bool} (h : copyB ty k H s x K = true) : ∃ r H', K r H' = true := by
 unfold copyB at h
 repeat' split at h
 all_goals first | (cases h; done) | (simp only [Bool.and_eq_true] at h; exact ⟨_, _, h.2⟩)
theorem opX_ex (hx : CallEx call) {σ : AS} {K : AS → Bool} (h : opX P ty call pu ops σ o K = true) : ∃ σ, K σ = true := by
 rw [opX_eq] at h
 unfold opX0 at h
 split at h
 case h_2 => exact opB_ex hx h
 split at h
 ·split at h
  ·exact ⟨_, h⟩
  ·unfold newE at h
   split at h
   ·split at h
    ·split at h
     ·unfold invB at h
      split at h
      ·simp only [Bool.and_eq_true] at h
       obtain ⟨r, H', h⟩ := hx _ _ _ _ _ h.2
       exact ⟨_, h⟩
      ·simp only [Bool.and_eq_true] at h
       obtain ⟨r, H', h⟩ := hx _ _ _ _ _ h.2
       exact ⟨_, h⟩
      ·cases h
     ·cases h
    ·split at h
     ·split at h
      ·simp only [Bool.and_eq_true] at h
       obtain ⟨r, H', h⟩ := appO_ex h.2.2
       exact ⟨_, h⟩
      ·exact opB_ex hx h
     ·exact opB_ex hx h
    ·split at h
     ·simp only [Bool.and_eq_true] at h
      obtain ⟨r, H', h⟩ := copy_ex h.2.2
      exact ⟨_, h⟩
     ·exact opB_ex hx h
    ·exact opB_ex hx h
   ·split at h
    ·unfold cutB at h
     repeat' split at h
     all_goals first | (cases h; done) | (simp only [Bool.and_eq_true] at h; exact ⟨_, h.2⟩)
    ·exact opB_ex hx h
   ·split at h
    ·unfold fr3B at h
     repeat' split at h
     all_goals first | (cases h; done) | (simp only [Bool.and_eq_true] at h; exact ⟨_, h.2⟩)
    ·exact opB_ex hx h
   ·exact opB_ex hx h
 ·exact opB_ex hx h
end
section
variable (P : Program) (ty : Ty) (call : CallB)
def hardV : Op → Bool
 | .slice _ _ (some _) _ _ => true
 | .slice _ _ _ _ (some _) => true
 | .nilCheck _ => true
 | .index .. => true
 | .binOp op .. => match op with
  | .and => true
  | .or => true
  | .andNot => true
  | .shl => true
  | .shr => true
  | _ => false
 | _ => false
def pureI (ops : Array Oper) (l : Array Bool) : Option Nat :=
 (Region.ready .any ops l).find? fun i => isV (ops.getD i default).op && !isLd (ops.getD i default).op && Region.free .any ops l i && decide (i < ops.size) && !hardV (ops.getD i default).op
def quietI (ops : Array Oper) (fins : List Nat) (l : Array Bool) : Option Nat :=
 (Region.ready .any ops l).find? fun i => isV (ops.getD i default).op && (quietB .any ops fins [i] l).isSome && isLd (ops.getD i default).op
noncomputable def pureN (ops : Array Oper) (l : Array Bool) (σ : AS) : Option (Nat × RV) :=
 (Region.ready .any ops l).findSome? fun i =>
  if isNew (ops.getD i default).op && Region.free .any ops l i && decide (i < ops.size) then
   match guardF σ.tm ops (ops.getD i default).guard with
   | some true => (newV P ty (rdF σ) σ.H (ops.getD i default).op).map fun r => (i, r)
   | _ => none
  else none
noncomputable def expB (ops : Array Oper) (fins : List Nat) (L : AS → Bool) : Nat → Bool → Array Bool → AS → Bool
 | 0, _, l, σ => (Region.ready .any ops l).isEmpty && L σ
 | n + 1, dy, l, σ => match pureI ops l with
  | some i => opBF ty call (some none) ops σ (ops.getD i default) (fun σ' => expB ops fins L n dy (l.setIfInBounds i true) σ')
  | none => match pureN P ty ops l σ with
  | some (i, r) => expB ops fins L n dy (l.setIfInBounds i true) ⟨putT σ.tm true (ops.getD i default).dst r, σ.H⟩
  | none => match (if dy then none else quietI ops fins l) with
  | some i => opBF ty call (some none) ops σ (ops.getD i default) (fun σ' => expB ops fins L n dy (l.setIfInBounds i true) σ')
  | none => !(Region.ready .any ops l).isEmpty && (Region.ready .any ops l).all fun i => decide (i < ops.size) && opX P ty call (if dy || fins.contains i then none else some none) ops σ (ops.getD i default) (fun σ' => expB ops fins L n (dy || fins.contains i) (l.setIfInBounds i true) σ')
noncomputable def firstB (ops : Array Oper) (fins : List Nat) (K : AS → Bool) : Nat → Array Bool → AS → Bool
 | 0, _, σ => K σ
 | n + 1, l, σ => match (match pureI ops l with | some i => [i] | none => match quietI ops fins l with | some i => [i] | none => Region.ready .any ops l) with
  | i :: _ => opX P ty call none ops σ (ops.getD i default) (fun σ' => firstB ops fins K n (l.setIfInBounds i true) σ')
  | [] => K σ
noncomputable def leafB (n nt : Nat) (c σ : AS) : Bool := decide (n ≤ σ.H.length) && okI n (canon n nt σ) && leS 8 nt (normS n nt σ) c
noncomputable def regB (nt : Nat) (ops : Array Oper) (q : Bool × List Nat) (K : AS → Bool) (σ : AS) : Bool :=
 Region.noSelect ops && (if q.1 then firstB P ty call ops q.2 (fun σf => expB P ty call ops q.2 (leafB σ.H.length nt (normS σ.H.length nt σf)) ops.size false (Array.replicate ops.size false) σ && K (normS σ.H.length nt σf)) ops.size (Array.replicate ops.size false) σ
  else expB P ty call ops q.2 K ops.size false (Array.replicate ops.size false) σ)
end
section
variable {P : Program} {ty : Ty} {call : CallB} {E : Env} {nt : Nat} {M M0 : Mp} {σ σ0 : AS} {a a0 : Act} {w w0 : World} {ops : Array Oper} {fins : List Nat} {L K : AS → Bool} {Q : Exit → Act → World → Prop}
theorem firstB_ex (hx : CallEx call) : ∀ (n : Nat) {l : Array Bool} {σ : AS}, firstB P ty call ops fins K n l σ = true → ∃ σ, K σ = true
 | 0, _, _, h => ⟨_, h⟩
 | n + 1, l, σ, h => by
  unfold firstB at h
  split at h
  ·obtain ⟨σ', h⟩ := opX_ex hx h
   exact firstB_ex hx n h
  ·exact ⟨_, h⟩
theorem wpOp_of {i : Nat} {Kn : Act → World → Prop} (hi : i < ops.size) (h : if Region.wanted (ops.getD i default) (yielded ops a.tmps) then (ops.getD i default).wp P a w Kn Q else Kn (a.put (ops.getD i default).dst undef) w) : wpOp P ops Q i Kn a w := by
 have ho : ops[i]? = some (ops.getD i default) := by simp [Array.getD, hi]
 unfold wpOp
 rw [ho]
 show if Region.wanted (ops.getD i default) (yielded ops a.tmps) then _ ∨ _ else _
 by_cases hw : Region.wanted (ops.getD i default) (yielded ops a.tmps) = true
 ·rw [if_pos hw] at h ⊢; exact .inl h
 ·rw [if_neg hw] at h ⊢; exact h
theorem val_pure (hT : TyOk P ty) (h : St E nt M σ a w) {o : Oper} (hv : isV o.op = true) (hl : isLd o.op = false) (hd : ∀ t, o.dst = some t → t < nt) {Kp : AS → Prop} {dd : Option Nat} (hw : awpV ty (guardOf σ.tm ops o.guard) dd σ o Kp) :
  ∃ σ' v, Kp σ' ∧ σ'.H = σ.H ∧ St E nt M σ' (a.put o.dst v) w ∧ Yields P ops o v a := by
 unfold awpV at hw
 split at hw
 ·exact hw.elim
 ·rename_i g hg
  obtain ⟨h1, -, h2, h3⟩ := hw
  have hwt := guard_ok h hg rfl
  cases g with
  | true =>
   obtain ⟨v, v1, v2⟩ := opV_gen hT h hv rfl h1 (h2 rfl)
   exact ⟨_, v, h3, rfl, h.putV hd (fun _ => v1) (fun e => by cases e), .inl ⟨hwt, fun w' => v2 w' fun e => by rw [hl] at e; cases e⟩⟩
  | false => exact ⟨_, undef, h3, rfl, h.putV hd (fun e => by cases e) (fun _ => rfl), .inr ⟨hwt, rfl⟩⟩
theorem wpAnyF_pure {md : Region.Mode} {S : World → Prop} {i : Nat} {oi : Oper} {v : Value} (hi : ops[i]? = some oi) (hsel : ∀ (j : Nat) (o : Oper) cs b, ops[j]? = some o → o.op ≠ .select cs b)
  (hQ : ∀ c a w, Q (.panic c) (a.put oi.dst v) w → Q (.panic c) a w) :
  ∀ (fuel : Nat) (listed : Array Bool) (a : Act) (w : World),
   (∀ j oj, ops[j]? = some oj → j ≠ i → listed.getD j true = false → (∀ e ∈ oj.after, Region.binds md e = true → e.on ≠ i) → oi.apart ops oj = true) →
   i ∈ Region.ready md ops listed → Yields P ops oi v a → S w →
   wpAnyF P md ops Q S fins fuel (listed.setIfInBounds i true) (a.put oi.dst v) w → wpAnyF P md ops Q S fins (fuel + 1) listed a w := by
 intro fuel
 induction fuel with
 | zero =>
  intro listed a w _ hr hy hS H
  refine ⟨fun h => (by rw [h] at hr; cases hr), fun j hj => ?_⟩
  by_cases hji : j = i
  ·subst hji; exact hy.wpOp hi (.inr ⟨hS, H⟩)
  ·have := ready_mono hj hji
   rw [H.1] at this
   cases this
 | succ fuel ih =>
  intro listed a w hfree hr hy hS H
  refine ⟨fun h => (by rw [h] at hr; cases hr), fun j hj => ?_⟩
  by_cases hji : j = i
  ·subst hji; exact hy.wpOp hi (.inr ⟨hS, H⟩)
  ·have h1 := H.2 j (ready_mono hj hji)
   obtain ⟨hjun, oj, hoj, hall⟩ := mem_ready.1 hj
   have hnot : ∀ e ∈ oj.after, Region.binds md e = true → e.on ≠ i := fun e he hb heq => by
    have h1 := hall e he hb
    have h0 := (mem_ready.1 hr).1
    rw [heq] at h1
    rcases Nat.lt_or_ge i listed.size with h' | h'
    ·simp [h'] at h0 h1; rw [h0] at h1; cases h1
    ·simp [Array.getElem?_eq_none h'] at h1
   have h2 := wpOp_put hoj (hfree j oj hoj hji hjun hnot) (fun cs b => hsel i oi cs b hi) (fun cs b => hsel j oj cs b hoj) hQ hy h1
   have hfree' : ∀ k ok, ops[k]? = some ok → k ≠ i → (listed.setIfInBounds j true).getD k true = false →
     (∀ e ∈ ok.after, Region.binds md e = true → e.on ≠ i) → oi.apart ops ok = true := fun k ok hk hki hun hno => by
    refine hfree k ok hk hki ?_ hno
    by_cases hjk : j = k
    ·subst hjk; exact hjun
    ·rw [getD_set_ne true hjk] at hun; exact hun
   refine wpOp_mono (fun a' w' ⟨hy', h3⟩ => ?_) h2
   rcases h3 with ⟨hf, h4⟩ | ⟨hs', h4⟩
   ·refine .inl ⟨hf, wpAny_first hi hsel hQ fuel (listed.setIfInBounds j true) a' w' hfree' (ready_mono hr (Ne.symm hji)) hy' ?_⟩
    rw [Array.setIfInBounds_comm _ _ hji]
    exact h4
   ·refine .inr ⟨hs', ih (listed.setIfInBounds j true) a' w' hfree' (ready_mono hr (Ne.symm hji)) hy' hs' ?_⟩
    rw [Array.setIfInBounds_comm _ _ hji]
    exact h4
def expK (P : Program) (ops : Array Oper) (Q : Exit → Act → World → Prop) (fins : List Nat) (dy : Bool) (n : Nat) (l : Array Bool) (a : Act) (w : World) : Prop :=
 if dy then wpAny P .any ops Q n l a w else wpAnyF P .any ops Q (OldD none w) fins n l a w
theorem exp_ok (hT : TyOk P ty) (hcall : ∀ pu f args H K, call pu f args H K = true → callK P pu f args H (fun r H => K r H = true)) (hs : Region.noSelect ops = true) (hd : dstOk nt ops = true) (hQp : ∀ c a w, ¬ Q (.panic c) a w)
  (hQ : ∀ M' σ' a' w', St E nt M' σ' a' w' → Stp M0 σ0 a0 w0 M' σ' a' w' (dstL ops.toList) → L σ' = true → Q .normal a' w') : ∀ (n : Nat) {dy : Bool} {l : Array Bool} {M : Mp} {σ : AS} {a : Act} {w : World}, St E nt M σ a w → Stp M0 σ0 a0 w0 M σ a w (dstL ops.toList) → Closed .any ops l → expB P ty call ops fins L n dy l σ = true → expK P ops Q fins dy n l a w
 | 0, dy, l, M, σ, a, w, h, hst, hcl, he => by
  simp only [expB, Bool.and_eq_true] at he
  have e1 : Region.ready .any ops l = [] := by simpa using he.1
  unfold expK
  split
  ·exact ⟨e1, hQ _ _ _ _ h hst he.2⟩
  ·exact ⟨e1, hQ _ _ _ _ h hst he.2⟩
 | n + 1, dy, l, M, σ, a, w, h, hst, hcl, he => by
  have hmem : ∀ {i : Nat}, i < ops.size → ∀ t, (ops.getD i default).dst = some t → dstL ops.toList t := fun {i} hi t ht => ⟨_, by simp [Array.getD, hi], ht⟩
  have hdi : ∀ {i : Nat}, i < ops.size → ∀ t, (ops.getD i default).dst = some t → t < nt := fun {i} hi => dstOk_spec hd _ (by simp [Array.getD, hi])
  unfold expB at he
  split at he
  ·rename_i i hi
   have hq := List.find?_some hi
   have hr : i ∈ Region.ready .any ops l := List.mem_of_find?_eq_some hi
   simp only [Bool.and_eq_true, Bool.not_eq_true', decide_eq_true_eq] at hq
   obtain ⟨⟨⟨⟨hv, hl⟩, hf⟩, e3⟩, -⟩ := hq
   have ho : ops[i]? = some (ops.getD i default) := by simp [Array.getD, e3]
   have hw' : awpV ty (guardOf σ.tm ops (ops.getD i default).guard) none σ (ops.getD i default) (fun σ' => expB P ty call ops fins L n dy (l.setIfInBounds i true) σ' = true) := by
    have := opB_ok hcall ((opBF_eq _ _ _ _ _ _ _).symm.trans he)
    unfold awpO at this
    rw [if_pos hv] at this
    exact this
   obtain ⟨σ', v, k1, k2, k3, k4⟩ := val_pure hT h hv hl (hdi e3) hw'
   have ih := exp_ok hT hcall hs hd hQp hQ n k3 (hst.trans (val_stp (M := M) (a := a) (w := w) (v := v) k2) (fun _ h => h) (hmem e3)) (hcl.set hr) k1
   unfold expK at ih ⊢
   cases dy with
   | true =>
    rw [if_pos rfl] at ih ⊢
    exact wpAny_first ho (Region.noSelect_spec hs) (fun c a w hh => (hQp _ _ _ hh).elim) n l a w (Region.free_spec ho hf) hr k4 ih
   | false =>
    rw [if_neg (by simp)] at ih ⊢
    exact wpAnyF_pure ho (Region.noSelect_spec hs) (fun c a w hh => (hQp _ _ _ hh).elim) n l a w (Region.free_spec ho hf) hr k4 (OldD.refl none w) ih
  split at he
  ·rename_i i r hi
   unfold pureN at hi
   obtain ⟨j, hr, hi⟩ := List.exists_of_findSome?_eq_some hi
   split at hi
   case isFalse => cases hi
   rename_i hcond
   simp only [Bool.and_eq_true, decide_eq_true_eq] at hcond
   obtain ⟨⟨-, hf⟩, e3⟩ := hcond
   split at hi
   case h_2 => cases hi
   rename_i hg
   rw [guardF_eq] at hg
   rw [rdF_eq] at hi
   obtain ⟨r', hn, e⟩ := Option.map_eq_some_iff.1 hi
   simp only [Prod.mk.injEq] at e
   obtain ⟨rfl, rfl⟩ := e
   have ho : ops[j]? = some (ops.getD j default) := by simp [Array.getD, e3]
   have hwt : Region.wanted (ops.getD j default) (yielded ops a.tmps) = true := guard_ok h hg rfl
   obtain ⟨v, v1, v2⟩ := newV_ok hT h hn
   have ih := exp_ok hT hcall hs hd hQp hQ n (h.putV (hdi e3) (fun _ => v1) (fun e => by cases e)) (hst.trans (val_stp (M := M) (a := a) (w := w) (v := v) rfl) (fun _ h => h) (hmem e3)) (hcl.set hr) he
   have k4 : Yields P ops (ops.getD j default) v a := .inl ⟨hwt, v2⟩
   unfold expK at ih ⊢
   cases dy with
   | true =>
    rw [if_pos rfl] at ih ⊢
    exact wpAny_first ho (Region.noSelect_spec hs) (fun c a w hh => (hQp _ _ _ hh).elim) n l a w (Region.free_spec ho hf) hr k4 ih
   | false =>
    rw [if_neg (by simp)] at ih ⊢
    exact wpAnyF_pure ho (Region.noSelect_spec hs) (fun c a w hh => (hQp _ _ _ hh).elim) n l a w (Region.free_spec ho hf) hr k4 (OldD.refl none w) ih
  split at he
  ·rename_i i hi
   cases dy with
   | true => simp at hi
   | false =>
    have hi : quietI ops fins l = some i := by simpa using hi
    have hq := List.find?_some hi
    simp only [Bool.and_eq_true] at hq
    obtain ⟨⟨hv, hq⟩, -⟩ := hq
    obtain ⟨l', hl'⟩ := Option.isSome_iff_exists.1 hq
    obtain ⟨e2, e3⟩ : l' = l.setIfInBounds i true ∧ i < ops.size := by
     simp only [quietB] at hl'
     split at hl'
     ·rename_i hc
      simp only [Bool.and_eq_true, decide_eq_true_eq] at hc
      exact ⟨(Option.some.inj hl').symm, hc.2⟩
     ·cases hl'
    subst e2
    have hw' : awpV ty (guardOf σ.tm ops (ops.getD i default).guard) none σ (ops.getD i default) (fun σ' => expB P ty call ops fins L n false (l.setIfInBounds i true) σ' = true) := by
     have := opB_ok hcall ((opBF_eq _ _ _ _ _ _ _).symm.trans he)
     unfold awpO at this
     rw [if_pos hv] at this
     exact this
    obtain ⟨σ', v, k1, k2, k3, k4, k5⟩ := val_okD hT h hv (hdi e3) hw'
    unfold expK
    rw [if_neg (by simp), Nat.add_comm]
    refine quiet_run (lq := [i]) (K := fun a' => a' = a.put (ops.getD i default).dst v) hs (fun c a d v w hh => (hQp _ _ _ hh).elim) (OldD.refl none w) l _ a hcl hl' ?_ fun a' hcl' ha => ?_
    ·simp only [List.map_cons, List.map_nil]
     unfold wpQuiet
     by_cases hwt : Region.wanted (ops.getD i default) (yielded ops a.tmps) = true
     ·rw [if_pos hwt]
      refine ⟨v, ?_, rfl⟩
      rintro w1 ⟨e, rfl⟩
      unfold Oper.quietAt
      rw [k4 hwt e.val e.ok]
      exact ⟨rfl, rfl⟩
     ·rw [if_neg hwt]
      show _ = _
      rw [k5 (by simpa using hwt)]
    ·subst ha
     have ih := exp_ok hT hcall hs hd hQp hQ n k3 (hst.trans (val_stp (M := M) (a := a) (w := w) (v := v) k2) (fun _ h => h) (hmem e3)) hcl' k1
     unfold expK at ih
     rw [if_neg (by simp)] at ih
     exact ih
  ·simp only [Bool.and_eq_true, List.all_eq_true, decide_eq_true_eq, Bool.not_eq_true'] at he
   obtain ⟨h1, h2⟩ := he
   have hne : Region.ready .any ops l ≠ [] := fun e => by rw [e] at h1; cases h1
   unfold expK
   cases dy with
   | true =>
    rw [if_pos rfl]
    refine ⟨fun h0 => absurd h0 hne, fun i hi => ?_⟩
    obtain ⟨e1, e2⟩ := h2 i hi
    refine wpOp_of e1 (opX_ok hT hcall h (hdi e1) e2 fun M' σ' a' w' q1 q2 q3 q4 => ?_)
    have ih := exp_ok hT hcall hs hd hQp hQ n q1 (hst.trans q3 (fun _ h => h) (hmem e1)) (hcl.set hi) q4
    unfold expK at ih
    simpa using ih
   | false =>
    rw [if_neg (by simp)]
    refine ⟨fun h0 => absurd h0 hne, fun i hi => ?_⟩
    obtain ⟨e1, e2⟩ := h2 i hi
    refine wpOp_of e1 (opX_ok hT hcall h (hdi e1) e2 fun M' σ' a' w' q1 q2 q3 q4 => ?_)
    have ih := exp_ok hT hcall hs hd hQp hQ n q1 (hst.trans q3 (fun _ h => h) (hmem e1)) (hcl.set hi) q4
    unfold expK at ih
    by_cases hf : fins.contains i = true
    ·rw [hf] at ih
     exact .inl ⟨by simpa using hf, by simpa using ih⟩
    ·have hf : fins.contains i = false := by simpa using hf
     rw [hf] at ih q2
     have ho : OldD none w w' := q2 none (by simp)
     refine .inr ⟨ho, wpAnyF_mono (fun w3 h3 => OldD.step ho h3) _ _ _ _ ?_⟩
     simpa using ih
theorem regB_ok (hT : TyOk P ty) (hm : P.follows .mixedOrders = true) (hcall : ∀ pu f args H K, call pu f args H K = true → callK P pu f args H (fun r H => K r H = true)) (hx : CallEx call) {id : Nat} {q : Bool × List Nat} (hd : dstOk nt ops = true) (h : St E nt M σ a w) (hw : regB P ty call nt ops q K σ = true)
  (hQ : ∀ a' w', After E nt M σ a w (dstL ops.toList) (fun σ => K σ = true) a' w' → Q .normal a' w') (hQp : ∀ c a w, ¬ Q (.panic c) a w) : (Code.region id ops true).wp P Q a w := by
 unfold regB at hw
 simp only [Bool.and_eq_true] at hw
 obtain ⟨hs, hw⟩ := hw
 have hb : Below w.heap.size w w.drew := (Below.refl _ _).drew
 have h2 : St E nt M σ a w.drew := ⟨h.rel.below hb, fun t ht => (Kp.below h.rel hb).R (h.tms t ht), h.off, h.sz, h.df⟩
 have hst : Stp M σ a w M σ a w.drew (dstL ops.toList) := ⟨Nat.le_refl _, Kp.below h.rel hb, fun _ _ => rfl⟩
 have hcl : Closed .any ops (Array.replicate ops.size false) := fun j oj _ hl => by rw [getD_replicate_false] at hl; cases hl
 have fin : ∀ L : AS → Bool, expB P ty call ops q.2 L ops.size false (Array.replicate ops.size false) σ = true → (∀ M' σ' a' w', St E nt M' σ' a' w' → Stp M σ a w M' σ' a' w' (dstL ops.toList) → L σ' = true → Q .normal a' w') → (Code.region id ops true).wp P Q a w := fun L he hL => by
  refine wp_region_any hm (wpAny_of_F (S := OldD none w.drew) (fins := q.2) _ _ _ _ ?_)
  have := exp_ok hT hcall hs hd hQp hL ops.size h2 hst hcl he
  unfold expK at this
  rw [if_neg (by simp)] at this
  exact this
 split at hw
 ·obtain ⟨σf, hf⟩ := firstB_ex hx _ hw
  simp only [Bool.and_eq_true] at hf
  obtain ⟨f1, f2⟩ := hf
  refine fin _ f1 fun M' σ' a' w' q1 q2 q3 => hQ a' w' ?_
  unfold leafB at q3
  simp only [Bool.and_eq_true, decide_eq_true_eq] at q3
  obtain ⟨⟨g1, g2⟩, g3⟩ := q3
  have s1 := q1.norm g1 g2
  have hlH : leH 8 (normS σ.H.length nt σ').H (normS σ.H.length nt σf).H = true := by
   unfold leS at g3
   simp only [Bool.and_eq_true] at g3
   exact g3.1
  refine ⟨_, _, s1.le g3, ⟨?_, (q2.kp.norm q2.len).trans (Kp.le hlH), q2.tm⟩, f2⟩
  rw [← (leH_shape hlH).1]
  show σ.H.length ≤ (renH σ.H.length (canon σ.H.length nt σ') σ'.H).length
  rw [renH_len g1]; omega
 ·exact fin K hw fun M' σ' a' w' q1 q2 q3 => hQ a' w' ⟨M', σ', q1, q2, q3⟩
end
def thenB (n : AS → Bool) (Q : Exit → AS → Bool) : Exit → AS → Bool
 | .normal, σ => n σ
 | e, σ => Q e σ
def inBB (id : Nat) (Q : Exit → AS → Bool) : Exit → AS → Bool
 | .exit j, σ => if j = id then Q .normal σ else Q (.exit j) σ
 | e, σ => Q e σ
section
variable {P : Program} {ty : Ty} {call : CallB} {ord : Nat → List Nat × Nat × Option Nat} {n : Nat}
end
def deepA (H : List Root) : Nat → AV → AV
 | k + 1, .ptr id n i o => match rootAt H id with
  | .live _ _ sz r => .rp (sz - o) (fun j => deepA H k (r.get i (o + j)))
  | .dead => .junk
 | k + 1, .h id st len => match rootAt H id with
  | .live _ _ sz r => .sl len sz (fun i j => deepA H k (r.get (st + i) j))
  | .dead => .junk
 | _, a => a
def deepOk (H : List Root) : Nat → AV → Bool
 | k + 1, .ptr id n i o => match rootAt H id with
  | .live _ _ sz r => decide (r.len = n ∧ i < n) && (List.range (sz - o)).all fun j => deepOk H k (r.get i (o + j))
  | .dead => false
 | k + 1, .h id st len => match rootAt H id with
  | .live _ _ sz r => decide (st + len = r.len) && (List.range len).all fun i => (List.range sz).all fun j => deepOk H k (r.get (st + i) j)
  | .dead => false
 | _, .junk => true
 | _, a => a.fr
theorem RCon.up {M : Mp} {H : List Root} {w : World} {bx : Bool} {a : AV} {v : Value} (h : RCon M H w bx a v) : Con M H w a v := by
 unfold RCon at h; split at h
 ·exact h
 ·exact Con.of0 h
theorem deep_ok {E : Env} {M : Mp} {H : List Root} {w : World} (h : Rel E M H w) : ∀ (k : Nat) {x : AV} {v : Value}, deepOk H k x = true → Con M H w x v → Con0 (lent M H) w (deepA H k x) v := by
 have plain : ∀ {x : AV} {v : Value}, x.fr = true → Con M H w x v → Con0 (lent M H) w x v := fun hx hc => fr_con hx (fun _ => .inl) hc
 intro k
 induction k with
 | zero =>
  intro x v ho hc
  cases x with
  | junk => trivial
  | _ => exact plain ho hc
 | succ k ih =>
  intro x v ho hc
  cases x with
  | ptr id n i o =>
   simp only [deepOk] at ho
   simp only [deepA]
   split at ho
   ·rename_i fz t sz r hr
    simp only [Bool.and_eq_true, decide_eq_true_eq, List.all_eq_true, List.mem_range] at ho
    obtain ⟨⟨hl, hi⟩, hf⟩ := ho
    have hv := (hc.2 _ _ _ _ hr).2 hl
    obtain ⟨cur, c1, c2, c3, c4, c5, c6⟩ := h.row _ _ _ _ _ hr
    refine ⟨M.phi id, M.off id + i * sz + o, hv, .inr ⟨id, fz, t, sz, _, hr, rfl⟩, fun j hj => ?_⟩
    obtain ⟨u, u1, u2, u3⟩ := c6 i (by omega) (o + j) (by omega)
    refine ⟨u, ?_, ih (hf j hj) u3.up⟩
    simp only [World.cell?, c1]
    rw [Nat.add_assoc]
    simpa using u1
   ·cases ho
  | h id st len =>
   simp only [deepOk] at ho
   simp only [deepA]
   split at ho
   ·rename_i fz t sz r hr
    simp only [Bool.and_eq_true, decide_eq_true_eq, List.all_eq_true, List.mem_range] at ho
    obtain ⟨e, hf⟩ := ho
    obtain ⟨cap, cur, ad, rfl, k1, k2, k3, k4, k7⟩ := (hc.2 _ _ _ _ hr).2 e
    obtain ⟨cur2, c1, c2, c3, c4, c5, c6⟩ := h.row _ _ _ _ _ hr
    refine ⟨_, M.phi id, M.off id + st * sz, cap, rfl, k1, k2, fun _ => ⟨congrArg some (k7 (by omega)), .inr ⟨id, fz, t, sz, r, hr, rfl⟩⟩, fun i hi j hj => ?_⟩
    obtain ⟨u, u1, u2, u3⟩ := c6 (st + i) (by omega) j hj
    refine ⟨u, ?_, ih (hf i hi j hj) u3.up⟩
    rw [show M.off id + st * sz + i * sz + j = M.off id + (st + i) * sz + j by rw [Nat.add_mul]; omega]
    simp [World.cell?, c1, u1]
   ·cases ho
  | junk => trivial
  | _ => exact plain ho hc
def deepL (H : List Root) (k : Nat) : List AV → List AV
 | [] => []
 | a :: l => deepA H k a :: deepL H k l
def deepR (H : List Root) (k : Nat) : RV → RV
 | .c a => .c (deepA H k a)
 | .agg l => .agg (deepL H k l)
 | .fn f l => .fn f (deepL H k l)
 | .tup l => .tup l
 | .ifc t x => .ifc t x
def deepRL (H : List Root) (k : Nat) : List RV → List RV
 | [] => []
 | a :: l => deepR H k a :: deepRL H k l
def deepOkR (H : List Root) (k : Nat) : RV → Bool
 | .c a => deepOk H k a
 | .agg l => l.all (deepOk H k)
 | .fn _ l => l.all (deepOk H k)
 | .tup _ => false
 | .ifc .. => false
section
variable {P : Program} {E : Env} {M : Mp} {H : List Root} {w : World}
theorem deepL_ok (h : Rel E M H w) (k : Nat) : ∀ {l : List AV} {vs : List Value}, l.all (deepOk H k) = true → ConL M H w l vs → Con0L (lent M H) w (deepL H k l) vs
 | [], _, _, hc => hc
 | _ :: _, _, ho, ⟨v, r, e, h1, h2⟩ => by
  simp only [List.all_cons, Bool.and_eq_true] at ho
  exact ⟨v, r, e, deep_ok h k ho.1 h1, deepL_ok h k ho.2 h2⟩
theorem deepR_ok (h : Rel E M H w) (k : Nat) {x : RV} {v : Value} (ho : deepOkR H k x = true) (hc : ConR M H w x v) : Con0R (lent M H) w (deepR H k x) v := by
 cases x with
 | c a => exact deep_ok h k ho hc
 | agg l => obtain ⟨vs, e, hc⟩ := hc; exact ⟨vs, e, deepL_ok h k ho hc⟩
 | fn f l => obtain ⟨vs, e, hc⟩ := hc; exact ⟨vs, e, deepL_ok h k ho hc⟩
 | tup => cases ho
 | ifc => cases ho
theorem deepRL_ok (h : Rel E M H w) (k : Nat) : ∀ {l : List RV} {vs : List Value}, l.all (deepOkR H k) = true → ConRL M H w l vs → Con0RL (lent M H) w (deepRL H k l) vs
 | [], _, _, hc => hc
 | _ :: _, _, ho, ⟨v, r, e, h1, h2⟩ => by
  simp only [List.all_cons, Bool.and_eq_true] at ho
  exact ⟨v, r, e, deepR_ok h k ho.1 h1, deepRL_ok h k ho.2 h2⟩
theorem scal_of {M : Mp} {H : List Root} {w : World} {rho : Nat → Prop} {x : AV} {v : Value} (hs : x.scal = true) (h : Con M H w x v) : Con0 rho w x v := by
 cases x <;> first | exact h | cases hs
theorem scalL_of {M : Mp} {H : List Root} {w : World} {rho : Nat → Prop} : ∀ {l : List AV} {vs : List Value}, scalL l = true → ConL M H w l vs → Con0L rho w l vs
 | [], _, _, h => h
 | _ :: _, _, hs, ⟨v, r, e, h1, h2⟩ => by
  simp only [scalL, Bool.and_eq_true] at hs
  exact ⟨v, r, e, scal_of hs.1 h1, scalL_of hs.2 h2⟩
theorem scalR_of {M : Mp} {H : List Root} {w : World} {rho : Nat → Prop} {x : RV} {v : Value} (hs : scalR x = true) (h : ConR M H w x v) : Con0R rho w x v := by
 cases x with
 | c a => exact scal_of hs h
 | agg l => obtain ⟨vs, e, h⟩ := h; exact ⟨vs, e, scalL_of hs h⟩
 | fn => cases hs
 | tup => cases hs
 | ifc => cases hs
theorem scalRL_of {M : Mp} {H : List Root} {w : World} {rho : Nat → Prop} : ∀ {l : List RV} {vs : List Value}, scalRL l = true → ConRL M H w l vs → Con0RL rho w l vs
 | [], _, _, h => h
 | _ :: _, _, hs, ⟨v, r, e, h1, h2⟩ => by
  simp only [scalRL, Bool.and_eq_true] at hs
  exact ⟨v, r, e, scalR_of hs.1 h1, scalRL_of hs.2 h2⟩
theorem scalT_of {M : Mp} {H : List Root} {w : World} {rho : Nat → Prop} {x : RV} {v : Value} (hs : scalT x = true) (h : ConR M H w x v) : Con0T rho w x v := by
 cases x with
 | tup l => obtain ⟨vs, e, h⟩ := h; exact ⟨vs, e, scalRL_of hs h⟩
 | c a => exact scalR_of (x := .c a) hs h
 | agg l => exact scalR_of (x := .agg l) hs h
 | fn f l => cases hs
 | ifc => cases hs
end
instance (ty : Ty) (σ : AS) (r : ResultVar) : Decidable (res1 ty σ r).1 := by
 unfold res1; split <;> infer_instance
instance decRes (ty : Ty) (σ : AS) : ∀ l : List ResultVar, Decidable (resL ty σ l).1
 | [] => isTrue trivial
 | r :: l => @instDecidableAnd _ _ inferInstance (decRes ty σ l)
def retB (ty : Ty) (rs : List ResultVar) (K : RV → List Root → Bool) : Exit → AS → Bool
 | .ret, σ => decide (resL ty σ rs).1 && K (one (resL ty σ rs).2) σ.H
 | .normal, σ => decide (resL ty σ rs).1 && K (one (resL ty σ rs).2) σ.H
 | _, _ => false
theorem deepRL_len (H : List Root) (k : Nat) : ∀ l : List RV, (deepRL H k l).length = l.length
 | [] => rfl
 | _ :: l => by simp [deepRL, deepRL_len H k l]
def AV.mfr : AV → Bool
 | .sl .. => false
 | .rp .. => false
 | .ws .. => false
 | .wu .. => false
 | .wp .. => false
 | _ => true
def shA (n : Nat) : AV → AV
 | .ptr id m i o => .ptr (id + n) m i o
 | .h id st len => .h (id + n) st len
 | a => a
def shL (n : Nat) : List AV → List AV
 | [] => []
 | a :: l => shA n a :: shL n l
def shLL (n : Nat) : List (List AV) → List (List AV)
 | [] => []
 | a :: l => shL n a :: shLL n l
def shRow (n : Nat) : Row → Row
 | .box l => .box (shL n l)
 | .own l => .own (shLL n l)
 | r => r
def shRt (n : Nat) : Root → Root
 | .live fz t sz r => .live fz t sz (shRow n r)
 | .dead => .dead
def shH (n : Nat) : List Root → List Root
 | [] => []
 | r :: l => shRt n r :: shH n l
def shR1 (n : Nat) : RV → RV
 | .c a => .c (shA n a)
 | .agg l => .agg (shL n l)
 | x => x
def shRL (n : Nat) : List RV → List RV
 | [] => []
 | a :: l => shR1 n a :: shRL n l
def shR (n : Nat) : RV → RV
 | .tup l => .tup (shRL n l)
 | x => shR1 n x
def plRow : Row → Bool
 | .box l => l.all AV.mfr
 | .own l => l.all fun l => l.all AV.mfr
 | .gen l => l.all fun l => l.all AV.mfr
 | _ => true
def plRt : Root → Bool
 | .live _ _ _ r => plRow r
 | .dead => true
def plR1 : RV → Bool
 | .c a => a.mfr
 | .agg l => l.all AV.mfr
 | _ => false
def plR : RV → Bool
 | .tup l => l.all plR1
 | x => plR1 x
def catM (n s : Nat) (M M' : Mp) : Mp := ⟨fun id => if id < n then M.phi id else M'.phi (id - n), fun id => if id < n then M.off id else M'.off (id - n), fun b => M.rho b ∨ (M'.rho b ∧ s ≤ b), M.tau⟩
section
variable {P : Program} {E : Env} {M M' : Mp} {H G : List Root} {w w' : World} {s n : Nat}
theorem shH_len (n : Nat) : ∀ l : List Root, (shH n l).length = l.length
 | [] => rfl
 | _ :: l => by simp [shH, shH_len n l]
theorem shH_at (n : Nat) : ∀ (l : List Root) (j : Nat), rootAt (shH n l) j = shRt n (rootAt l j)
 | [], _ => rfl
 | _ :: _, 0 => rfl
 | _ :: l, j + 1 => shH_at n l j
theorem shLL_len (n : Nat) : ∀ l : List (List AV), (shLL n l).length = l.length
 | [] => rfl
 | _ :: l => by simp [shLL, shLL_len n l]
theorem shLL_get (n : Nat) : ∀ (l : List (List AV)) (i : Nat), (shLL n l).getD i [] = shL n (l.getD i [])
 | [], _ => rfl
 | _ :: _, 0 => rfl
 | _ :: l, i + 1 => shLL_get n l i
theorem nth_sh (n : Nat) : ∀ (l : List AV) (o : Nat), nth (shL n l) o = shA n (nth l o)
 | [], _ => rfl
 | _ :: _, 0 => rfl
 | _ :: l, o + 1 => nth_sh n l o
theorem shRow_len (r : Row) : (shRow n r).len = r.len := by
 cases r <;> first | rfl | exact shLL_len _ _
theorem shRow_one (r : Row) : (shRow n r).one = r.one := by cases r <;> rfl
theorem shRow_box (r : Row) : (shRow n r).isBox = r.isBox := by cases r <;> rfl
theorem cat_at {j : Nat} {fz : Bool} {t : TypeId} {sz : Nat} {r : Row} (h : rootAt (H ++ shH H.length G) j = .live fz t sz r) : (j < H.length ∧ rootAt H j = .live fz t sz r) ∨ (H.length ≤ j ∧ ∃ r0, rootAt G (j - H.length) = .live fz t sz r0 ∧ r = shRow H.length r0) := by
 rw [rootAt_append] at h
 split at h
 ·rename_i hj; exact .inl ⟨hj, h⟩
 ·rename_i hj
  rw [shH_at] at h
  cases hg : rootAt G (j - H.length) with
  | dead => rw [hg] at h; cases h
  | live fz' t' sz' r0 => rw [hg] at h; cases h; exact .inr ⟨by omega, r0, rfl, rfl⟩
theorem phi_lt {j : Nat} (h : j < H.length) : (catM H.length s M M').phi j = M.phi j := if_pos h
theorem phi_ge {j : Nat} (h : H.length ≤ j) : (catM H.length s M M').phi j = M'.phi (j - H.length) := if_neg (by omega)
theorem off_lt {j : Nat} (h : j < H.length) : (catM H.length s M M').off j = M.off j := if_pos h
theorem off_ge {j : Nat} (h : H.length ≤ j) : (catM H.length s M M').off j = M'.off (j - H.length) := if_neg (by omega)
theorem Con.catL {x : AV} {v : Value} (c : Con M H w x v) : Con (catM H.length s M M') (H ++ shH H.length G) w x v := by
 have len : ∀ {id : Nat}, id < H.length → id < (H ++ shH H.length G).length := fun h => by rw [List.length_append]; omega
 cases x with
 | ptr id m i o =>
  refine ⟨⟨len c.1.1, c.1.2⟩, fun fz t sz r hr => ?_⟩
  rcases cat_at hr with ⟨h1, h2⟩ | ⟨h1, -⟩
  ·rw [phi_lt h1, off_lt h1]; exact c.2 _ _ _ _ h2
  ·have := c.1.1; omega
 | h id st l =>
  refine ⟨⟨len c.1.1, c.1.2⟩, fun fz t sz r hr => ?_⟩
  rcases cat_at hr with ⟨h1, h2⟩ | ⟨h1, -⟩
  ·rw [phi_lt h1, off_lt h1]; exact c.2 _ _ _ _ h2
  ·have := c.1.1; omega
 | sl n sz f => exact Con0.keep (fun _ _ => rfl) (fun _ => .inl) (show Con0 M.rho w (.sl n sz f) v from c)
 | rp n f => exact Con0.keep (fun _ _ => rfl) (fun _ => .inl) (show Con0 M.rho w (.rp n f) v from c)
 | _ => exact c
theorem Con.catR {x : AV} {v : Value} (hm : x.mfr = true) (c : Con M' G w x v) : Con (catM H.length s M M') (H ++ shH H.length G) w (shA H.length x) v := by
 have len : ∀ {id : Nat}, id < G.length → id + H.length < (H ++ shH H.length G).length := fun h => by rw [List.length_append, shH_len]; omega
 cases x with
 | ptr id m i o =>
  refine ⟨⟨len c.1.1, c.1.2⟩, fun fz t sz r hr => ?_⟩
  rcases cat_at hr with ⟨h1, -⟩ | ⟨h1, r0, h2, rfl⟩
  ·omega
  ·rw [phi_ge h1, off_ge h1, shRow_len]
   rw [Nat.add_sub_cancel] at h2 ⊢
   exact c.2 _ _ _ _ h2
 | h id st l =>
  refine ⟨⟨len c.1.1, c.1.2⟩, fun fz t sz r hr => ?_⟩
  rcases cat_at hr with ⟨h1, -⟩ | ⟨h1, r0, h2, rfl⟩
  ·omega
  ·rw [phi_ge h1, off_ge h1, shRow_len]
   rw [Nat.add_sub_cancel] at h2 ⊢
   exact c.2 _ _ _ _ h2
 | _ => first | exact c | cases hm
theorem ConL.catR : ∀ {l : List AV} {vs : List Value}, l.all AV.mfr = true → ConL M' G w l vs → ConL (catM H.length s M M') (H ++ shH H.length G) w (shL H.length l) vs
 | [], _, _, h => h
 | _ :: _, _, hm, ⟨v, r, e, h1, h2⟩ => by
  simp only [List.all_cons, Bool.and_eq_true] at hm
  exact ⟨v, r, e, h1.catR hm.1, ConL.catR hm.2 h2⟩
theorem ConR1.catR {x : RV} {v : Value} (hm : plR1 x = true) (c : ConR M' G w x v) : ConR (catM H.length s M M') (H ++ shH H.length G) w (shR1 H.length x) v := by
 cases x with
 | c a => exact Con.catR hm c
 | agg l => obtain ⟨vs, e, c⟩ := c; exact ⟨vs, e, ConL.catR hm c⟩
 | _ => cases hm
theorem ConRL.catR : ∀ {l : List RV} {vs : List Value}, l.all plR1 = true → ConRL M' G w l vs → ConRL (catM H.length s M M') (H ++ shH H.length G) w (shRL H.length l) vs
 | [], _, _, h => h
 | _ :: _, _, hm, ⟨v, r, e, h1, h2⟩ => by
  simp only [List.all_cons, Bool.and_eq_true] at hm
  exact ⟨v, r, e, ConR1.catR hm.1 h1, ConRL.catR hm.2 h2⟩
theorem ConR.catR {x : RV} {v : Value} (hm : plR x = true) (c : ConR M' G w x v) : ConR (catM H.length s M M') (H ++ shH H.length G) w (shR H.length x) v := by
 cases x with
 | tup l => obtain ⟨vs, e, c⟩ := c; exact ⟨vs, e, ConRL.catR hm c⟩
 | c a => exact ConR1.catR (x := .c a) hm c
 | agg l => exact ConR1.catR (x := .agg l) hm c
 | fn f l => cases hm
 | ifc t y => cases hm
theorem all_nth {p : AV → Bool} (hj : p .junk = true) : ∀ {l : List AV}, l.all p = true → ∀ o, p (nth l o) = true
 | [], _, _ => hj
 | _ :: _, h, 0 => by simp only [List.all_cons, Bool.and_eq_true] at h; exact h.1
 | _ :: _, h, o + 1 => by simp only [List.all_cons, Bool.and_eq_true] at h; exact all_nth hj h.2 o
theorem all_getD {l : List (List AV)} (h : (l.all fun l => l.all AV.mfr) = true) (i : Nat) : (l.getD i []).all AV.mfr = true := by
 rw [List.getD_eq_getElem?_getD]
 cases hi : l[i]? with
 | none => rfl
 | some x => exact List.all_eq_true.1 h x (List.mem_of_getElem? hi)
theorem Con0.mfr {rho rho' : Nat → Prop} {x : AV} {v : Value} (hm : x.mfr = true) (c : Con0 rho w x v) : Con0 rho' w x v := by
 cases x <;> first | exact c | cases hm
theorem Rel.cat (h : Rel E M H w') (hl : ∀ b, M.rho b → b < w.heap.size) (hp : ∀ id fz t sz r, rootAt H id = .live fz t sz r → M.phi id < w.heap.size) (ht : ∀ b q, M.tau b = some q → b < w.heap.size) (hE : E.W0.heap.size ≤ w.heap.size) {rho : Nat → Prop}
  (k : Rel ⟨w, rho, []⟩ M' G w') (pl : G.all plRt = true) : Rel E (catM H.length w.heap.size M M') (H ++ shH H.length G) w' := by
 have plg : ∀ {j : Nat} {fz : Bool} {t : TypeId} {sz : Nat} {r : Row}, rootAt G j = .live fz t sz r → plRow r = true := fun {j fz t sz r} hr => by
  have go : ∀ (G : List Root) (j : Nat), G.all plRt = true → plRt (rootAt G j) = true := by
   intro G
   induction G with
   | nil => intro j _; rfl
   | cons a l ih =>
    intro j h
    simp only [List.all_cons, Bool.and_eq_true] at h
    cases j with
    | zero => exact h.1
    | succ j => exact ih j h.2
  have := go G j pl
  rw [hr] at this; exact this
 refine ⟨h.bel, fun id fz t sz r hr => ?_, fun id fz t sz r hr => ?_, fun id t sz r hr => ?_, fun id t sz r hr => ?_, fun i j t s r t' s' r' hi hj he => ?_, fun b hb => ?_, ⟨fun b hb => ?_, h.src.2.mono fun _ => .inl⟩, h.tau.keep rfl (fun _ _ _ => rfl) (fun b q hq hb => ?_) fun b q j fz t s r hq hj => ?_⟩
 ·rcases cat_at hr with ⟨h1, h2⟩ | ⟨h1, r0, h2, rfl⟩
  ·rw [phi_lt h1]; exact h.low _ _ _ _ _ h2
  ·rw [phi_ge h1]; exact Nat.le_trans hE (k.low _ _ _ _ _ h2)
 ·rcases cat_at hr with ⟨h1, h2⟩ | ⟨h1, r0, h2, rfl⟩
  ·rw [phi_lt h1, off_lt h1]
   exact (h.row _ _ _ _ _ h2).keep (fun x v c => c.catL) (fun _ _ => rfl) (fun _ => .inl) rfl
  ·rw [phi_ge h1, off_ge h1]
   obtain ⟨cur, k1, k2, k3, k4, k5, k6⟩ := k.row _ _ _ _ _ h2
   refine ⟨cur, k1, k2, by rw [shRow_len]; exact k3, k4, by rw [shRow_one]; exact k5, fun i hi o ho => ?_⟩
   rw [shRow_len] at hi
   obtain ⟨v, v1, v2, v3⟩ := k6 i hi o ho
   refine ⟨v, v1, v2, ?_⟩
   have hpl := plg h2
   unfold RCon at v3 ⊢
   rw [shRow_box]
   cases r0 with
   | box l =>
    simp only [Row.isBox, if_true] at v3 ⊢
    show Con _ _ w' (nth (shL H.length l) o) v
    rw [nth_sh]
    exact Con.catR (all_nth (p := AV.mfr) rfl hpl o) v3
   | own l =>
    simp only [Row.isBox, if_true] at v3 ⊢
    show Con _ _ w' (nth ((shLL H.length l).getD i []) o) v
    rw [shLL_get, nth_sh]
    exact Con.catR (all_nth (p := AV.mfr) rfl (all_getD hpl i) o) v3
   | gen l => exact Con0.mfr (all_nth (p := AV.mfr) rfl (all_getD hpl i) o) v3
   | ints => exact v3
   | bools => exact v3
 ·rcases cat_at hr with ⟨h1, h2⟩ | ⟨h1, r0, h2, rfl⟩
  ·rw [phi_lt h1]; exact .inl (h.froz _ _ _ _ h2)
  ·rw [phi_ge h1]; exact .inr ⟨k.froz _ _ _ _ h2, k.low _ _ _ _ _ h2⟩
 ·rcases cat_at hr with ⟨h1, h2⟩ | ⟨h1, r0, h2, rfl⟩
  ·rw [phi_lt h1]
   rintro (hb | ⟨-, hb⟩)
   ·exact h.thaw _ _ _ _ h2 hb
   ·have := hp _ _ _ _ _ h2; omega
  ·rw [phi_ge h1]
   rintro (hb | ⟨hb, -⟩)
   ·have := hl _ hb
    have := k.low _ _ _ _ _ h2
    simp only at this
    omega
   ·exact k.thaw _ _ _ _ h2 hb
 ·rcases cat_at hi with ⟨h1, h2⟩ | ⟨h1, r0, h2, rfl⟩ <;> rcases cat_at hj with ⟨g1, g2⟩ | ⟨g1, r1, g2, rfl⟩
  ·rw [phi_lt h1, phi_lt g1] at he; exact h.inj _ _ _ _ _ _ _ _ h2 g2 he
  ·rw [phi_lt h1, phi_ge g1] at he
   have := hp _ _ _ _ _ h2
   have := k.low _ _ _ _ _ g2
   simp only at this
   omega
  ·rw [phi_ge h1, phi_lt g1] at he
   have := hp _ _ _ _ _ g2
   have := k.low _ _ _ _ _ h2
   simp only at this
   omega
  ·rw [phi_ge h1, phi_ge g1] at he
   have := k.inj _ _ _ _ _ _ _ _ h2 g2 he
   omega
 ·rcases hb with hb | ⟨hb, -⟩
  ·exact h.rlt b hb
  ·exact k.rlt b hb
 ·rcases hb with hb | ⟨-, hb⟩
  ·exact h.src.1 b hb
  ·exact .inr (Nat.le_trans hE hb)
 ·rcases hb with hb | ⟨-, hb⟩
  ·exact (h.tau.new b q hq).2 hb
  ·have := ht b q hq; omega
 ·rcases cat_at hj with ⟨h1, h2⟩ | ⟨h1, r0, h2, rfl⟩
  ·rw [phi_lt h1]; exact h.tau.row _ _ _ _ _ _ _ hq h2
  ·rw [phi_ge h1]
   have := k.low _ _ _ _ _ h2
   have := ht b q hq
   simp only at *
   omega
theorem callK_cat {pu : Pu} {f : FuncId} {args : List RV} {K : RV → List Root → Prop} (d : Nat) (ho : args.all (deepOkR H d) = true) (hp : callK P none f (deepRL H d args) [] (fun r G => (scalT r = true ∧ K r H) ∨ ((plR r = true ∧ G.all plRt = true) ∧ K (shR H.length r) (H ++ shH H.length G)))) : callK P pu f args H K := by
 refine ⟨hp.1, fun E M w vs h hc => ?_⟩
 have e5 := deepRL_ok h d ho hc
 have hrho : ∀ b, lent M H b → b < w.heap.size := fun b hb => by
  rcases hb with hb | ⟨id, fz, t, sz, r, hr, rfl⟩
  ·exact h.rlt b hb
  ·exact h.lt hr
 have hgl : GlobIn (lent M H) w := h.glob.mono fun _ => .inl
 have hrel : Rel ⟨w, lent M H, []⟩ ⟨fun _ => 0, fun _ => 0, lent M H, fun _ => none⟩ [] w := ⟨Below.refl _ _, fun _ _ _ _ _ h => (by cases h), fun _ _ _ _ _ h => (by cases h), fun _ _ _ _ h => (by cases h), fun _ _ _ _ h => (by cases h), fun _ _ _ _ _ _ _ _ h => (by cases h), hrho, ⟨fun b hb => .inl hb, hgl⟩, ⟨fun _ _ h => (by cases h), fun _ _ _ _ _ _ _ h => (by cases h), fun _ _ _ h => (by cases h)⟩⟩
 refine (hp.2 _ _ w vs hrel (Con0RL.up e5)).mono ?_
 rintro e w' (⟨M', G, r, v, rfl, h1, h2, h3, h4, h5, h6⟩ | ⟨_, _, hP⟩)
 case inr => exact (noPan_elim hP).elim
 have hb : Below w.heap.size w w' := h1.bel
 rcases h6 with ⟨h6, h8⟩ | ⟨⟨h6, h7⟩, h8⟩
 ·exact .inl ⟨M, H, r, v, rfl, h.below hb, Kp.below h hb, Con0T.up (scalT_of h6 h3), fun _ _ => OldD.below hb, Nat.le_refl _, h8⟩
 refine .inl ⟨catM H.length w.heap.size M M', H ++ shH H.length G, _, v, rfl, ?_, fun x u c => (Kp.below h hb x u c).catL, ConR.catR h6 h3, fun _ _ => OldD.below hb, by simp, h8⟩
 exact (h.below hb).cat h.rlt (fun _ _ _ _ _ hr => h.lt hr) (fun b q hq => h.tau.lt hq) (by have := h.bel.size; exact this) h1 h7
def gcB (n : Nat) (K : RV → List Root → Bool) (r : RV) (H : List Root) : Bool :=
 decide (n ≤ H.length) && okI n (walkI n H 100000 (idsR r ++ idsH (H.take n)) []) && K (renR n (walkI n H 100000 (idsR r ++ idsH (H.take n)) []) r) (renH n (walkI n H 100000 (idsR r ++ idsH (H.take n)) []) H)
theorem callK_gc {pu : Pu} {f : FuncId} {args : List RV} {K : RV → List Root → Bool} (hp : callK P pu f args H (fun r H' => gcB H.length K r H' = true)) : callK P pu f args H (fun r H' => K r H' = true) := by
 refine ⟨hp.1, fun E M w vs h hc => (hp.2 E M w vs h hc).mono ?_⟩
 rintro e w' (⟨M', H', r, v, rfl, h1, h2, h3, h4, h5, h6⟩ | ⟨_, _, hP⟩)
 case inr => exact (noPan_elim hP).elim
 unfold gcB at h6
 simp only [Bool.and_eq_true, decide_eq_true_eq] at h6
 obtain ⟨⟨g1, g2⟩, g3⟩ := h6
 refine .inl ⟨_, _, _, v, rfl, h1.ren g1 g2, fun x u c => ?_, h3.ren g1, h4, by rw [renH_len g1]; omega, g3⟩
 have := (h2 x u c).ren (ids := walkI H.length H' 100000 (idsR r ++ idsH (H'.take H.length)) []) g1
 rw [ren_scp (scp_of c)] at this
 exact this
def gcX (n : Nat) (K : RV → List Root → Bool) (r : RV) (H : List Root) : Bool :=
 match Nat.ble H.length (n + 16) with
 | true => K r H
 | false => gcB n K r H
theorem callK_gcX {pu : Pu} {f : FuncId} {args : List RV} {K : RV → List Root → Bool} (hp : callK P pu f args H (fun r H' => gcX H.length K r H' = true)) : callK P pu f args H (fun r H' => K r H' = true) := by
 refine ⟨hp.1, fun E M w vs h hc => (hp.2 E M w vs h hc).mono ?_⟩
 rintro e w' (⟨M', H', r, v, rfl, h1, h2, h3, h4, h5, h6⟩ | ⟨_, _, hP⟩)
 case inr => exact (noPan_elim hP).elim
 unfold gcX at h6
 split at h6
 ·exact .inl ⟨_, _, _, v, rfl, h1, h2, h3, h4, h5, h6⟩
 ·unfold gcB at h6
  simp only [Bool.and_eq_true, decide_eq_true_eq] at h6
  obtain ⟨⟨g1, g2⟩, g3⟩ := h6
  refine .inl ⟨_, _, _, v, rfl, h1.ren g1 g2, fun x u c => ?_, h3.ren g1, h4, by rw [renH_len g1]; omega, g3⟩
  have := (h2 x u c).ren (ids := walkI H.length H' 100000 (idsR r ++ idsH (H'.take H.length)) []) g1
  rw [ren_scp (scp_of c)] at this
  exact this
theorem gcX_ex {K : RV → List Root → Bool} {r : RV} (h : gcX n K r H = true) : ∃ r H', K r H' = true := by
 unfold gcX at h
 split at h
 ·exact ⟨_, _, h⟩
 ·unfold gcB at h
  simp only [Bool.and_eq_true] at h
  exact ⟨_, _, h.2⟩
theorem le_con0L {rho : Nat → Prop} (k : Nat) : ∀ {l m : List AV} {vs : List Value}, leL k l m = true → Con0L rho w l vs → Con0L rho w m vs
 | [], [], _, _, c => c
 | _ :: _, _ :: _, _, h, ⟨v, r, e, c1, c2⟩ => by
  simp only [leL, Bool.and_eq_true] at h
  exact ⟨v, r, e, le_con0 k h.1 c1, le_con0L k h.2 c2⟩
 | [], _ :: _, _, h, _ => by cases h
 | _ :: _, [], _, h, _ => by cases h
theorem le_con0R {rho : Nat → Prop} (k : Nat) {x y : RV} {v : Value} (h : leR1 k x y = true) (c : Con0R rho w x v) : Con0R rho w y v := by
 unfold leR1 at h
 split at h
 ·trivial
 ·exact le_con0 k h c
 ·obtain ⟨vs, e, c⟩ := c; exact ⟨vs, e, le_con0L k h c⟩
 ·simp only [Bool.and_eq_true, decide_eq_true_eq] at h
  obtain ⟨rfl, h⟩ := h
  obtain ⟨vs, e, c⟩ := c; exact ⟨vs, e, le_con0L k h c⟩
 ·exact c.elim
 ·exact c.elim
 ·cases h
theorem le_con0RL {rho : Nat → Prop} (k : Nat) : ∀ {l m : List RV} {vs : List Value}, leRL k l m = true → Con0RL rho w l vs → Con0RL rho w m vs
 | [], [], _, _, c => c
 | _ :: _, _ :: _, _, h, ⟨v, r, e, c1, c2⟩ => by
  simp only [leRL, Bool.and_eq_true] at h
  exact ⟨v, r, e, le_con0R k h.1 c1, le_con0RL k h.2 c2⟩
 | [], _ :: _, _, h, _ => by cases h
 | _ :: _, [], _, h, _ => by cases h
structure Sum where
 f : FuncId
 args : List RV
 r : RV
 G : List Root
def SumOk (P : Program) (s : Sum) : Prop := callK P none s.f s.args [] (fun r G => r = s.r ∧ G = s.G)
theorem sum_of {s : Sum} (h : callK P none s.f s.args [] (fun r G => (leR 8 r s.r && leH 8 G s.G) = true)) : SumOk P s := by
 refine ⟨h.1, fun E M w vs hr hc => (h.2 E M w vs hr hc).mono ?_⟩
 rintro e w' (⟨M', H', r, v, rfl, h1, h2, h3, h4, h5, h6⟩ | ⟨_, _, hP⟩)
 case inr => exact (noPan_elim hP).elim
 simp only [Bool.and_eq_true] at h6
 exact .inl ⟨M', s.G, s.r, v, rfl, h1.le h6.2, h2.trans (Kp.le h6.2), le_conR (leH_shape h6.2) 8 h6.1 h3, h4, by rw [← (leH_shape h6.2).1]; exact h5, rfl, rfl⟩
def sumB (H : List Root) (d : Nat) (f : FuncId) (args : List RV) (s : Sum) : Bool := Nat.beq s.f f && args.all (deepOkR H d) && leRL 8 (deepRL H d args) s.args && plR s.r && s.G.all plRt
theorem callK_sum {pu : Pu} {f : FuncId} {args : List RV} {K : RV → List Root → Prop} {d : Nat} {s : Sum} (hs : SumOk P s) (h : sumB H d f args s = true) (hK : K (shR H.length s.r) (H ++ shH H.length s.G)) : callK P pu f args H K := by
 unfold sumB at h
 simp only [Bool.and_eq_true] at h
 obtain ⟨⟨⟨⟨h1, h2⟩, h3⟩, h4⟩, h5⟩ := h
 obtain rfl := Nat.eq_of_beq_eq_true h1
 refine ⟨hs.1, fun E M w vs hr hc => ?_⟩
 have e5 := le_con0RL 8 h3 (deepRL_ok hr d h2 hc)
 have hrho : ∀ b, lent M H b → b < w.heap.size := fun b hb => by
  rcases hb with hb | ⟨id, fz, t, sz, r, hr2, rfl⟩
  ·exact hr.rlt b hb
  ·exact hr.lt hr2
 have hgl : GlobIn (lent M H) w := hr.glob.mono fun _ => .inl
 have hrel : Rel ⟨w, lent M H, []⟩ ⟨fun _ => 0, fun _ => 0, lent M H, fun _ => none⟩ [] w := ⟨Below.refl _ _, fun _ _ _ _ _ h => (by cases h), fun _ _ _ _ _ h => (by cases h), fun _ _ _ _ h => (by cases h), fun _ _ _ _ h => (by cases h), fun _ _ _ _ _ _ _ _ h => (by cases h), hrho, ⟨fun b hb => .inl hb, hgl⟩, ⟨fun _ _ h => (by cases h), fun _ _ _ _ _ _ _ h => (by cases h), fun _ _ _ h => (by cases h)⟩⟩
 refine (hs.2 _ _ w vs hrel (Con0RL.up e5)).mono ?_
 rintro e w' (⟨M', G, r, v, rfl, g1, g2, g3, g4, g5, rfl, rfl⟩ | ⟨_, _, hP⟩)
 case inr => exact (noPan_elim hP).elim
 have hb : Below w.heap.size w w' := g1.bel
 refine .inl ⟨catM H.length w.heap.size M M', H ++ shH H.length s.G, _, v, rfl, ?_, fun x u c => (Kp.below hr hb x u c).catL, ConR.catR h4 g3, fun _ _ => OldD.below hb, by simp, hK⟩
 exact (hr.below hb).cat hr.rlt (fun _ _ _ _ _ h => hr.lt h) (fun b q hq => hr.tau.lt hq) (by have := hr.bel.size; exact this) g1 h5
theorem gcB_ex {K : RV → List Root → Bool} {r : RV} (h : gcB n K r H = true) : ∃ r H', K r H' = true := by
 unfold gcB at h
 simp only [Bool.and_eq_true] at h
 exact ⟨_, _, h.2⟩
end
noncomputable def roundsX (n0 nt : Nat) (body : (Exit → AS → Bool) → AS → Bool) : Nat → (Exit → AS → Bool) → AS → Bool
 | 0, _, _ => false
 | m + 1, Q, σ => body (thenB (fun σ' => match Nat.ble σ'.H.length (n0 + 16) with
   | true => roundsX n0 nt body m Q σ'
   | false => decide (n0 ≤ σ'.H.length) && okI n0 (canon n0 nt σ') && roundsX n0 nt body m Q (normS n0 nt σ')) Q) σ
section
variable (P : Program) (ty : Ty) (call : CallB)
noncomputable def listX (ops : Array Oper) : List Oper → (AS → Bool) → AS → Bool
 | [], K, σ => K σ
 | o :: l, K, σ => opX P ty call none ops σ o (listX ops l K)
noncomputable def codeX (ord : Nat → Bool × List Nat) (n nt : Nat) : Code → (Exit → AS → Bool) → AS → Bool
 | .skip, Q, σ => Q .normal σ
 | .region id ops dr, Q, σ => if dr then regB P ty call nt ops (ord id) (Q .normal) σ else listX P ty call ops ops.toList (Q .normal) σ
 | .seq a b, Q, σ => codeX ord n nt a (thenB (codeX ord n nt b Q) Q) σ
 | .cond c a b, Q, σ => match rdF σ c with
  | (true, .c (.bool t)) => if t then codeX ord n nt a Q σ else codeX ord n nt b Q σ
  | _ => false
 | .block id a, Q, σ => codeX ord n nt a (inBB id Q) σ
 | .exit id, Q, σ => Q (.exit id) σ
 | .ret, Q, σ => Q .ret σ
 | .loop c, Q, σ => roundsX σ.H.length nt (codeX ord n nt c) n Q σ
 | _, _, _ => false
end
def okX (nt : Nat) : Code → Bool
 | .region _ ops _ => dstOk nt ops
 | .seq a b => okX nt a && okX nt b
 | .cond _ a b => okX nt a && okX nt b
 | .block _ a => okX nt a
 | .loop a => okX nt a
 | _ => true
section
variable {P : Program} {ty : Ty} {call : CallB} {E : Env} {nt n : Nat} {M : Mp} {σ : AS} {a : Act} {w : World} {ops : Array Oper} {ord : Nat → Bool × List Nat}
theorem listX_ok (hT : TyOk P ty) (hcall : ∀ pu f args H K, call pu f args H K = true → callK P pu f args H (fun r H => K r H = true)) {K : AS → Bool} {Q : Exit → Act → World → Prop} : ∀ (l : List Oper) {M : Mp} {σ : AS} {a : Act} {w : World}, St E nt M σ a w → (∀ o ∈ l, ∀ t, o.dst = some t → t < nt) → listX P ty call ops l K σ = true →
  (∀ a' w', After E nt M σ a w (dstL l) (fun σ => K σ = true) a' w' → Q .normal a' w') → wpList P ops Q l a w
 | [], M, σ, a, w, h, _, hw, hQ => hQ a w ⟨M, σ, h, Stp.refl _ _ _ _ _, hw⟩
 | o :: l, M, σ, a, w, h, hd, hw, hQ => by
  have := opX_ok (Q := Q) (next := wpList P ops Q l) hT hcall h (hd o (List.mem_cons_self ..)) hw fun M' σ' a' w' q1 _ q3 q4 =>
   listX_ok hT hcall l q1 (fun o ho => hd o (List.mem_cons_of_mem _ ho)) q4 fun a2 w2 hA => hQ a2 w2 (by
    obtain ⟨M2, σ2, r1, r2, r3⟩ := hA
    exact ⟨M2, σ2, r1, q3.trans r2 (fun t ht => ⟨o, List.mem_cons_self .., ht⟩) (fun t ⟨o2, ho, ht⟩ => ⟨o2, List.mem_cons_of_mem _ ho, ht⟩), r3⟩)
  unfold wpList
  split
  ·rename_i hwt; rw [if_pos hwt] at this; exact .inl this
  ·rename_i hwt; rw [if_neg hwt] at this; exact this
theorem codeX_ok (hT : TyOk P ty) (hm : P.follows .mixedOrders = true) (hcall : ∀ pu f args H K, call pu f args H K = true → callK P pu f args H (fun r H => K r H = true)) (hx : CallEx call) : ∀ (c : Code), okX nt c = true → ∀ {K : Exit → AS → Bool} {M : Mp} {σ : AS} {a : Act} {w : World}, St E nt M σ a w → codeX P ty call ord n nt c K σ = true →
  c.wp P (fun e a' w' => (∀ ch, e ≠ .panic ch) ∧ After E nt M σ a w (asgP c) (fun σ => K e σ = true) a' w') a w
 | .skip, _, K, M, σ, a, w, h, hw => wp_skip ⟨fun _ e => (by cases e), M, σ, h, Stp.refl _ _ _ _ _, hw⟩
 | .exit id, _, K, M, σ, a, w, h, hw => wp_exit ⟨fun _ e => (by cases e), M, σ, h, Stp.refl _ _ _ _ _, hw⟩
 | .ret, _, K, M, σ, a, w, h, hw => wp_ret ⟨fun _ e => (by cases e), M, σ, h, Stp.refl _ _ _ _ _, hw⟩
 | .region id ops dr, hc, K, M, σ, a, w, h, hw => by
  have hc : dstOk nt ops = true := hc
  have hds : ∀ t, dstL ops.toList t → asgP (.region id ops dr) t := fun t ⟨o, ho, e⟩ => List.mem_filterMap.2 ⟨o, ho, e⟩
  cases dr with
  | true =>
   have hw : regB P ty call nt ops (ord id) (K .normal) σ = true := hw
   exact regB_ok hT hm hcall hx hc h hw (fun a' w' ⟨M2, σ2, r1, r2, r3⟩ => ⟨fun _ e => (by cases e), M2, σ2, r1, r2.mono hds, r3⟩) fun c a w hh => hh.1 c rfl
  | false =>
   have hw : listX P ty call ops ops.toList (K .normal) σ = true := hw
   exact wp_region_list (listX_ok hT hcall ops.toList h (dstOk_spec hc) hw fun a' w' ⟨M2, σ2, r1, r2, r3⟩ => ⟨fun _ e => (by cases e), M2, σ2, r1, r2.mono hds, r3⟩)
 | .seq x y, hc, K, M, σ, a, w, h, hw => by
  simp only [okX, Bool.and_eq_true] at hc
  refine wp_seq (wp_mono (codeX_ok hT hm hcall hx x hc.1 h (K := thenB (codeX P ty call ord n nt y K) K) hw) fun e a1 w1 ⟨hp, M1, σ1, q1, q2, q3⟩ => ?_)
  cases e with
  | normal =>
   refine wp_mono (codeX_ok hT hm hcall hx y hc.2 q1 q3) fun e a2 w2 ⟨hp2, M2, σ2, r1, r2, r3⟩ => ⟨hp2, M2, σ2, r1, q2.trans r2 (fun t ht => List.mem_append_left _ ht) (fun t ht => List.mem_append_right _ ht), r3⟩
  | panic ch => exact absurd rfl (hp ch)
  | exit id => exact ⟨hp, M1, σ1, q1, q2.mono fun t ht => List.mem_append_left _ ht, q3⟩
  | goto l => exact ⟨hp, M1, σ1, q1, q2.mono fun t ht => List.mem_append_left _ ht, q3⟩
  | ret => exact ⟨hp, M1, σ1, q1, q2.mono fun t ht => List.mem_append_left _ ht, q3⟩
  | outgrown => exact ⟨hp, M1, σ1, q1, q2.mono fun t ht => List.mem_append_left _ ht, q3⟩
 | .cond x y z, hc, K, M, σ, a, w, h, hw => by
  simp only [okX, Bool.and_eq_true] at hc
  unfold codeX at hw
  split at hw
  ·rename_i b hb
   rw [rdF_eq] at hb
   have hv := h.rd (x := x) (by rw [hb])
   rw [hb] at hv
   have hv' : a.eval x = .bool b := hv
   refine wp_cond hv' ?_
   cases b with
   | true => exact wp_mono (codeX_ok hT hm hcall hx y hc.1 h (by simpa using hw)) fun e a1 w1 ⟨hp, M1, σ1, q1, q2, q3⟩ => ⟨hp, M1, σ1, q1, q2.mono fun t ht => List.mem_append_left _ ht, q3⟩
   | false => exact wp_mono (codeX_ok hT hm hcall hx z hc.2 h (by simpa using hw)) fun e a1 w1 ⟨hp, M1, σ1, q1, q2, q3⟩ => ⟨hp, M1, σ1, q1, q2.mono fun t ht => List.mem_append_right _ ht, q3⟩
  ·cases hw
 | .block id x, hc, K, M, σ, a, w, h, hw => by
  refine wp_block (wp_mono (codeX_ok hT hm hcall hx x hc h (K := inBB id K) hw) fun e a1 w1 ⟨hp, M1, σ1, q1, q2, q3⟩ => ?_)
  cases e with
  | exit j =>
   simp only [Exit.inBlock]
   simp only [inBB] at q3
   split
   ·rename_i e; rw [if_pos e] at q3; exact ⟨fun _ e => (by cases e), M1, σ1, q1, q2, q3⟩
   ·rename_i e; rw [if_neg e] at q3; exact ⟨hp, M1, σ1, q1, q2, q3⟩
  | normal => exact ⟨hp, M1, σ1, q1, q2, q3⟩
  | panic ch => exact absurd rfl (hp ch)
  | goto l => exact ⟨hp, M1, σ1, q1, q2, q3⟩
  | ret => exact ⟨hp, M1, σ1, q1, q2, q3⟩
  | outgrown => exact ⟨hp, M1, σ1, q1, q2, q3⟩
 | .loop x, hc, K, M, σ, a, w, h, hw => by
  have hw : roundsX σ.H.length nt (codeX P ty call ord n nt x) n K σ = true := hw
  have hc : okX nt x = true := hc
  have go : ∀ (m : Nat) {M1 : Mp} {σ1 : AS} {a1 : Act} {w1 : World}, St E nt M1 σ1 a1 w1 → Stp M σ a w M1 σ1 a1 w1 (asgP x) → roundsX σ.H.length nt (codeX P ty call ord n nt x) m K σ1 = true → Code.rounds P x (fun e a' w' => (∀ ch, e ≠ .panic ch) ∧ After E nt M σ a w (asgP x) (fun σ => K e σ = true) a' w') m a1 w1 := by
   intro m
   induction m with
   | zero => intro M1 σ1 a1 w1 _ _ h; cases h
   | succ m ih =>
    intro M1 σ1 a1 w1 h1 hst hw
    rw [rounds_succ]
    refine wp_mono (codeX_ok hT hm hcall hx x hc h1 hw) fun e a2 w2 ⟨hp, M2, σ2, q1, q2, q3⟩ => ?_
    have q4 := hst.trans q2 (fun _ h => h) (fun _ h => h)
    cases e with
    | normal =>
     simp only [thenB] at q3
     split at q3
     ·exact ih q1 q4 q3
     simp only [Bool.and_eq_true, decide_eq_true_eq] at q3
     obtain ⟨⟨g1, g2⟩, g3⟩ := q3
     refine ih (q1.norm g1 g2) ⟨?_, q4.kp.norm q4.len, q4.tm⟩ g3
     show σ.H.length ≤ (renH σ.H.length (canon σ.H.length nt σ2) σ2.H).length
     rw [renH_len g1]; omega
    | panic ch => exact absurd rfl (hp ch)
    | exit id => exact ⟨hp, M2, σ2, q1, q4, q3⟩
    | goto l => exact ⟨hp, M2, σ2, q1, q4, q3⟩
    | ret => exact ⟨hp, M2, σ2, q1, q4, q3⟩
    | outgrown => exact ⟨hp, M2, σ2, q1, q4, q3⟩
  exact wp_loop_rounds _ (go n h (Stp.refl _ _ _ _ _) hw)
 | .label l, _, _, _, _, _, _, _, h => by cases h
 | .goto l, _, _, _, _, _, _, _, h => by cases h
 | .scope b, _, _, _, _, _, _, _, h => by cases h
 | .rangeFunc .., _, _, _, _, _, _, _, h => by cases h
 | .refuse y, _, _, _, _, _, _, _, h => by cases h
theorem listX_ex (hx : CallEx call) {K : AS → Bool} : ∀ (l : List Oper) {σ : AS}, listX P ty call ops l K σ = true → ∃ σ, K σ = true
 | [], _, h => ⟨_, h⟩
 | o :: l, _, h => by
  obtain ⟨σ', h⟩ := opX_ex hx h
  exact listX_ex hx l h
theorem expB_ex (hx : CallEx call) {fins : List Nat} {L : AS → Bool} : ∀ (m : Nat) {dy : Bool} {l : Array Bool} {σ : AS}, expB P ty call ops fins L m dy l σ = true → ∃ σ, L σ = true
 | 0, _, _, _, h => by
  simp only [expB, Bool.and_eq_true] at h
  exact ⟨_, h.2⟩
 | m + 1, dy, l, σ, h => by
  unfold expB at h
  split at h
  ·obtain ⟨σ', h⟩ := opB_ex hx ((opBF_eq _ _ _ _ _ _ _).symm.trans h)
   exact expB_ex hx m h
  split at h
  ·exact expB_ex hx m h
  split at h
  ·obtain ⟨σ', h⟩ := opB_ex hx ((opBF_eq _ _ _ _ _ _ _).symm.trans h)
   exact expB_ex hx m h
  ·simp only [Bool.and_eq_true, List.all_eq_true, Bool.not_eq_true'] at h
   obtain ⟨h1, h2⟩ := h
   cases hr : Region.ready .any ops l with
   | nil => rw [hr] at h1; cases h1
   | cons i r =>
    obtain ⟨σ', h⟩ := opX_ex hx (h2 i (by rw [hr]; exact List.mem_cons_self ..)).2
    exact expB_ex hx m h
theorem regB_ex (hx : CallEx call) {q : Bool × List Nat} {K : AS → Bool} (h : regB P ty call nt ops q K σ = true) : ∃ σ, K σ = true := by
 unfold regB at h
 simp only [Bool.and_eq_true] at h
 obtain ⟨-, h⟩ := h
 split at h
 ·obtain ⟨σf, h⟩ := firstB_ex hx _ h
  simp only [Bool.and_eq_true] at h
  exact ⟨_, h.2⟩
 ·exact expB_ex hx _ h
theorem codeX_ex (hx : CallEx call) : ∀ (c : Code) {K : Exit → AS → Bool} {σ : AS}, codeX P ty call ord n nt c K σ = true → ∃ e σ, K e σ = true
 | .skip, _, _, h => ⟨_, _, h⟩
 | .exit _, _, _, h => ⟨_, _, h⟩
 | .ret, _, _, h => ⟨_, _, h⟩
 | .region id ops dr, K, σ, h => by
  cases dr with
  | true =>
   obtain ⟨σ', h⟩ := regB_ex hx (show regB P ty call nt ops (ord id) (K .normal) σ = true from h)
   exact ⟨_, _, h⟩
  | false =>
   obtain ⟨σ', h⟩ := listX_ex hx _ (show listX P ty call ops ops.toList (K .normal) σ = true from h)
   exact ⟨_, _, h⟩
 | .seq x y, K, σ, h => by
  obtain ⟨e, σ', h⟩ := codeX_ex hx x (K := thenB (codeX P ty call ord n nt y K) K) h
  cases e with
  | normal => exact codeX_ex hx y h
  | _ => exact ⟨_, _, h⟩
 | .cond x y z, K, σ, h => by
  unfold codeX at h
  split at h
  ·split at h
   ·exact codeX_ex hx y h
   ·exact codeX_ex hx z h
  ·cases h
 | .block id x, K, σ, h => by
  obtain ⟨e, σ', h⟩ := codeX_ex hx x (K := inBB id K) h
  cases e with
  | exit j =>
   simp only [inBB] at h
   split at h <;> exact ⟨_, _, h⟩
  | _ => exact ⟨_, _, h⟩
 | .loop x, K, σ, h => by
  have go : ∀ (n0 m : Nat) {σ : AS}, roundsX n0 nt (codeX P ty call ord n nt x) m K σ = true → ∃ e σ, K e σ = true := by
   intro n0 m
   induction m with
   | zero => intro σ h; cases h
   | succ m ih =>
    intro σ h
    obtain ⟨e, σ', h⟩ := codeX_ex hx x h
    cases e with
    | normal =>
     simp only [thenB] at h
     split at h
     ·exact ih h
     ·simp only [Bool.and_eq_true] at h
      exact ih h.2
    | _ => exact ⟨_, _, h⟩
  exact go _ _ h
 | .label l, _, _, h => by cases h
 | .goto l, _, _, h => by cases h
 | .scope b, _, _, h => by cases h
 | .rangeFunc .., _, _, h => by cases h
 | .refuse y, _, _, h => by cases h
end
structure FnX where
 code : Code
 res : List ResultVar
 nt : Nat
 ord : Nat → Bool × List Nat
def FnOkX (P : Program) (f : FuncId) (t : FnX) : Prop := ∃ fn, P.funcs[f]? = some fn ∧ fn.body = some t.code ∧ (fn.name == "runtime.NumGoroutine") = false ∧ fn.ntmps = t.nt ∧ fn.results.toList = t.res ∧ okX t.nt t.code = true
def fnXB (P : Program) (f : FuncId) : Bool :=
 match P.funcs[f]? with
 | some fn => match fn.body with
  | some c => !(fn.name == "runtime.NumGoroutine") && okX fn.ntmps c
  | none => false
 | none => false
def tabX (P : Program) (ord : FuncId → Nat → Bool × List Nat) (fs : List FuncId) (f : FuncId) : Option FnX :=
 if fs.contains f then
  match P.funcs[f]? with
  | some fn => match fn.body with
   | some c => some ⟨c, fn.results.toList, fn.ntmps, ord f⟩
   | none => none
  | none => none
 else none
theorem tabX_ok {P : Program} {ord : FuncId → Nat → Bool × List Nat} {fs : List FuncId} (h : fs.all (fnXB P) = true) (f : FuncId) (t : FnX) (ht : tabX P ord fs f = some t) : FnOkX P f t := by
 unfold tabX at ht
 split at ht
 ·rename_i hm
  have hb := List.all_eq_true.1 h f (by simpa using hm)
  unfold fnXB at hb
  split at ht
  ·rename_i fn hf
   rw [hf] at hb
   simp only at hb
   split at ht
   ·rename_i c hc
    rw [hc] at hb
    simp only [Bool.and_eq_true, Bool.not_eq_true'] at hb
    cases ht
    exact ⟨fn, hf, hc, hb.1, rfl, rfl, hb.2⟩
   ·cases ht
  ·cases ht
 ·cases ht
noncomputable def callX (P : Program) (ty : Ty) (T : FuncId → Option FnX) (S : List Sum) (n d : Nat) : Nat → CallB
 | 0, _, _, _, _, _ => false
 | k + 1, pu, f, args, H, K => match S.find? (sumB H d f args) with
  | some s => K (shR H.length s.r) (H ++ shH H.length s.G)
  | none => match T f with
   | some t => decide (args.length ≤ t.nt) && (if pu.isNone then codeX P ty (callX P ty T S n d k) t.ord n t.nt t.code (retB ty t.res (gcX H.length K)) ⟨argT 0 args, H⟩
    else args.all (deepOkR H d) && codeX P ty (callX P ty T S n d k) t.ord n t.nt t.code (retB ty t.res (fun r G => match scalT r with
     | true => K r H
     | false => gcB 0 (fun r G => plR r && G.all plRt && K (shR H.length r) (H ++ shH H.length G)) r G)) ⟨argT 0 (deepRL H d args), []⟩)
   | none => false
section
variable {P : Program} {ty : Ty}
theorem callK_runX (hT : TyOk P ty) (hm : P.follows .mixedOrders = true) {call : CallB} (hcall : ∀ pu f args H K, call pu f args H K = true → callK P pu f args H (fun r H => K r H = true)) (hx : CallEx call) {f : FuncId} {t : FnX} (hf : FnOkX P f t) {n : Nat} {args : List RV} (hn : args.length ≤ t.nt) {H : List Root} {K : RV → List Root → Bool}
  (h : codeX P ty call t.ord n t.nt t.code (retB ty t.res K) ⟨argT 0 args, H⟩ = true) : callK P none f args H (fun r H => K r H = true) := by
 obtain ⟨fn, h1, h2, h3, h4, h5, h6⟩ := hf
 refine ⟨⟨fn, t.code, h1, h3, h2⟩, fun E M w vs hrel hc => calls_of_wp h1 h2 ?_⟩
 have hst := St.enter (hrel.env []) rfl hc (n := t.nt) hn
 rw [h4]
 refine wp_mono (codeX_ok hT hm hcall hx t.code h6 hst h) fun e a' w' ⟨hp, M', σ', q1, q2, q3⟩ => ?_
 have fin : (decide (resL ty σ' t.res).1 && K (one (resL ty σ' t.res).2) σ'.H) = true → a'.defers = [] ∧ ∃ v, (results fn a'.tmps).run P w' = .ok v w' ∧ ((∃ M' H' r v', Ending.returned v = .returned v' ∧ Rel E M' H' w' ∧ Kp M H w M' H' w' ∧ ConR M' H' w' r v' ∧ (∀ g, (none : Pu) = some g → OldD (g.map M.phi) w w') ∧ H.length ≤ H'.length ∧ K r H' = true) ∨ ∃ ch, Ending.returned v = .panicked ch ∧ PanS E M H w ch w') := by
  intro hr
  simp only [Bool.and_eq_true, decide_eq_true_eq] at hr
  obtain ⟨g1, g2⟩ := hr
  obtain ⟨v, k1, k2⟩ := results_ok hT q1 h5 g1
  exact ⟨q1.df, v, k2, .inl ⟨M', σ'.H, _, v, rfl, q1.rel.env2, q2.kp, k1, fun g e => (by cases e), q2.len, g2⟩⟩
 cases e with
 | normal => exact fin q3
 | ret => exact fin q3
 | panic ch => exact absurd rfl (hp ch)
 | exit id => cases q3
 | goto l => cases q3
 | outgrown => cases q3
theorem retB_ex {rs : List ResultVar} {K : RV → List Root → Bool} {e : Exit} {σ : AS} (h : retB ty rs K e σ = true) : ∃ r H, K r H = true := by
 cases e with
 | ret => simp only [retB, Bool.and_eq_true] at h; exact ⟨_, _, h.2⟩
 | normal => simp only [retB, Bool.and_eq_true] at h; exact ⟨_, _, h.2⟩
 | _ => cases h
theorem callX_ok (hT : TyOk P ty) (hm : P.follows .mixedOrders = true) {T : FuncId → Option FnX} {S : List Sum} {n d : Nat} (hF : ∀ f t, T f = some t → FnOkX P f t) (hS : ∀ s ∈ S, SumOk P s) : ∀ k : Nat, (∀ (pu : Pu) (f : FuncId) (args : List RV) (H : List Root) (K : RV → List Root → Bool), callX P ty T S n d k pu f args H K = true → callK P pu f args H (fun r H => K r H = true)) ∧ CallEx (callX P ty T S n d k)
 | 0 => ⟨fun _ _ _ _ _ h => (by cases h), fun _ _ _ _ _ h => (by cases h)⟩
 | k + 1 => by
  obtain ⟨ih1, ih2⟩ := callX_ok hT hm hF hS k
  refine ⟨fun pu f args H K h => ?_, fun pu f args H K h => ?_⟩
  ·simp only [callX] at h
   split at h
   ·rename_i s hs
    exact callK_sum (hS s (List.mem_of_find?_eq_some hs)) (List.find?_some hs) h
   split at h
   ·rename_i t ht
    simp only [Bool.and_eq_true, decide_eq_true_eq] at h
    obtain ⟨h7, h⟩ := h
    split at h
    ·rename_i hpu
     obtain rfl : pu = none := by cases pu <;> first | rfl | cases hpu
     exact callK_gcX (callK_runX hT hm ih1 ih2 (hF f t ht) h7 h)
    ·simp only [Bool.and_eq_true] at h
     obtain ⟨h8, h⟩ := h
     have hk := callK_runX hT hm ih1 ih2 (hF f t ht) (args := deepRL H d args) (by rw [deepRL_len]; exact h7) h
     refine callK_cat d h8 ⟨hk.1, fun E M w vs hr hc => (hk.2 E M w vs hr hc).mono ?_⟩
     rintro e w' (⟨M', G, r, v, rfl, g1, g2, g3, g4, g5, g6⟩ | ⟨_, _, hP⟩)
     case inr => exact (noPan_elim hP).elim
     split at g6
     ·rename_i hs
      exact .inl ⟨M', G, r, v, rfl, g1, g2, g3, g4, g5, .inl ⟨hs, g6⟩⟩
     ·unfold gcB at g6
      simp only [Bool.and_eq_true, decide_eq_true_eq] at g6
      obtain ⟨⟨q1, q2⟩, q3⟩ := g6
      refine .inl ⟨_, _, _, v, rfl, g1.ren q1 q2, fun x u c => ?_, g3.ren q1, g4, Nat.zero_le _, .inr q3⟩
      have := (g2 x u c).ren (ids := walkI 0 G 100000 (idsR r ++ idsH (G.take 0)) []) q1
      rw [ren_scp (n := 0) (scp_of c)] at this
      exact this
   ·cases h
  ·simp only [callX] at h
   split at h
   ·exact ⟨_, _, h⟩
   split at h
   ·rename_i t ht
    simp only [Bool.and_eq_true] at h
    obtain ⟨-, h⟩ := h
    split at h
    ·obtain ⟨e, σ, h⟩ := codeX_ex ih2 _ h
     obtain ⟨r, H', h⟩ := retB_ex h
     exact gcX_ex h
    ·simp only [Bool.and_eq_true] at h
     obtain ⟨e, σ, h⟩ := codeX_ex ih2 _ h.2
     obtain ⟨r, H', h⟩ := retB_ex h
     split at h
     ·exact ⟨_, _, h⟩
     ·obtain ⟨r, H', h⟩ := gcB_ex h
      simp only [Bool.and_eq_true] at h
      exact ⟨_, _, h.2⟩
   ·cases h
end
def hasM : List AV → Bool
 | [] => false
 | .nils :: _ => true
 | .nilp :: _ => true
 | _ :: l => hasM l
def ownT (ty : Ty) : Ty := fun t => ⟨(ty t).sz, (ty t).bytes, (ty t).k, (ty t).zero, if hasM (ty t).zero then some [] else none⟩
theorem ownT_ok {P : Program} {ty : Ty} (h : TyOk P ty) : TyOk P (ownT ty) := fun t => by
 refine ⟨?_, (h t).i⟩
 have hk := (h t).k
 show kOk P (ownT ty) t (ty t).k
 cases hh : (ty t).k <;> rw [hh] at hk <;> exact hk
def ordF : FuncId → Nat → Bool × List Nat
 | 14, n => match n with | 11 => (false, [13]) | _ => (false, [])
 | 20, n => match n with | 25 => (false, [11,13]) | _ => (false, [])
 | 29, n => match n with | 5 => (false, [5]) | _ => (false, [])
 | 31, n => match n with | 4 => (true, [7]) | 18 => (false, []) | 23 => (false, [17,19]) | _ => (false, [])
 | 33, n => match n with | 6 => (false, []) | _ => (false, [])
 | 35, n => match n with | 3 => (false, []) | 10 => (false, []) | 13 => (false, []) | 15 => (false, []) | _ => (false, [])
 | 37, n => match n with | 11 => (true, [13]) | 16 => (false, [16]) | _ => (false, [])
 | 38, n => match n with | 9 => (false, [13]) | _ => (false, [])
 | 43, n => match n with | 4 => (false, []) | _ => (false, [])
 | 57, n => match n with | 1 => (false, []) | _ => (false, [])
 | 71, n => match n with | 2 => (true, [13,15,18,21]) | _ => (false, [])
 | 74, n => match n with | 11 => (false, []) | 15 => (false, []) | _ => (false, [])
 | 77, n => match n with | 6 => (false, []) | _ => (false, [])
 | 79, n => match n with | 5 => (false, [7,9]) | 10 => (false, [9,11]) | _ => (false, [])
 | 85, n => match n with | 21 => (false, [15,17]) | _ => (false, [])
 | 86, n => match n with | 8 => (false, []) | 13 => (false, []) | _ => (false, [])
 | 87, n => match n with | 2 => (false, [9,11]) | _ => (false, [])
 | 88, n => match n with | 9 => (false, []) | 13 => (false, []) | 14 => (false, []) | _ => (false, [])
 | 90, n => match n with | 1 => (false, []) | _ => (false, [])
 | 96, n => match n with | 1 => (false, []) | _ => (false, [])
 | 106, n => match n with | 11 => (false, [14,16]) | 19 => (false, [11]) | _ => (false, [])
 | 107, n => match n with | 1 => (false, []) | _ => (false, [])
 | 108, n => match n with | 15 => (true, [2]) | _ => (false, [])
 | 116, n => match n with | 10 => (false, []) | 16 => (false, []) | _ => (false, [])
 | 146, n => match n with | 12 => (false, [16]) | 13 => (false, [14]) | 15 => (true, [10,12]) | 21 => (true, [1]) | 31 => (false, [15]) | 32 => (false, []) | 34 => (true, [3,17]) | 36 => (true, [8]) | _ => (false, [])
 | 147, n => match n with | 20 => (false, [17]) | _ => (false, [])
 | 148, n => match n with | 1 => (false, []) | _ => (false, [])
 | 153, n => match n with | 3 => (true, [11]) | 4 => (false, []) | _ => (false, [])
 | 154, n => match n with | 3 => (true, [12]) | 4 => (false, []) | _ => (false, [])
 | 162, n => match n with | 6 => (true, [8]) | 20 => (true, [11,13]) | _ => (false, [])
 | 163, n => match n with | 1 => (true, [10]) | 2 => (false, []) | 4 => (false, []) | _ => (false, [])
 | 172, n => match n with | 5 => (false, []) | 10 => (false, []) | _ => (false, [])
 | 173, n => match n with | 5 => (false, []) | 7 => (false, []) | 8 => (false, [19]) | 10 => (false, []) | _ => (false, [])
 | 174, n => match n with | 1 => (false, []) | 3 => (false, []) | 8 => (false, []) | 10 => (false, []) | 12 => (false, []) | _ => (false, [])
 | 183, n => match n with | 19 => (false, []) | _ => (false, [])
 | 184, n => match n with | 8 => (false, [9]) | _ => (false, [])
 | 193, n => match n with | 10 => (false, [18,20]) | _ => (false, [])
 | 199, n => match n with | 1 => (true, [6]) | 5 => (true, [7,9]) | _ => (false, [])
 | 201, n => match n with | 2 => (false, [6]) | _ => (false, [])
 | 209, n => match n with | 3 => (false, [13,15]) | _ => (false, [])
 | 215, n => match n with | 4 => (false, []) | 6 => (false, [15,17]) | _ => (false, [])
 | 216, n => match n with | 5 => (false, []) | 11 => (false, [15,17]) | 17 => (false, []) | 23 => (false, [15,17]) | 35 => (false, []) | _ => (false, [])
 | 238, n => match n with | 3 => (false, [21,23]) | _ => (false, [])
 | 271, n => match n with | 1 => (false, []) | 2 => (false, []) | 3 => (false, []) | _ => (false, [])
 | 272, n => match n with | 0 => (false, [13,15]) | _ => (false, [])
 | 274, n => match n with | 0 => (false, [7,9]) | _ => (false, [])
 | _, _ => (false, [])
def fnsF : List FuncId := [12, 14, 19, 20, 29, 30, 31, 33, 35, 37, 38, 43, 44, 52, 53, 54, 55, 56, 57, 70, 71, 72, 73, 74, 77, 79, 85, 86, 87, 88, 89, 90, 91, 92, 93, 94, 95, 96, 102, 103, 104, 105, 106, 107, 108, 112, 113, 114, 115, 116, 125, 126, 135, 136, 137, 145, 146, 147, 148, 149, 150, 151, 152, 153, 154, 155, 156, 157, 158, 159, 161, 162, 163, 169, 170, 171, 172, 173, 174, 179, 181, 182, 183, 184, 185, 186, 187, 188, 189, 190, 191, 192, 193, 194, 195, 196, 197, 198, 199, 200, 201, 202, 205, 206, 209, 210, 211, 212, 213, 214, 215, 216, 217, 218, 219, 228, 229, 230, 231, 238, 270, 271, 272, 273, 274]
def slL (sz : Nat) (l : List (List AV)) : AV := .sl l.length sz (fun i j => nth (l.getD i []) j)
def tyX : Ty := ownT ty
theorem tyX_ok : TyOk Tryz.prog tyX := ownT_ok ty_ok
theorem fns_ok : fnsF.all (fnXB Tryz.prog) = true := by decide +kernel
noncomputable def runX (S : List Sum) : CallB := callX Tryz.prog tyX (tabX Tryz.prog ordF fnsF) S 80 8 40
theorem runX_ok {S : List Sum} (hS : ∀ s ∈ S, SumOk Tryz.prog s) {pu : Pu} {f : FuncId} {args : List RV} {H : List Root} {K : RV → List Root → Bool} (h : runX S pu f args H K = true) : callK Tryz.prog pu f args H (fun r H => K r H = true) :=
 (callX_ok tyX_ok (by kernel_rfl) (tabX_ok fns_ok) hS 40).1 _ _ _ _ _ h
theorem sum_run {S : List Sum} (hS : ∀ s ∈ S, SumOk Tryz.prog s) (s : Sum) (h : runX S none s.f s.args [] (gcB 0 fun r G => leR 8 r s.r && leH 8 G s.G) = true) : SumOk Tryz.prog s := sum_of (callK_gc (H := []) (K := fun r G => leR 8 r s.r && leH 8 G s.G) (runX_ok hS h))
theorem no_sums : ∀ s ∈ ([] : List Sum), SumOk Tryz.prog s := fun _ h => by cases h
theorem sums_cons {s : Sum} {S : List Sum} (h : SumOk Tryz.prog s) (hS : ∀ s ∈ S, SumOk Tryz.prog s) : ∀ x ∈ s :: S, SumOk Tryz.prog x := fun x hx => by
 rcases List.mem_cons.1 hx with rfl | hx
 ·exact h
 ·exact hS x hx
def i6 (n : Int) : AV := .int .i64 n
def rowA (l : List Int) : AV := slL 1 (l.map fun n => [i6 n])
def matA (l : List (List Int)) : AV := slL 1 (l.map fun r => [rowA r])
def rfv0 : RV := .agg [i6 40, i6 1, i6 5, i6 1, i6 3, slL 2 [[i6 60, i6 2]], slL 4 [[i6 2, i6 5, i6 90, i6 1]], matA [[0, 0, 0], [0, 0, 0], [0, 0, 0]], matA [[0, 0, 0], [0, 0, 0], [0, 0, 0]]]
def rfv1 : RV := .agg [i6 2, slL 3 [[i6 0, i6 1, i6 0], [i6 1, i6 0, i6 0]]]
def rfv2 : RV := .agg [i6 3, slL 3 [[i6 1, i6 2, i6 0], [i6 2, i6 1, i6 1]]]
def rfv3 : RV := .agg [i6 3, slL 3 [[i6 2, i6 1, i6 0], [i6 1, i6 2, i6 1]]]
def rfv4 : RV := .agg [i6 40, i6 1, i6 5, i6 1, i6 3, slL 2 [[i6 60, i6 2]], slL 4 [[i6 2, i6 5, i6 90, i6 1]], matA [[0, 5, 0], [0, 0, 7], [0, 0, 0]], matA [[0, 0, 0], [0, 0, 0], [0, 0, 0]]]
def rfv5 : RV := .agg [slL 1 [[slL 2 [[i6 0, i6 2]]]], slL 2 [[i6 0, rowA [0]]]]
def rfc70x0 : Sum := ⟨70, [], .agg [i6 40, i6 1, i6 5, i6 1, i6 3, .h 0 0 1, .h 1 0 1, .h 2 0 3, .h 6 0 3], [.live false 87 2 (.gen [[i6 60, i6 2]]), .live false 167 4 (.gen [[i6 2, i6 5, i6 90, i6 1]]), .live false 78 1 (.own [[.h 3 0 3], [.h 4 0 3], [.h 5 0 3]]), .live false 2 1 (.ints .i64 [0, 0, 0]), .live false 2 1 (.ints .i64 [0, 0, 0]), .live false 2 1 (.ints .i64 [0, 0, 0]), .live false 78 1 (.own [[.h 7 0 3], [.h 8 0 3], [.h 9 0 3]]), .live false 2 1 (.ints .i64 [0, 0, 0]), .live false 2 1 (.ints .i64 [0, 0, 0]), .live false 2 1 (.ints .i64 [0, 0, 0])]⟩
def rfc43x1 : Sum := ⟨43, [rfv0], .c (i6 0), []⟩
def rfc187x2 : Sum := ⟨187, [rfv1], .c (i6 0), []⟩
def rfc196x3 : Sum := ⟨196, [rfv1, .c (i6 0)], .c (i6 0), []⟩
def rfc199x4 : Sum := ⟨199, [.c (i6 2), .c (i6 0)], .agg [.h 0 0 2, .h 1 0 2], [.live false 2 1 (.ints .i64 [0, 1152921504606846976]), .live false 3 1 (.ints .i64 [(-1), (-1)])]⟩
def rfc162x5 : Sum := ⟨162, [rfv1, .c (i6 0)], .tup [.agg [.h 0 0 2, .h 1 0 2], .c (i6 0)], [.live false 2 1 (.ints .i64 [0, 0]), .live false 3 1 (.ints .i64 [(-1), 0])]⟩
def rfc106x6 : Sum := ⟨106, [rfv0], .c (.h 0 0 1), [.live false 2 1 (.ints .i64 [2])]⟩
def rfc193x7 : Sum := ⟨193, [rfv0, .c (i6 0)], .agg [i6 3, .h 0 0 2], [.live false 260 3 (.gen [[i6 1, i6 2, i6 0], [i6 2, i6 1, i6 1]])]⟩
def rfc187x8 : Sum := ⟨187, [rfv2], .c (i6 0), []⟩
def rfc196x9 : Sum := ⟨196, [rfv2, .c (i6 1)], .c (i6 0), []⟩
def rfc199x10 : Sum := ⟨199, [.c (i6 3), .c (i6 1)], .agg [.h 0 0 3, .h 1 0 3], [.live false 2 1 (.ints .i64 [1152921504606846976, 0, 1152921504606846976]), .live false 3 1 (.ints .i64 [(-1), (-1), (-1)])]⟩
def rfc162x11 : Sum := ⟨162, [rfv2, .c (i6 1)], .tup [.agg [.h 0 0 3, .h 1 0 3], .c (i6 0)], [.live false 2 1 (.ints .i64 [1152921504606846976, 0, 0]), .live false 3 1 (.ints .i64 [(-1), (-1), 0])]⟩
def rfc153x12 : Sum := ⟨153, [rfv0, .c (i6 0)], .c (.h 0 2 1), [.live false 2 1 (.ints .i64 [1152921504606846976, 0, 0])]⟩
def rfc187x13 : Sum := ⟨187, [rfv3], .c (i6 0), []⟩
def rfc196x14 : Sum := ⟨196, [rfv3, .c (i6 1)], .c (i6 0), []⟩
def rfc162x15 : Sum := ⟨162, [rfv3, .c (i6 1)], .tup [.agg [.h 0 0 3, .h 1 0 3], .c (i6 0)], [.live false 2 1 (.ints .i64 [1152921504606846976, 0, 1]), .live false 3 1 (.ints .i64 [(-1), (-1), 1])]⟩
def rfc154x16 : Sum := ⟨154, [rfv0, .c (i6 0)], .c (.h 0 2 1), [.live false 2 1 (.ints .i64 [1152921504606846976, 0, 1])]⟩
def rfc88x17 : Sum := ⟨88, [rfv0], .c (.h 0 0 1), [.live false 191 1 (.ints .u64 [1])]⟩
def rfc35x18 : Sum := ⟨35, [rfv0, .c (rowA [2]), .agg [i6 0, rowA [0]]], .c (.bool true), []⟩
def rfc108x19 : Sum := ⟨108, [rfv0, .c (rowA [2]), .c (.nils), .c (i6 0), .c (i6 0)], .tup [.agg [i6 0, i6 0, i6 0], .c (.bool true)], []⟩
def rfc43x20 : Sum := ⟨43, [rfv4], .c (i6 0), []⟩
def rfc145x21 : Sum := ⟨145, [rfv4, rfv5], .c (i6 0), []⟩
def rfc86x22 : Sum := ⟨86, [rfv4, rfv5], .tup [.c (i6 12), .c (i6 0)], []⟩
def rfc145x23 : Sum := ⟨145, [rfv4, .agg [.nils, .nils]], .c (i6 8), []⟩
def rfc87x24 : Sum := ⟨87, [], .c (.bool true), []⟩
theorem rfc70x0_ok : SumOk Tryz.prog rfc70x0 := sum_run (S := []) no_sums rfc70x0 (by decide +kernel)
theorem rfc43x1_ok : SumOk Tryz.prog rfc43x1 := sum_run (S := []) no_sums rfc43x1 (by decide +kernel)
theorem rfc187x2_ok : SumOk Tryz.prog rfc187x2 := sum_run (S := []) no_sums rfc187x2 (by decide +kernel)
theorem rfc196x3_ok : SumOk Tryz.prog rfc196x3 := sum_run (S := [rfc187x2]) (sums_cons rfc187x2_ok no_sums) rfc196x3 (by decide +kernel)
theorem rfc199x4_ok : SumOk Tryz.prog rfc199x4 := sum_run (S := []) no_sums rfc199x4 (by decide +kernel)
theorem rfc162x5_ok : SumOk Tryz.prog rfc162x5 := sum_run (S := [rfc196x3, rfc199x4]) (sums_cons rfc196x3_ok (sums_cons rfc199x4_ok no_sums)) rfc162x5 (by decide +kernel)
theorem rfc106x6_ok : SumOk Tryz.prog rfc106x6 := sum_run (S := [rfc43x1, rfc162x5]) (sums_cons rfc43x1_ok (sums_cons rfc162x5_ok no_sums)) rfc106x6 (by decide +kernel)
theorem rfc193x7_ok : SumOk Tryz.prog rfc193x7 := sum_run (S := []) no_sums rfc193x7 (by decide +kernel)
theorem rfc187x8_ok : SumOk Tryz.prog rfc187x8 := sum_run (S := []) no_sums rfc187x8 (by decide +kernel)
theorem rfc196x9_ok : SumOk Tryz.prog rfc196x9 := sum_run (S := [rfc187x8]) (sums_cons rfc187x8_ok no_sums) rfc196x9 (by decide +kernel)
theorem rfc199x10_ok : SumOk Tryz.prog rfc199x10 := sum_run (S := []) no_sums rfc199x10 (by decide +kernel)
theorem rfc162x11_ok : SumOk Tryz.prog rfc162x11 := sum_run (S := [rfc196x9, rfc199x10]) (sums_cons rfc196x9_ok (sums_cons rfc199x10_ok no_sums)) rfc162x11 (by decide +kernel)
theorem rfc153x12_ok : SumOk Tryz.prog rfc153x12 := sum_run (S := [rfc43x1, rfc193x7, rfc162x11]) (sums_cons rfc43x1_ok (sums_cons rfc193x7_ok (sums_cons rfc162x11_ok no_sums))) rfc153x12 (by decide +kernel)
theorem rfc187x13_ok : SumOk Tryz.prog rfc187x13 := sum_run (S := []) no_sums rfc187x13 (by decide +kernel)
theorem rfc196x14_ok : SumOk Tryz.prog rfc196x14 := sum_run (S := [rfc187x13]) (sums_cons rfc187x13_ok no_sums) rfc196x14 (by decide +kernel)
theorem rfc162x15_ok : SumOk Tryz.prog rfc162x15 := sum_run (S := [rfc196x14, rfc199x10]) (sums_cons rfc196x14_ok (sums_cons rfc199x10_ok no_sums)) rfc162x15 (by decide +kernel)
theorem rfc154x16_ok : SumOk Tryz.prog rfc154x16 := sum_run (S := [rfc43x1, rfc193x7, rfc162x15]) (sums_cons rfc43x1_ok (sums_cons rfc193x7_ok (sums_cons rfc162x15_ok no_sums))) rfc154x16 (by decide +kernel)
theorem rfc88x17_ok : SumOk Tryz.prog rfc88x17 := sum_run (S := [rfc43x1, rfc106x6, rfc153x12, rfc154x16]) (sums_cons rfc43x1_ok (sums_cons rfc106x6_ok (sums_cons rfc153x12_ok (sums_cons rfc154x16_ok no_sums)))) rfc88x17 (by decide +kernel)
theorem rfc35x18_ok : SumOk Tryz.prog rfc35x18 := sum_run (S := [rfc43x1]) (sums_cons rfc43x1_ok no_sums) rfc35x18 (by decide +kernel)
theorem rfc108x19_ok : SumOk Tryz.prog rfc108x19 := sum_run (S := [rfc43x1, rfc35x18]) (sums_cons rfc43x1_ok (sums_cons rfc35x18_ok no_sums)) rfc108x19 (by decide +kernel)
theorem rfc43x20_ok : SumOk Tryz.prog rfc43x20 := sum_run (S := []) no_sums rfc43x20 (by decide +kernel)
theorem rfc145x21_ok : SumOk Tryz.prog rfc145x21 := sum_run (S := [rfc43x20]) (sums_cons rfc43x20_ok no_sums) rfc145x21 (by decide +kernel)
theorem rfc86x22_ok : SumOk Tryz.prog rfc86x22 := sum_run (S := [rfc145x21, rfc43x20]) (sums_cons rfc145x21_ok (sums_cons rfc43x20_ok no_sums)) rfc86x22 (by decide +kernel)
theorem rfc145x23_ok : SumOk Tryz.prog rfc145x23 := sum_run (S := [rfc43x20]) (sums_cons rfc43x20_ok no_sums) rfc145x23 (by decide +kernel)
theorem rfc87x24_ok : SumOk Tryz.prog rfc87x24 := sum_run (S := [rfc70x0, rfc86x22, rfc145x21, rfc145x23]) (sums_cons rfc70x0_ok (sums_cons rfc86x22_ok (sums_cons rfc145x21_ok (sums_cons rfc145x23_ok no_sums)))) rfc87x24 (by decide +kernel)
theorem pcall_true {P : Program} {f : FuncId} (h : callK P none f [] [] (fun r _ => r = .c (.bool true))) : PCall P f [] (fun r => r = .c (.bool true)) := by
 refine ⟨h.1, fun rho w vs hgl hrho hc => ?_⟩
 cases hc
 have hrel : Rel ⟨w, rho, []⟩ ⟨fun _ => 0, fun _ => 0, rho, fun _ => none⟩ [] w := ⟨Below.refl _ _, fun _ _ _ _ _ h => (by cases h), fun _ _ _ _ _ h => (by cases h), fun _ _ _ _ h => (by cases h), fun _ _ _ _ h => (by cases h), fun _ _ _ _ _ _ _ _ h => (by cases h), hrho, ⟨fun b hb => .inl hb, hgl⟩, ⟨fun _ _ h => (by cases h), fun _ _ _ _ _ _ _ h => (by cases h), fun _ _ _ h => (by cases h)⟩⟩
 refine (h.2 _ _ w [] hrel rfl).mono ?_
 rintro e w' (⟨M', H', r, v, rfl, h1, h2, h3, h4, h5, rfl⟩ | ⟨_, _, hP⟩)
 case inr => exact (noPan_elim hP).elim
 exact ⟨_, v, rho, rfl, rfl, h3, fun b hb => .inl hb, h1.bel⟩
theorem awake21_p : PCall Tryz.prog 30 [] (fun r => r = .c (.bool true)) :=
 pcall_true (callK_mono (fun r G h => by
  simp only [Bool.and_eq_true] at h
  split at h
  ·rfl
  ·cases h.1) (runX_ok (S := [rfc70x0, rfc43x1, rfc88x17, rfc106x6, rfc108x19, rfc87x24]) (sums_cons rfc70x0_ok (sums_cons rfc43x1_ok (sums_cons rfc88x17_ok (sums_cons rfc106x6_ok (sums_cons rfc108x19_ok (sums_cons rfc87x24_ok no_sums)))))) (f := 30) (args := []) (H := []) (K := fun r _ => (match r with | .c (.bool true) => true | _ => false) && true) (by decide +kernel)))
theorem mem_getD {α : Type} {l : List α} {k : Nat} (h : k < l.length) (z : α) : l.getD k z ∈ l := by
 rw [getD_of h]; exact List.getElem_mem h
structure FtS where
 now : Int
 node : Int
 left : Int
def ftAt (x : InstD) (s : FtS) (c : Int) : Int := max (s.now + timeAt x s.node (1 + x.sats.length + c)) (custD x c).opn
def ftGood (x : InstD) (s : FtS) (c : Int) : Bool := decide (ftAt x s c ≤ (custD x c).cls) && decide (0 ≤ s.left - (custD x c).load)
def ftStep (x : InstD) (s : FtS) (c : Int) : FtS := ⟨ftAt x s c + (custD x c).stay, 1 + x.sats.length + c, s.left - (custD x c).load⟩
def ftUp (x : InstD) (b : BikeD) (out : Int) : Nat → Option FtS
 | 0 => some ⟨out, 1 + b.sat, x.broom⟩
 | j + 1 => (ftUp x b out j).bind fun s => if ftGood x s (b.stops.getD j 0) = true then some (ftStep x s (b.stops.getD j 0)) else none
def ftEnd (x : InstD) (b : BikeD) (out : Int) : Bool := match ftUp x b out b.stops.length with
 | none => false
 | some s => decide (s.now + timeAt x s.node (1 + b.sat) ≤ x.fin)
def custB (x : InstD) (c : Int) : Bool := decide (0 ≤ c) && decide (c < x.custs.length)
def custsB (x : InstD) (b : BikeD) : Nat → Bool
 | 0 => true
 | j + 1 => custsB x b j && custB x (b.stops.getD j 0)
def outOf (rd : List Int) (b : BikeD) : Int := rd.getD b.sat.toNat 0
def ftThere (x : InstD) (rd : List Int) (b : BikeD) : Bool := decide (0 ≤ b.sat) && (decide (b.sat < x.sats.length) && (decide (b.sat < rd.length) && (decide (0 ≤ outOf rd b) && decide (outOf rd b ≤ 1099511627776))))
def fitsP (x : InstD) (rd : List Int) (b : BikeD) : Bool := ftThere x rd b && (custsB x b b.stops.length && ftEnd x b (outOf rd b))
theorem ftUp_none {x : InstD} {b : BikeD} {out : Int} (k : Nat) (h : ftUp x b out k = none) : ∀ n, k ≤ n → ftUp x b out n = none := by
 intro n hn
 obtain ⟨m, rfl⟩ : ∃ m, n = k + m := ⟨n - k, by omega⟩
 clear hn
 induction m with
 | zero => exact h
 | succ m ih => rw [← Nat.add_assoc]; simp only [ftUp, ih, Option.bind_none]
theorem custsB_false {x : InstD} {b : BikeD} (k : Nat) (h : custsB x b k = false) : ∀ n, k ≤ n → custsB x b n = false := by
 intro n hn
 obtain ⟨m, rfl⟩ : ∃ m, n = k + m := ⟨n - k, by omega⟩
 clear hn
 induction m with
 | zero => exact h
 | succ m ih => rw [← Nat.add_assoc]; simp only [custsB, ih, Bool.false_and]
theorem cust_bd2 {x : InstD} (g : Good x) {c : Int} (h : CustOk x c) : (0 ≤ (custD x c).opn ∧ (custD x c).opn ≤ 1000000000) ∧ (0 ≤ (custD x c).stay ∧ (custD x c).stay ≤ 1000000000) ∧ (0 ≤ (custD x c).load ∧ (custD x c).load ≤ 1000000000) ∧ (custD x c).cls ≤ 1000000000 := by
 unfold CustOk at h
 have := g.cust (custD x c) (mem_getD (by omega) _)
 omega
theorem custOk_of {x : InstD} {c : Int} (h : custB x c = true) : CustOk x c := by
 unfold custB at h
 simp only [Bool.and_eq_true, decide_eq_true_eq] at h
 exact h
theorem ftUp_bd {x : InstD} (g : Good x) {b : BikeD} {out : Int} (hs : 0 ≤ b.sat ∧ b.sat < x.sats.length) (ho : 0 ≤ out ∧ out ≤ 1099511627776) : ∀ j, j ≤ b.stops.length → custsB x b j = true → ∀ {st}, ftUp x b out j = some st → (0 ≤ st.node ∧ st.node < (nodes x : Int)) ∧ (0 ≤ st.now ∧ st.now ≤ 1099511627776) ∧ (0 ≤ st.left ∧ st.left ≤ x.broom)
 | 0, _, _, st, h => by
  cases h
  have := g.broom
  exact ⟨by show 0 ≤ 1 + b.sat ∧ 1 + b.sat < (nodes x : Int); unfold nodes; omega, ho, by show 0 ≤ x.broom ∧ x.broom ≤ x.broom; omega⟩
 | j + 1, hj, hc, st, h => by
  simp only [custsB, Bool.and_eq_true] at hc
  simp only [ftUp] at h
  cases hq : ftUp x b out j with
  | none => rw [hq] at h; cases h
  | some s0 =>
   rw [hq] at h
   simp only [Option.bind_some] at h
   split at h
   ·rename_i hg
    cases h
    have hco := custOk_of hc.2
    have hb := cust_bd2 g hco
    obtain ⟨h1, h2, h3⟩ := ftUp_bd g hs ho j (by omega) hc.1 hq
    have htm := timeAt_bd g s0.node (1 + x.sats.length + b.stops.getD j 0)
    simp only [ftGood, Bool.and_eq_true, decide_eq_true_eq] at hg
    have h4 : s0.now + timeAt x s0.node (1 + x.sats.length + b.stops.getD j 0) ≤ ftAt x s0 (b.stops.getD j 0) := Int.le_max_left _ _
    unfold CustOk at hco
    refine ⟨by show 0 ≤ 1 + x.sats.length + b.stops.getD j 0 ∧ 1 + x.sats.length + b.stops.getD j 0 < (nodes x : Int); unfold nodes; omega, ?_, ?_⟩
    ·show 0 ≤ ftAt x s0 (b.stops.getD j 0) + (custD x (b.stops.getD j 0)).stay ∧ ftAt x s0 (b.stops.getD j 0) + (custD x (b.stops.getD j 0)).stay ≤ 1099511627776
     omega
    ·show 0 ≤ s0.left - (custD x (b.stops.getD j 0)).load ∧ s0.left - (custD x (b.stops.getD j 0)).load ≤ x.broom
     omega
   ·cases h
end Go.Proofs.YtabadfkikdefeaaGreat.Ab
