/- Texts of the proof, joined: A6, A7, AR, A8, A9, A10, Ty. -/
import Derived.Test.YtbfbjghfcajddaaGreatDoorProg
import Derived.Test.YtbfbjghfcajddaaGreatDoorR2
set_option linter.all false
set_option maxRecDepth 100000
set_option maxHeartbeats 6400000
namespace Go.Proofs.YtbfbjghfcajddaaGreatDoor.Ab
open Go.RowKit
section
variable {P : Program} {ty : Ty} {E : Env} {nt : Nat} {M M' : Mp} {H H' : List Root} {σ : AS} {a : Act} {w w' : World}
theorem OldD.below {g : Option Nat} (h : Below w.heap.size w w') : OldD g w w' := ⟨h.size, fun b hb _ => h.block b hb⟩
theorem lk_put (tm : Tm) (g : Bool) (d t : Nat) (v : RV) : lk (putT tm g (some d) v) t = if d = t then (g, v) else lk tm t := rfl
theorem getD_put (a : Act) (d t : Nat) (v : Value) (hd : d < a.tmps.size) : (a.put (some d) v).tmps.getD t undef = if d = t then v else a.tmps.getD t undef := by
 simp only [Act.put, Array.getD_eq_getD_getElem?, Array.getElem?_setIfInBounds]
 by_cases e : d = t
 ·subst e; simp [hd]
 ·simp [e]
theorem St.put (h : St E nt M σ a w) (hr : Rel E M' H' w') (hk : Kp M σ.H w M' H' w') {d : Option Nat} (hd : ∀ t, d = some t → t < nt) {r : RV} {v : Value} (hv : ConR M' H' w' r v) : St E nt M' ⟨putT σ.tm true d r, H'⟩ (a.put d v) w' := by
 cases d with
 | none => exact ⟨hr, fun t ht => hk.R (h.tms t ht), h.off, h.sz, h.df⟩
 | some d =>
  have hd' : d < a.tmps.size := by rw [h.sz]; exact hd d rfl
  refine ⟨hr, fun t ht => ?_, fun t ht => ?_, by simp [Act.put, h.sz], h.df⟩
  ·show ConR M' H' w' (lk (putT σ.tm true (some d) r) t).2 _
   have ht' : (lk (putT σ.tm true (some d) r) t).1 = true := ht
   rw [getD_put _ _ _ _ hd', lk_put] at *
   by_cases e : d = t
   ·rw [if_pos e, if_pos e]; exact hv
   ·rw [if_neg e] at ht' ⊢
    rw [if_neg e]
    exact hk.R (h.tms t ht')
  ·have ht' : (lk (putT σ.tm true (some d) r) t).1 = false := ht
   rw [lk_put] at ht'
   rw [getD_put _ _ _ _ hd']
   by_cases e : d = t
   ·rw [if_pos e] at ht'; cases ht'
   ·rw [if_neg e] at ht' ⊢
    exact h.off t ht'
theorem St.putV (h : St E nt M σ a w) {d : Option Nat} (hd : ∀ t, d = some t → t < nt) {g : Bool} {r : RV} {v : Value} (hv : g = true → ConR M σ.H w r v) (hn : g = false → v = undef) : St E nt M ⟨putT σ.tm g d r, σ.H⟩ (a.put d v) w := by
 cases g with
 | true => exact h.put h.rel (Kp.refl _ _ _) hd (hv rfl)
 | false =>
  obtain rfl := hn rfl
  cases d with
  | none => exact ⟨h.rel, h.tms, h.off, h.sz, h.df⟩
  | some d =>
   have hd' : d < a.tmps.size := by rw [h.sz]; exact hd d rfl
   refine ⟨h.rel, fun t ht => ?_, fun t ht => ?_, by simp [Act.put, h.sz], h.df⟩
   ·have ht' : (lk (putT σ.tm false (some d) r) t).1 = true := ht
    show ConR M σ.H w (lk (putT σ.tm false (some d) r) t).2 _
    rw [getD_put _ _ _ _ hd', lk_put] at *
    by_cases e : d = t
    ·rw [if_pos e] at ht'; cases ht'
    ·rw [if_neg e] at ht' ⊢
     rw [if_neg e]
     exact h.tms t ht'
   ·have ht' : (lk (putT σ.tm false (some d) r) t).1 = false := ht
    rw [lk_put] at ht'
    rw [getD_put _ _ _ _ hd']
    by_cases e : d = t
    ·rw [if_pos e]
    ·rw [if_neg e] at ht' ⊢
     exact h.off t ht'
theorem nthO_eq : ∀ (l : List Oper) (j : Nat), nthO l j = l[j]?
 | [], _ => rfl
 | _ :: _, 0 => rfl
 | _ :: l, j + 1 => by simp only [nthO, List.getElem?_cons_succ]; exact nthO_eq l j
theorem guard_ok (h : St E nt M σ a w) {ops : Array Oper} {gd : Option (Nat × Bool)} {g : Bool} (hg : guardOf σ.tm ops gd = some g) {o : Oper} (ho : o.guard = gd) : Region.wanted o (yielded ops a.tmps) = g := by
 unfold Region.wanted
 rw [ho]
 unfold guardOf at hg
 split at hg
 ·cases hg; rfl
 ·rename_i j want
  split at hg
  ·rename_i o2 ho2
   rw [nthO_eq, Array.getElem?_toList] at ho2
   split at hg
   ·rename_i d hd
    split at hg
    ·rename_i g2 b hlk
     simp only [Option.some.injEq] at hg
     subst hg
     cases g2 with
     | true =>
      have hc := h.tms d (by rw [hlk])
      rw [hlk] at hc
      have hv : a.tmps.getD d undef = .bool b := hc
      have hq : a.tmps[d]? = some (.bool b) := by
       rw [Array.getD_eq_getD_getElem?] at hv
       cases hh : a.tmps[d]? with
       | none => rw [hh] at hv; simp [undef] at hv
       | some u => rw [hh] at hv; simpa using hv
      simp only [yielded, ho2, Option.bind_some, hd, hq]
      cases b <;> cases want <;> rfl
     | false =>
      have hv := h.off d (by rw [hlk])
      have : yielded ops a.tmps j = none := by
       simp only [yielded, ho2, Option.bind_some, hd]
       rw [Array.getD_eq_getD_getElem?] at hv
       cases hh : a.tmps[d]? with
       | none => rfl
       | some u =>
             rw [hh] at hv; have hv' : u = undef := by simpa using hv
             subst hv'; rfl
      simp [this]
    ·cases hg
   ·cases hg
  ·cases hg
theorem val_ok (hT : TyOk P ty) (h : St E nt M σ a w) {ops : Array Oper} {o : Oper} (hv : isV o.op = true) (hd : ∀ t, o.dst = some t → t < nt) {K : AS → Prop} {dd : Option Nat} (hw : awpV ty (guardOf σ.tm ops o.guard) dd σ o K) :
  ∃ σ' v, K σ' ∧ σ'.H = σ.H ∧ St E nt M σ' (a.put o.dst v) w ∧ (Region.wanted o (yielded ops a.tmps) = true → ∀ w', Same M σ.H w w' → (execOp a.eval o).run P w' = .ok (.value v) w') ∧ (Region.wanted o (yielded ops a.tmps) = false → v = undef) := by
 unfold awpV at hw
 split at hw
 ·exact hw.elim
 ·rename_i g hg
  obtain ⟨h1, -, h2, h3⟩ := hw
  have hwt := guard_ok h hg rfl
  rw [hwt]
  cases g with
  | true =>
   obtain ⟨v, v1, v2⟩ := opV_ok hT h hv rfl h1 (h2 rfl)
   exact ⟨_, v, h3, rfl, h.putV hd (fun _ => v1) (fun e => by cases e), fun _ => v2, (fun e => by cases e)⟩
  | false => exact ⟨_, undef, h3, rfl, h.putV hd (fun e => by cases e) (fun _ => rfl), (fun e => by cases e), fun _ => rfl⟩
theorem Same.refl : Same M H w w := fun _ _ => rfl
structure Stp (M : Mp) (σ : AS) (a : Act) (w : World) (M' : Mp) (σ' : AS) (a' : Act) (w' : World) (ds : Nat → Prop) : Prop where
 len : σ.H.length ≤ σ'.H.length
 kp : Kp M σ.H w M' σ'.H w'
 tm : ∀ t, ¬ ds t → a'.tmps.getD t undef = a.tmps.getD t undef
theorem put_tm (a : Act) (d : Option Nat) (v : Value) (t : Nat) (h : ¬ d = some t) : (a.put d v).tmps.getD t undef = a.tmps.getD t undef := by
 cases d with
 | none => rfl
 | some d =>
  have hne : ¬ d = t := fun e => h (by rw [e])
  simp only [Act.put, Array.getD_eq_getD_getElem?, Array.getElem?_setIfInBounds, if_neg hne]
theorem conRL_app : ∀ {l : List RV} {vs : List Value} {m : List RV} {us : List Value}, ConRL M H w l vs → ConRL M H w m us → ConRL M H w (l ++ m) (vs ++ us)
 | [], _, _, _, h, k => by cases h; exact k
 | x :: l, _, _, _, ⟨v, r, e, h1, h2⟩, k => by subst e; exact ⟨v, r ++ _, rfl, h1, conRL_app h2 k⟩
theorem conRL_map : ∀ {l : List AV} {vs : List Value}, ConL M H w l vs → ConRL M H w (l.map .c) vs
 | [], _, h => h
 | _ :: _, _, ⟨v, r, e, h1, h2⟩ => ⟨v, r, e, h1, conRL_map h2⟩
theorem rds_ok (h : St E nt M σ a w) : ∀ (l : List Operand), gOk true (rgs σ.rd l) → ConRL M σ.H w (rds σ.rd l) (l.map a.eval)
 | [], _ => rfl
 | x :: l, hg => ⟨_, _, rfl, h.rd (hg.1 rfl), rds_ok h l hg.2⟩
theorem run_lift {x : Sem Value} {v : Value} {w w' : World} (h : x.run P w = .ok v w') : ((do pure (Next.value (← x))) : Sem Next).run P w = .ok (.value v) w' := by
 rw [Sem.run_bind, h]; rfl
theorem run_liftU {x : Sem Unit} {w w' : World} (h : x.run P w = .ok () w') : ((do x; pure Next.skip) : Sem Next).run P w = .ok .skip w' := by
 rw [Sem.run_bind, h]; rfl
theorem oneL_box : ∀ {l : List AV} {vs : List Value}, njL l = true → ConL M H w l vs → ∀ v ∈ vs, v.oneCell' = true
 | [], _, _, h, v, hv => by cases h; cases hv
 | x :: l, _, hn, ⟨u, r, e, h1, h2⟩, v, hv => by
  subst e
  simp only [njL, Bool.and_eq_true] at hn
  rcases List.mem_cons.1 hv with rfl | hv
  ·exact (Con.one (σ := ⟨[], H⟩) hn.1 h1).1
  ·exact oneL_box hn.2 h2 v hv
theorem litO_ok (h : Rel E M H w) {l : List AV} {vs : Array Value} {n sz : Nat} (e : TypeId) (hc : ConL M H w l vs.toList) (hnj : njL l = true) (h0 : 0 < sz) (hn : n * sz = l.length) (hmax : n ≤ maxLen) :
  ∃ M', Rel E M' (H ++ [.live false e sz (.own (chunk sz n l))]) (w.alloc (.cells vs e)) ∧ Kp M H w M' (H ++ [.live false e sz (.own (chunk sz n l))]) (w.alloc (.cells vs e)) ∧
   Con M' (H ++ [.live false e sz (.own (chunk sz n l))]) (w.alloc (.cells vs e)) (.h H.length 0 n) (.slice (some ⟨w.heap.size, 0, none⟩) n n) := by
 have hlen := hc.len
 have hg : w.grownBy (w.alloc (.cells vs e)) none := ⟨rfl, rfl, rfl, by simp, fun k hk _ => Below.heap_alloc _ _ _ hk⟩
 have hsz : n * sz = vs.size := by simp at hlen; omega
 have hl : (Row.own (chunk sz n l)).len = n := chunk_len _ _ _
 obtain ⟨r1, r2⟩ := newRow_ok (r := .own (chunk sz n l)) h hg (heap_push w _) rfl h0 hsz (by omega) (fun i hi o ho => by
  have hi' : i < n := by omega
  have hlt : i * sz + o < l.length := by
   rw [← hn]
   have : (i + 1) * sz ≤ n * sz := Nat.mul_le_mul_right _ hi'
   rw [Nat.add_mul] at this
   omega
  have hlt2 : i * sz + o < vs.size := by omega
  have hcon := hc.get (i * sz + o) vs[i * sz + o] (by simp [hlt2])
  refine ⟨vs[i * sz + o], by simp [hlt2], oneL_box hnj hc _ (by simp), ?_⟩
  show Con M H w (nth ((chunk sz n l).getD i []) o) _
  rw [chunk_get _ _ _ _ _ hi' ho]; exact hcon)
 refine ⟨_, r1, r2, ?_⟩
 exact con_newH (M := M) (H := H) (w := w) (w' := w.alloc (.cells vs e)) (t := e) (sz := sz) (n := n) (cap := n) (r := .own (chunk sz n l)) (cur := vs) hl.symm (Nat.le_refl _) hmax (heap_push w _) hsz
theorem Enters.run {f : FuncId} (h : Enters P f) (args : Array Value) (w : World) : (callFunc f args).run P w = .ok (.enter f args) w := by
 obtain ⟨fn, c, h1, h2, h3⟩ := h
 have h4 : fn.name ≠ "runtime.NumGoroutine" := by simpa using h2
 simp [callFunc, h1, h4, h3]
theorem frz_njL : ∀ {l : List AV}, frzOk H l → ∀ {vs : List Value} {rho : Nat → Prop}, Con0L rho w (frzL H l) vs → ∀ v ∈ vs, v.oneCell' = true := by
 intro l hf vs rho hc v hv
 obtain ⟨j, hj, rfl⟩ := List.getElem_of_mem hv
 have hl := hc.len
 rw [frzL_len] at hl
 exact (hc.get j _ (List.getElem?_eq_getElem hj)).one (frzOk_nj hf j (by omega))
theorem frz_cells {x : RV} {v : Value} (hf : frzOk H (cellsR x)) (h0 : (cellsR x).length ≠ 0) (h : ConR M H w x v) : ConL M H w (cellsR x) v.cells.toList := by
 refine cellsR_ok (σ := ⟨[], H⟩) ?_ h0 h
 have : ∀ l : List AV, frzOk H l → njL l = true := by
  intro l
  induction l with
  | nil => intro _; rfl
  | cons b l ih =>
   intro hh
   cases b with
   | h => simp only [njL, AV.nj, Bool.true_and]; exact ih hh.2
   | ptr => exact hh.elim
   | junk => exact hh.elim
   | ws => exact hh.elim
   | wu => exact hh.elim
   | wp => exact hh.elim
   | int => simp only [njL, AV.nj, Bool.true_and]; exact ih hh
   | bool => simp only [njL, AV.nj, Bool.true_and]; exact ih hh
   | flt => simp only [njL, AV.nj, Bool.true_and]; exact ih hh
   | str => simp only [njL, AV.nj, Bool.true_and]; exact ih hh
   | nilp => simp only [njL, AV.nj, Bool.true_and]; exact ih hh
   | nils => simp only [njL, AV.nj, Bool.true_and]; exact ih hh
   | sl => simp only [njL, AV.nj, Bool.true_and]; exact ih hh
   | rp => simp only [njL, AV.nj, Bool.true_and]; exact ih hh
 exact this _ hf
theorem eff_ok (hT : TyOk P ty) (h : St E nt M σ a w) {pu : Pu} {o : Oper} (hd : ∀ t, o.dst = some t → t < nt) (hgs : gOk true (opGs σ.rd o.op)) {K : AS → Prop} (he : eff P ty pu σ.tm σ.rd σ.H o K) {next : Act → World → Prop} {Q : Exit → Act → World → Prop}
  (hn : ∀ M' σ' a' w', St E nt M' σ' a' w' → (∀ g, pu = some g → OldD (g.map M.phi) w w') → Stp M σ a w M' σ' a' w' (fun t => o.dst = some t) → K σ' → next a' w') : o.wp P a w next Q := by
 obtain ⟨dst, op, type, pos, after, guard⟩ := o
 unfold eff at he
 simp only at he hd
 have hz : ∀ {t : TypeId}, 0 < (ty t).sz → (match (ty t).k with | .no => False | _ => True) → (sizeOf t).run P w = .ok (ty t).sz w := fun _ hk => info_sz hT hk w
 cases op <;> simp only at he <;> try exact he.elim
 case alloc t =>
  obtain ⟨⟨h0, hk⟩, he⟩ := he
  obtain ⟨i, z, hi, hzz, hs, -, hzs, hzl, hzc⟩ := zero_con (M := M) (σ := σ) (w := w) (P := P) hT (t := t) hk
  have hl : (ty t).zero.length = (ty t).sz := by have := zvL_len hzl; simp at this; omega
  obtain ⟨r1, r2⟩ := box_ok h.rel (vs := z.cells) t hzc (fun v hv => by
   obtain ⟨j, hj, rfl⟩ := List.getElem_of_mem hv
   exact zvB_one (zvL_get hzl j _ (List.getElem?_eq_getElem hj))) (by omega)
  rw [hl] at r1 r2
  unfold Oper.wp
  have hrun : (execOp a.eval ⟨dst, .alloc t, type, pos, after, guard⟩).run P w = .ok (.value (.pointer (some ⟨w.heap.size, 0, none⟩))) (w.alloc (.cells z.cells t)) := by
   refine run_lift (x := Instr.alloc t true (.tuple #[])) ?_
   simp [Instr.alloc, zeroValue, typeInfo, hi, hzz, newVar, newRow]
  rw [hrun]
  exact hn _ _ _ _ (h.put (r := .c (.ptr σ.H.length 1 0 0)) r1 r2 hd (con_new (w' := w))) (fun _ _ => OldD.below ((Below.refl _ _).alloc (Nat.le_refl _) _)) ⟨by simp, r2, put_tm _ _ _⟩ he
 case box t x =>
  obtain ⟨⟨h1, h0, hnj⟩, he⟩ := he
  simp only [opGs, gOk] at hgs
  have hx := cellsR_ok hnj (by omega) (h.rd (hgs.1 trivial))
  obtain ⟨r1, r2⟩ := box_ok h.rel (vs := (a.eval x).cells) t hx (oneL_box hnj hx) (by omega)
  rw [h1] at r1 r2
  unfold Oper.wp
  have hrun : (execOp a.eval ⟨dst, .box t x, type, pos, after, guard⟩).run P w = .ok (.value (.pointer (some ⟨w.heap.size, 0, none⟩))) (w.alloc (.cells (a.eval x).cells t)) := by
   refine run_lift (x := Instr.box t (a.eval x)) ?_
   simp [Instr.box, newVar, newRow]
  rw [hrun]
  exact hn _ _ _ _ (h.put (r := .c (.ptr σ.H.length 1 0 0)) r1 r2 hd (con_new (w' := w))) (fun _ _ => OldD.below ((Below.refl _ _).alloc (Nat.le_refl _) _)) ⟨by simp, r2, put_tm _ _ _⟩ he
 case buildSlice t n ps =>
  split at he
  ·rename_i e hk
   split at he
   ·obtain ⟨h1, h2, h3, ⟨h4, h5⟩, he⟩ := he
    obtain ⟨hu, hke⟩ : P.underlying t = some (.slice e) ∧ _ := kOk_of hT hk
    obtain ⟨out, o1, o2, o3⟩ := buildSlice_ok hT h t e hk n ps hgs h1 h4 h5
    have hlen := o1.len
    obtain ⟨M', r1, r2, r3⟩ := lit_ok (k := (ty e).k) (n := n) (sz := (ty e).sz) h.rel e o1 h2 h3 h4 (by simp at hlen; omega) (by unfold maxLen; have := Nat.le_mul_of_pos_right n h4; omega)
    unfold Oper.wp
    rw [show (execOp a.eval ⟨dst, .buildSlice t n ps, type, pos, after, guard⟩).run P w = _ from run_lift (o3 w)]
    exact hn _ _ _ _ (h.put (r := .c (.h σ.H.length 0 n)) r1 r2 hd r3) (fun _ _ => OldD.below ((Below.refl _ _).alloc (Nat.le_refl _) _)) ⟨by simp [frzH_len], r2, put_tm _ _ _⟩ he
   ·obtain ⟨h1, h2, ⟨h4, h5⟩, he⟩ := he
    obtain ⟨out, o1, o2, o3⟩ := buildSlice_ok hT h t e hk n ps hgs h1 h4 h5
    have hlen := o1.len
    obtain ⟨M', r1, r2, r3⟩ := litO_ok (n := n) (sz := (ty e).sz) h.rel e o1 h2 h4 (by simp at hlen; omega) (by unfold maxLen; have := Nat.le_mul_of_pos_right n h4; omega)
    unfold Oper.wp
    rw [show (execOp a.eval ⟨dst, .buildSlice t n ps, type, pos, after, guard⟩).run P w = _ from run_lift (o3 w)]
    exact hn _ _ _ _ (h.put (r := .c (.h σ.H.length 0 n)) r1 r2 hd r3) (fun _ _ => OldD.below ((Below.refl _ _).alloc (Nat.le_refl _) _)) ⟨by simp, r2, put_tm _ _ _⟩ he
   ·rename_i ck0 cks hw
    obtain ⟨h1, ⟨rfl, h2, h4, h5, h6⟩, he⟩ := he
    obtain ⟨out, o1, o2, o3⟩ := buildSlice_ok hT h t e hk 1 ps hgs h1 h4 (by omega)
    obtain ⟨M', r1, r2, r3⟩ := weakLit_ok h.rel e o1 h2 (by omega)
    unfold Oper.wp
    rw [show (execOp a.eval ⟨dst, .buildSlice t 1 ps, type, pos, after, guard⟩).run P w = _ from run_lift (o3 w)]
    exact hn _ _ _ _ (h.put (r := .c (.ws e (ck0 :: cks) 1)) r1 r2 hd r3) (fun _ _ => OldD.below ((Below.refl _ _).alloc (Nat.le_refl _) _)) ⟨Nat.le_refl _, r2, put_tm _ _ _⟩ he
  ·exact he.elim
 case store t p v =>
  obtain ⟨hpu, he⟩ := he
  simp only [opGs, gOk] at hgs
  have hp := h.rd (hgs.1 trivial)
  have hv := h.rd (hgs.2.1 trivial)
  unfold stoT at he
  split at he
  ·rename_i t' ck o hpe
   rw [hpe] at hp
   obtain ⟨⟨h1, h0, hk, h2, h3⟩, he⟩ := he
   have hc := cellsR_ok (ckE_nj h3) (by omega) hv
   rw [← h1] at h2 h3
   obtain ⟨ad, w', q1, q2, q3, q4⟩ := weakStore_ok (P := P) h.rel hp hc h3 h2
   unfold Oper.wp
   have hlen : (a.eval v).cells.size = (ty t).sz := by have := hc.len; rw [← h1]; simpa using this
   have hrun : (execOp a.eval ⟨dst, .store t p v, type, pos, after, guard⟩).run P w = .ok .skip w' := by
    refine run_liftU (x := Instr.storeAt t (a.eval p) (a.eval v)) ?_
    have hzt := info_sz hT hk w
    rw [q1]
    simp [Instr.storeAt, Instr.sureAddr, storeVar, hzt, hlen, q2]
   rw [hrun]
   exact hn _ _ _ _ (h.put (r := .c .junk) q3 q4 hd trivial) (fun _ e => by rw [e] at hpu; exact hpu.elim) ⟨Nat.le_refl _, q4, put_tm _ _ _⟩ he
  rename_i hnw
  unfold storeV at he
  split at he
  ·rename_i id n i o hpe
   rw [hpe] at hp
   split at he
   ·rename_i fz t2 sz r hr
    obtain ⟨rfl, ⟨h1, h2, h3, h4, h5, hk⟩, he⟩ := he
    have hpv := (hp.2 _ _ _ _ hr).2 h2
    have hlen : ∀ {l : List AV}, ConL M σ.H w l (a.eval v).cells.toList → (a.eval v).cells.size = l.length := fun hc => by have := hc.len; simpa using this
    have hsto : ∀ w', (storeCells ⟨M.phi id, M.off id + i * sz + o, none⟩ (a.eval v).cells.toList 0).run P w = .ok () w' → (a.eval v).cells.size = (ty t).sz → (execOp a.eval ⟨dst, .store t p v, type, pos, after, guard⟩).run P w = .ok .skip w' := fun w' h1 h2 => by
     refine run_liftU (x := Instr.storeAt t (a.eval p) (a.eval v)) ?_
     have hzt := hz (t := t) (by omega) hk
     rw [hpv]
     simp [Instr.storeAt, Instr.sureAddr, storeVar, hzt, h2, h1]
    split at he
    ·rename_i hb
     obtain ⟨hnj, he⟩ := he
     have hc := cellsR_ok hnj (by omega) hv
     have hput : (r.put sz i o (cellsR (σ.rd v).2)).1 := by
      cases r with
      | box => trivial
      | own => trivial
      | _ => cases hb
     obtain ⟨w', r1, r2, r3⟩ := store_ok (P := P) h.rel hr (i := i) (o := o) (by omega) (by omega) (oneL_box hnj hc) hc.len (fun j u hj => by unfold RCon; rw [if_pos hb]; exact hc.get j u hj) hput
     unfold Oper.wp
     rw [hsto w' r3 (by rw [hlen hc]; exact h1)]
     exact hn _ _ _ _ (h.put (r := .c .junk) r1 r2 hd trivial) (fun _ e => by rw [e] at hpu; exact hpu.elim) ⟨by simp [setRoot_len], r2, put_tm _ _ _⟩ he
    ·rename_i hb
     obtain ⟨hf, hr2, hput, he⟩ := he
     obtain ⟨M1, e1, e2, q1, q2, q3⟩ := frz_ok _ h.rel hf
     have hc := frz_cells hf (by omega) hv
     have hc0 := q3 _ hc
     obtain ⟨w', r1, r2, r3⟩ := store_ok (P := P) q1 hr2 (i := i) (o := o) (cs := frzL σ.H (cellsR (σ.rd v).2)) (vs := (a.eval v).cells.toList) (by omega) (by rw [frzL_len]; omega) (frz_njL hf hc0) hc0.len (fun j u hj => by unfold RCon; rw [if_neg hb]; exact hc0.get j u hj) hput
     unfold Oper.wp
     rw [e1.1, e1.2] at r3
     rw [hsto w' r3 (by rw [hlen hc]; exact h1)]
     exact hn _ _ _ _ (h.put (r := .c .junk) r1 (q2.trans r2) hd trivial) (fun _ e => by rw [e] at hpu; exact hpu.elim) ⟨by simp [setRoot_len, frzH_len], q2.trans r2, put_tm _ _ _⟩ he
   ·exact he.elim
  ·exact he.elim
 case makeSlice t x y =>
  simp only [opGs, gOk] at hgs
  have hx := h.rd (hgs.1 trivial)
  have hy := h.rd (hgs.2.1 trivial)
  unfold makeV at he
  split at he
  ·rename_i e hk
   split at he
   ·rename_i k1 n k2 c hx1 hy1
    rw [hx1] at hx
    rw [hy1] at hy
    obtain ⟨⟨h1, h2, rfl, h3, h4, h5⟩, he⟩ := he
    obtain ⟨M', w', v, r0, rb, r1, r2, r3⟩ := make_ok hT h.rel t e hk k1 k2 c h1 h2 h3 h4 h5
    unfold Oper.wp
    have hrun : (execOp a.eval ⟨dst, .makeSlice t x y, type, pos, after, guard⟩).run P w = .ok (.value v) w' := by
     refine run_lift (x := Instr.makeSlice t (a.eval x) (a.eval y)) ?_
     rw [show a.eval x = .int k1 c from hx, show a.eval y = .int k2 c from hy]
     exact r0
    rw [hrun]
    exact hn _ _ _ _ (h.put (r := .c (.h σ.H.length 0 c.toNat)) r1 r2 hd r3) (fun _ _ => OldD.below rb) ⟨by simp, r2, put_tm _ _ _⟩ he
   ·exact he.elim
  ·exact he.elim
 case call c =>
  obtain ⟨callee, args, ats⟩ := c
  simp only at he
  cases callee with
  | invoke r m => exact he.elim
  | value f =>
   simp only [opGs, gOk] at hgs
   simp only at he
   split at he
   ·rename_i f' caps hf
    have hfv := h.rd (hgs.1 trivial)
    rw [hf] at hfv
    obtain ⟨cs, hfe, hcs⟩ := hfv
    obtain ⟨henter, hcall⟩ := he
    have hargs := rds_ok h args.toList hgs.2
    have hc := hcall E M w _ h.rel (conRL_app hargs (conRL_map hcs))
    unfold Oper.wp
    have hrun : (execOp a.eval ⟨dst, .call ⟨.value f, args, ats⟩, type, pos, after, guard⟩).run P w = .ok (.enter f' (args.toList.map a.eval ++ cs).toArray) w := by
     have e1 : args.map a.eval ++ cs.toArray = (args.toList.map a.eval ++ cs).toArray := by
      apply Array.toList_inj.1; simp
     simp [execOp, resolve, hfe, Deferred.ofValue, invoke, henter.run, ← e1]
    rw [hrun, Oper.upon_enter]
    refine hc.mono ?_
    rintro e w' ⟨M', H', r, v, rfl, q1, q2, q3, q4, q5, q6⟩
    exact hn _ _ _ _ (h.put q1 q2 hd q3) q4 ⟨q5, q2, put_tm _ _ _⟩ q6
   ·exact he.elim
  | builtin b =>
   cases b <;> simp only at he <;> try exact he.elim
   case append =>
    split at he
    ·rename_i s x hsx
     obtain ⟨hpu, hats, he⟩ := he
     obtain ⟨args⟩ := args
     simp only at hsx
     subst hsx
     obtain ⟨ats⟩ := ats
     simp only [opGs, rgs, gOk] at hgs
     have hs := h.rd (hgs.1 trivial)
     have hx := h.rd (hgs.2.1 trivial)
     obtain ⟨t, rfl⟩ : ∃ t, ats = [t, t] := ⟨_, hats⟩
     have htt : (List.toArray [t, t]).getD 0 0 = t := rfl
     rw [htt] at he
     have hex : ∀ {v : Value} {w' : World}, (Builtin.append_ #[t, t] type #[a.eval s, a.eval x]).run P w = .ok v w' → (execOp a.eval ⟨dst, .call ⟨.builtin .append, [s, x].toArray, [t, t].toArray⟩, type, pos, after, guard⟩).run P w = .ok (.value v) w' := fun {v w'} h1 => by
      have := run_lift (x := Builtin.append_ #[t, t] type #[a.eval s, a.eval x]) h1
      simpa [execOp, resolve, invoke, builtin] using this
     have hwk : (∃ e ck, (ty t).k = .sl e ∧ appW ty e ck (σ.rd s).2 (σ.rd x).2 (fun r => K ⟨putT σ.tm true dst r, σ.H⟩)) ∨ appV ty (ty t).k σ.H (σ.rd s).2 (σ.rd x).2 (fun r H => K ⟨putT σ.tm true dst r, H⟩) := by
      unfold appT at he
      split at he
      ·rename_i e hk
       split at he
       ·exact .inr he
       ·exact .inr he
       ·rename_i c cs _; exact .inl ⟨e, c :: cs, hk, he⟩
      ·exact he.elim
     clear he
     rcases hwk with ⟨e, ck, hk, he⟩ | he
     ·unfold appW at he
      split at he
      ·rename_i t' ck' m hxe
       rw [hxe] at hx
       obtain ⟨⟨⟨rfl, rfl, k1, k2⟩, k3, k4, k5, k6⟩, he⟩ := he
       have fin : ∀ (n : Nat) (r : RV), WSl M w t' ck' n (a.eval s) → n + m ≤ 1099511627776 → (∀ M' w' v', WSl M' w' t' ck' (n + m) v' → ConR M' σ.H w' r v') → K ⟨putT σ.tm true dst r, σ.H⟩ → Oper.wp P ⟨dst, .call ⟨.builtin .append, [s, x].toArray, [t, t].toArray⟩, type, pos, after, guard⟩ a w next Q := fun n r hw hm hr hK => by
        obtain ⟨M', w', v', r0, r1, r2, r3⟩ := weakApp_ok hT h.rel t t' type hk k3 k4 k5 k6 hw hx k1 hm
        unfold Oper.wp
        rw [hex r0]
        exact hn _ _ _ _ (h.put (r := r) r1 r2 hd (hr _ _ _ r3)) (fun _ e => by rw [e] at hpu; exact hpu.elim) ⟨Nat.le_refl _, r2, put_tm _ _ _⟩ hK
       split at he
       ·rename_i hse
        rw [hse] at hs
        have hs : a.eval s = .slice none 0 0 := hs
        exact fin 0 (.c (.ws _ _ m)) (by rw [hs]; exact WSl.nil _ _) (by omega) (fun M' w' v' h => by rw [Nat.zero_add] at h; exact h) he
       ·rename_i t2 ck2 n hse
        rw [hse] at hs
        obtain ⟨⟨rfl, rfl, j1⟩, he⟩ := he
        exact fin n (.c (.ws _ _ (n + m))) hs j1 (fun M' w' v' h => h) he
       ·rename_i t2 ck2 b hse
        rw [hse] at hs
        obtain ⟨⟨rfl, rfl, j1⟩, he⟩ := he
        obtain ⟨n, hnb, hs⟩ := hs
        exact fin n (.c (.wu _ _ (b + m))) hs (by omega) (fun M' w' v' h => ⟨n + m, by omega, h⟩) he
       ·exact he.elim
      ·exact he.elim
     unfold appV at he
     split at he
     ·rename_i e hk
      obtain ⟨s1, s2, s3, s4, he⟩ := he
      obtain ⟨ad, c, news, hsrc⟩ := src_ok h.rel hx s1
      rw [s2] at hsrc
      have hbx : (appSrc σ.H (σ.rd x).2).2.1.one = false := by
       unfold appSrc at s1 ⊢
       split at s1
       ·exact (slRow_get _ _ _).2.1
       ·split at s1
        ·exact (drop_get s1.2 _).1.1
        ·exact s1.elim
       ·exact s1.elim
      split at he
      ·rename_i hs1
       rw [hs1] at hs
       have hsv : a.eval s = .slice none 0 0 := hs
       obtain ⟨h1, he⟩ := he
       obtain ⟨M', w', v', r0, r1, r2, r3⟩ := appNil_ok hT h.rel t e type hk s3 s4 hsrc hbx h1
       unfold Oper.wp
       rw [hex (by rw [hsv]; exact r0)]
       exact hn _ _ _ _ (h.put (r := .c (.h _ 0 _)) r1 r2 hd r3) (fun _ e => by rw [e] at hpu; exact hpu.elim) ⟨by simp, r2, put_tm _ _ _⟩ he
      ·rename_i id st len hs1
       rw [hs1] at hs
       split at he
       ·rename_i fz t2 sz r hr
        obtain ⟨⟨rfl, rfl, h1, rfl, rfl, h2⟩, happ, he⟩ := he
        obtain ⟨M', w', v', r0, r1, r2, r3⟩ := appOwn_ok hT h.rel t t2 type hk s3 s4 hsrc hr h1 hs h2 happ
        unfold Oper.wp
        rw [hex r0]
        exact hn _ _ _ _ (h.put (r := .c (.h _ 0 _)) r1 r2 hd r3) (fun _ e => by rw [e] at hpu; exact hpu.elim) ⟨by simp [setRoot_len], r2, put_tm _ _ _⟩ he
       ·exact he.elim
      ·exact he.elim
     ·exact he.elim
    ·exact he.elim
end
section
variable {P : Program} {ty : Ty} {E : Env} {nt : Nat} {M M' : Mp} {σ σ' : AS} {a a' : Act} {w w' : World}
theorem Stp.refl (M : Mp) (σ : AS) (a : Act) (w : World) (ds : Nat → Prop) : Stp M σ a w M σ a w ds := ⟨Nat.le_refl _, Kp.refl _ _ _, fun _ _ => rfl⟩
theorem Stp.trans {ds ds1 ds2 : Nat → Prop} {M2 : Mp} {σ2 : AS} {a2 : Act} {w2 : World} (h : Stp M σ a w M' σ' a' w' ds1) (k : Stp M' σ' a' w' M2 σ2 a2 w2 ds2) (h1 : ∀ t, ds1 t → ds t) (h2 : ∀ t, ds2 t → ds t) : Stp M σ a w M2 σ2 a2 w2 ds :=
 ⟨Nat.le_trans h.len k.len, h.kp.trans k.kp, fun t ht => (k.tm t (fun h => ht (h2 t h))).trans (h.tm t (fun h => ht (h1 t h)))⟩
theorem Stp.mono {ds ds1 : Nat → Prop} (h : Stp M σ a w M' σ' a' w' ds1) (h1 : ∀ t, ds1 t → ds t) : Stp M σ a w M' σ' a' w' ds := ⟨h.len, h.kp, fun t ht => h.tm t fun h => ht (h1 t h)⟩
def dstL (l : List Oper) (t : Nat) : Prop := ∃ o ∈ l, o.dst = some t
theorem val_stp {o : Oper} {v : Value} (h : σ'.H = σ.H) : Stp M σ a w M σ' (a.put o.dst v) w (fun t => o.dst = some t) :=
 ⟨by rw [h]; exact Nat.le_refl _, by rw [h]; exact Kp.refl _ _ _, put_tm _ _ _⟩
def After (E : Env) (nt : Nat) (M : Mp) (σ : AS) (a : Act) (w : World) (ds : Nat → Prop) (K : AS → Prop) (a' : Act) (w' : World) : Prop := ∃ M' σ', St E nt M' σ' a' w' ∧ Stp M σ a w M' σ' a' w' ds ∧ K σ'
theorem After.step {ds ds1 : Nat → Prop} {K : AS → Prop} {a2 : Act} {w2 : World} (h : Stp M σ a w M' σ' a' w' ds1) (k : After E nt M' σ' a' w' ds K a2 w2) (h1 : ∀ t, ds1 t → ds t) : After E nt M σ a w ds K a2 w2 := by
 obtain ⟨M2, σ2, q1, q2, q3⟩ := k
 exact ⟨M2, σ2, q1, h.trans q2 h1 (fun _ h => h), q3⟩
theorem OldD.refl (g : Option Nat) (w : World) : OldD g w w := ⟨Nat.le_refl _, fun _ _ _ => rfl⟩
theorem OldD.step {g : Option Nat} {w w' w'' : World} (h : OldD g w w') (k : OldD g w' w'') : OldD g w w'' := ⟨Nat.le_trans h.1 k.1, fun b hb hne => (k.2 b (Nat.lt_of_lt_of_le hb h.1) hne).trans (h.2 b hb hne)⟩
instance (g : Option Nat) (w : World) : Nonempty (At (OldD g w)) := ⟨⟨w, OldD.refl g w⟩⟩
theorem op_ok (hT : TyOk P ty) (h : St E nt M σ a w) {pu : Pu} {dd : Option Nat} {ops : Array Oper} {o : Oper} (hd : ∀ t, o.dst = some t → t < nt) {K : AS → Prop} (hw : awpO P ty pu dd ops σ o K) {next : Act → World → Prop} {Q : Exit → Act → World → Prop}
  (hn : ∀ M' σ' a' w', St E nt M' σ' a' w' → (∀ g, pu = some g → OldD (g.map M.phi) w w') → Stp M σ a w M' σ' a' w' (fun t => o.dst = some t) → K σ' → next a' w') : if Region.wanted o (yielded ops a.tmps) then o.wp P a w next Q else next (a.put o.dst undef) w := by
 unfold awpO at hw
 split at hw
 ·rename_i hv
  obtain ⟨σ', v, k1, k2, k3, k4, k5⟩ := val_ok hT h hv hd hw
  have hnx := hn M σ' (a.put o.dst v) w k3 (fun _ _ => OldD.refl _ _) (val_stp k2) k1
  cases hwt : Region.wanted o (yielded ops a.tmps) with
  | true =>
   rw [if_pos rfl]
   unfold Oper.wp
   rw [k4 hwt w Same.refl]
   exact hnx
  | false =>
   rw [if_neg (by simp)]
   rw [k5 hwt] at hnx
   exact hnx
 ·have hw := hw.2
  unfold awpE at hw
  split at hw
  ·exact hw.elim
  ·rename_i g hg
   obtain ⟨h2, h3, h4⟩ := hw
   rw [guard_ok h hg rfl]
   cases g with
   | true => exact eff_ok hT h hd h2 (h3 rfl) hn
   | false => exact hn M _ (a.put o.dst undef) w (h.putV hd (fun e => by cases e) (fun _ => rfl)) (fun _ _ => OldD.refl _ _) (val_stp rfl) (h4 rfl)
end
section draw
variable {P : Program} {ops : Array Oper} {Q : Exit → Act → World → Prop} {md : Region.Mode}
theorem wpAnyF_mono {S S' : World → Prop} {fins : List Nat} (hS : ∀ w, S w → S' w) : ∀ (fuel : Nat) (listed : Array Bool) (a : Act) (w : World), wpAnyF P md ops Q S fins fuel listed a w → wpAnyF P md ops Q S' fins fuel listed a w
 | 0, _, _, _, h => h
 | fuel + 1, _, _, _, h => ⟨h.1, fun i hi => wpOp_mono (fun a' w' h' => h'.imp id fun h => ⟨hS _ h.1, wpAnyF_mono hS fuel _ a' w' h.2⟩) (h.2 i hi)⟩
end draw
section
variable {P : Program} {ty : Ty} {E : Env} {nt : Nat} {M M' : Mp} {σ σ' : AS} {a a' : Act} {w w' : World}
theorem Same.old (h : Rel E M σ.H w) (ho : OldD none w w') : Same M σ.H w w' := by
 rintro b (hb | ⟨id, fz, t, sz, r, hr, rfl⟩ | ⟨q, hq⟩)
 ·exact ho.2 b (h.rlt b hb) (by simp)
 ·exact ho.2 _ (h.lt hr) (by simp)
 ·exact ho.2 b (h.tau.lt hq) (by simp)
theorem rootAt_dead (H : List Root) (k : Nat) : rootAt (setRoot H k .dead) k = .dead := by
 by_cases hk : k < H.length
 ·rw [rootAt_set, if_pos ⟨rfl, hk⟩]
 ·exact rootAt_big (by rw [setRoot_len]; omega)
theorem rootAt_kill {H : List Root} {k i : Nat} {fz : Bool} {t : TypeId} {sz : Nat} {r : Row} (h : rootAt (setRoot H k .dead) i = .live fz t sz r) : i ≠ k ∧ rootAt H i = .live fz t sz r := by
 by_cases e : i = k
 ·subst e; rw [rootAt_dead] at h; cases h
 ·refine ⟨e, ?_⟩
  rw [rootAt_set, if_neg (fun hh => e hh.1)] at h
  exact h
theorem Con.kill {x : AV} {v : Value} (k : Nat) (h : Con M σ.H w x v) : Con M (setRoot σ.H k .dead) w x v := by
 cases x with
 | ptr id n i o => exact ⟨⟨by rw [setRoot_len]; exact h.1.1, h.1.2⟩, fun fz t sz r hr => h.2 fz t sz r (rootAt_kill hr).2⟩
 | h id st len => exact ⟨⟨by rw [setRoot_len]; exact h.1.1, h.1.2⟩, fun fz t sz r hr => h.2 fz t sz r (rootAt_kill hr).2⟩
 | _ => exact h
theorem Rel.kill (k : Nat) (h : Rel E M σ.H w) : Rel E M (setRoot σ.H k .dead) w := by
 refine ⟨h.bel, fun id fz t sz r hr => h.low id fz t sz r (rootAt_kill hr).2, fun id fz t sz r hr => ?_, fun id t sz r hr => h.froz id t sz r (rootAt_kill hr).2, fun id t sz r hr => h.thaw id t sz r (rootAt_kill hr).2,
  fun i j t s r t' s' r' h1 h2 => h.inj i j t s r t' s' r' (rootAt_kill h1).2 (rootAt_kill h2).2, h.rlt, h.src, h.tau.keep rfl (fun _ _ _ => rfl) (fun b q hq => (h.tau.new b q hq).2) fun b q j fz t s r hq hj => h.tau.row _ _ _ _ _ _ _ hq (rootAt_kill hj).2⟩
 obtain ⟨cur, k1, k2, k3, k4, k5, k6⟩ := h.row id fz t sz r (rootAt_kill hr).2
 refine ⟨cur, k1, k2, k3, k4, k5, fun i hi o ho => ?_⟩
 obtain ⟨v, g1, g2, g3⟩ := k6 i hi o ho
 refine ⟨v, g1, g2, ?_⟩
 unfold RCon at g3 ⊢
 split
 ·rename_i hb; rw [if_pos hb] at g3; exact g3.kill k
 ·rename_i hb; rw [if_neg hb] at g3; exact g3
theorem St.kill (k : Nat) (h : St E nt M σ a w) : St E nt M ⟨σ.tm, setRoot σ.H k .dead⟩ a w :=
 ⟨h.rel.kill k, fun t ht => Kp.R (fun _ _ hc => Con.kill k hc) (h.tms t ht), h.off, h.sz, h.df⟩
theorem Same.oldK {k : Nat} (h : Rel E M σ.H w) (hv : vldW σ.H k) (ho : OldD (some (M.phi k)) w w') : Same M (setRoot σ.H k .dead) w w' := by
 unfold vldW at hv
 split at hv
 ·rename_i fz t sz r hr
  obtain ⟨rfl, -⟩ := hv
  rintro b (hb | ⟨id, fz, t', sz', r', hr', rfl⟩ | ⟨q, hq⟩)
  ·refine ho.2 b (h.rlt b hb) fun e => ?_
   cases e
   exact h.thaw _ _ _ _ hr hb
  ·obtain ⟨h1, h2⟩ := rootAt_kill hr'
   refine ho.2 _ (h.lt h2) fun e => ?_
   have e : M.phi id = M.phi k := Option.some.inj e
   cases fz with
   | false => exact h1 (h.inj _ _ _ _ _ _ _ _ h2 hr e)
   | true => exact h.thaw _ _ _ _ hr (e ▸ h.froz _ _ _ _ h2)
  ·refine ho.2 b (h.tau.lt hq) fun e => ?_
   cases e
   exact h.tau.row _ _ _ _ _ _ _ hq hr rfl
 ·exact hv.elim
theorem val_okD (hT : TyOk P ty) (h : St E nt M σ a w) {ops : Array Oper} {o : Oper} (hv : isV o.op = true) (hd : ∀ t, o.dst = some t → t < nt) {K : AS → Prop} {dd : Option Nat} (hw : awpV ty (guardOf σ.tm ops o.guard) dd σ o K) :
  ∃ σ' v, K σ' ∧ σ'.H = σ.H ∧ St E nt M σ' (a.put o.dst v) w ∧ (Region.wanted o (yielded ops a.tmps) = true → ∀ w', OldD (dd.map M.phi) w w' → (execOp a.eval o).run P w' = .ok (.value v) w') ∧ (Region.wanted o (yielded ops a.tmps) = false → v = undef) := by
 obtain ⟨σ', v, k1, k2, k3, k4, k5⟩ := val_ok hT h hv hd hw
 refine ⟨σ', v, k1, k2, k3, fun hwt w' ho => ?_, k5⟩
 cases dd with
 | none => exact k4 hwt w' (Same.old h.rel ho)
 | some k =>
  unfold awpV at hw
  split at hw
  ·exact hw.elim
  ·rename_i g hg
   obtain ⟨h1, ⟨h2, h3⟩, h4, h5⟩ := hw
   rw [guard_ok h hg rfl] at hwt
   subst hwt
   obtain ⟨v', -, v2⟩ := opV_ok hT (h.kill k) hv rfl h1 (h3 rfl)
   have e1 := k4 (guard_ok h hg rfl) w Same.refl
   have e2 := v2 w Same.refl
   rw [e1] at e2
   cases e2
   exact v2 w' (Same.oldK h.rel h2 ho)
def dstOk (nt : Nat) (ops : Array Oper) : Bool := ops.toList.all fun o => match o.dst with
 | some t => decide (t < nt)
 | none => true
theorem dstOk_spec {ops : Array Oper} (h : dstOk nt ops = true) : ∀ o ∈ ops.toList, ∀ t, o.dst = some t → t < nt := by
 intro o ho t ht
 have := List.all_eq_true.1 h o ho
 rw [ht] at this
 simpa using this
end
theorem renT_lk (n : Nat) (ids : List Nat) : ∀ (tm : Tm) (t : Nat), lk (renT n ids tm) t = ((lk tm t).1, renR n ids (lk tm t).2)
 | [], _ => rfl
 | (k, g, v) :: l, t => by
  simp only [renT, lk]
  split
  ·rfl
  ·exact renT_lk n ids l t
theorem renRs_len (n : Nat) (ids : List Nat) : ∀ l : List Root, (renRs n ids l).length = l.length
 | [] => rfl
 | _ :: l => by simp [renRs, renRs_len n ids l]
theorem pickR_len (n : Nat) (ids : List Nat) (H : List Root) : ∀ l : List Nat, (pickR n ids H l).length = l.length
 | [] => rfl
 | _ :: l => by simp [pickR, pickR_len n ids H l]
theorem renRs_at (n : Nat) (ids : List Nat) : ∀ (l : List Root) (j : Nat), rootAt (renRs n ids l) j = renRoot n ids (rootAt l j)
 | [], _ => rfl
 | _ :: _, 0 => rfl
 | _ :: l, j + 1 => by simp only [renRs, rootAt]; exact renRs_at n ids l j
theorem rootAt_append : ∀ (l m : List Root) (j : Nat), rootAt (l ++ m) j = if j < l.length then rootAt l j else rootAt m (j - l.length)
 | [], m, j => by simp
 | a :: l, m, 0 => by simp [rootAt]
 | a :: l, m, j + 1 => by
  simp only [List.cons_append, rootAt, List.length_cons, rootAt_append l m j, Nat.add_lt_add_iff_right]
  congr 2
  omega
theorem pickR_at (n : Nat) (ids : List Nat) (H : List Root) : ∀ (l : List Nat) (j : Nat), rootAt (pickR n ids H l) j = match l[j]? with
  | some i => renRoot n ids (rootAt H i)
  | none => .dead
 | [], j => by simp [pickR, rootAt]
 | _ :: _, 0 => by simp [pickR, rootAt]
 | _ :: l, j + 1 => by simp only [pickR, rootAt, List.getElem?_cons_succ]; exact pickR_at n ids H l j
def src (n : Nat) (ids : List Nat) (j : Nat) : Option Nat := if j < n then some j else ids[j - n]?
theorem renH_at {n : Nat} {ids : List Nat} {H : List Root} (hn : n ≤ H.length) (j : Nat) : rootAt (renH n ids H) j = match src n ids j with
  | some i => renRoot n ids (rootAt H i)
  | none => .dead := by
 have hl : (H.take n).length = n := by simp; omega
 unfold renH src
 rw [rootAt_append, renRs_len, hl, renRs_at, rootAt_take, pickR_at]
 by_cases h : j < n
 ·simp [h]
 ·simp [h]
theorem renH_len {n : Nat} {ids : List Nat} {H : List Root} (hn : n ≤ H.length) : (renH n ids H).length = n + ids.length := by
 unfold renH
 rw [List.length_append, renRs_len, pickR_len, List.length_take]
 omega
theorem pos_spec : ∀ (l : List Nat) (id k j : Nat), pos l id k = some j → k ≤ j ∧ l[j - k]? = some id
 | [], _, _, _, h => by cases h
 | a :: l, id, k, j, h => by
  simp only [pos] at h
  split at h
  ·rename_i e
   cases h
   exact ⟨Nat.le_refl _, by simp [e]⟩
  ·obtain ⟨h1, h2⟩ := pos_spec l id (k + 1) j h
   refine ⟨by omega, ?_⟩
   rw [show j - k = (j - (k + 1)) + 1 by omega, List.getElem?_cons_succ]
   exact h2
theorem renI_spec {n : Nat} {ids : List Nat} {id j : Nat} (h : renI n ids id = some j) : src n ids j = some id := by
 unfold renI at h
 unfold src
 split at h
 ·cases h; rename_i h; rw [if_pos h]
 ·obtain ⟨h1, h2⟩ := pos_spec _ _ _ _ h
  rw [if_neg (by omega), h2]
theorem src_lt {n : Nat} {ids : List Nat} {j i : Nat} (h : src n ids j = some i) : j < n + ids.length := by
 unfold src at h
 split at h
 ·omega
 ·have := (List.getElem?_eq_some_iff.1 h).1; omega
theorem renLL_len (n : Nat) (ids : List Nat) : ∀ l : List (List AV), (renLL n ids l).length = l.length
 | [] => rfl
 | _ :: l => by simp [renLL, renLL_len n ids l]
theorem renLL_get (n : Nat) (ids : List Nat) : ∀ (l : List (List AV)) (i : Nat), (renLL n ids l).getD i [] = renL n ids (l.getD i [])
 | [], _ => rfl
 | _ :: _, 0 => rfl
 | _ :: l, i + 1 => by simpa [renLL] using renLL_get n ids l i
theorem renRow_len (n : Nat) (ids : List Nat) (r : Row) : (renRow n ids r).len = r.len := by
 cases r with
 | own l => exact renLL_len n ids l
 | _ => rfl
theorem renRow_one (n : Nat) (ids : List Nat) (r : Row) : (renRow n ids r).one = r.one := by cases r <;> rfl
theorem renRow_box (n : Nat) (ids : List Nat) (r : Row) : (renRow n ids r).isBox = r.isBox := by cases r <;> rfl
theorem nth_ren (n : Nat) (ids : List Nat) : ∀ (l : List AV) (o : Nat), nth (renL n ids l) o = renA n ids (nth l o)
 | [], _ => rfl
 | _ :: _, 0 => rfl
 | _ :: l, o + 1 => by simp only [renL, nth]; exact nth_ren n ids l o
theorem okI_mem {n : Nat} : ∀ {l : List Nat}, okI n l = true → (∀ i ∈ l, n ≤ i) ∧ ∀ (j k i : Nat), l[j]? = some i → l[k]? = some i → j = k
 | [], _ => ⟨fun _ h => (by cases h), fun j k i h => by simp at h⟩
 | a :: l, h => by
  simp only [okI, Bool.and_eq_true, decide_eq_true_eq, Bool.not_eq_true', List.contains_eq_mem, decide_eq_false_iff_not] at h
  obtain ⟨⟨h1, h2⟩, h3⟩ := h
  obtain ⟨k1, k2⟩ := okI_mem h3
  refine ⟨fun i hi => ?_, fun j k i hj hk => ?_⟩
  ·rcases List.mem_cons.1 hi with rfl | hi
   ·exact h1
   ·exact k1 i hi
  ·cases j with
   | zero =>
    cases k with
    | zero => rfl
    | succ k =>
     simp at hj hk
     subst hj
     exact absurd (List.mem_of_getElem? hk) h2
   | succ j =>
    cases k with
    | zero =>
     simp at hj hk
     subst hk
     exact absurd (List.mem_of_getElem? hj) h2
    | succ k =>
     simp at hj hk
     rw [k2 j k i hj hk]
theorem src_inj {n : Nat} {ids : List Nat} (ho : okI n ids = true) {i j k : Nat} (h1 : src n ids i = some k) (h2 : src n ids j = some k) : i = j := by
 obtain ⟨k1, k2⟩ := okI_mem ho
 unfold src at h1 h2
 split at h1
 ·cases h1
  split at h2
  ·cases h2; rfl
  ·have := k1 _ (List.mem_of_getElem? h2); omega
 ·split at h2
  ·cases h2
   have := k1 _ (List.mem_of_getElem? h1); omega
  ·have := k2 _ _ _ h1 h2; omega
section
variable {E : Env} {nt : Nat} {M : Mp} {H : List Root} {σ : AS} {a : Act} {w : World} {n : Nat} {ids : List Nat}
def renM (n : Nat) (ids : List Nat) (M : Mp) : Mp := ⟨fun j => match src n ids j with
 | some i => M.phi i
 | none => 0, fun j => match src n ids j with
 | some i => M.off i
 | none => 0, M.rho, M.tau⟩
theorem renM_phi {j i : Nat} (h : src n ids j = some i) : (renM n ids M).phi j = M.phi i := by
 show (match src n ids j with | some i => M.phi i | none => 0) = _
 rw [h]
theorem renM_off {j i : Nat} (h : src n ids j = some i) : (renM n ids M).off j = M.off i := by
 show (match src n ids j with | some i => M.off i | none => 0) = _
 rw [h]
theorem ren_live (hn : n ≤ H.length) {j : Nat} {fz : Bool} {t : TypeId} {sz : Nat} {r : Row} (h : rootAt (renH n ids H) j = .live fz t sz r) : ∃ i r0, src n ids j = some i ∧ rootAt H i = .live fz t sz r0 ∧ r = renRow n ids r0 := by
 rw [renH_at hn] at h
 cases hs : src n ids j with
 | none => rw [hs] at h; cases h
 | some i =>
  rw [hs] at h
  simp only at h
  cases hr : rootAt H i with
  | dead => rw [hr] at h; cases h
  | live fz' t' sz' r' => rw [hr] at h; cases h; exact ⟨i, r', rfl, hr, rfl⟩
theorem Con.ren (hn : n ≤ H.length) {x : AV} {v : Value} (h : Con M H w x v) : Con (renM n ids M) (renH n ids H) w (renA n ids x) v := by
 cases x with
 | ptr id m i o =>
  simp only [renA]
  cases hs : renI n ids id with
  | none => trivial
  | some j =>
   have hsr := renI_spec hs
   refine ⟨⟨by rw [renH_len hn]; exact src_lt hsr, h.1.2⟩, fun fz t sz r hr => ?_⟩
   obtain ⟨i0, r0, k1, k2, rfl⟩ := ren_live hn hr
   rw [hsr] at k1
   cases k1
   rw [renRow_len, renM_phi hsr, renM_off hsr]
   exact h.2 _ _ _ _ k2
 | h id st len =>
  simp only [renA]
  cases hs : renI n ids id with
  | none => trivial
  | some j =>
   have hsr := renI_spec hs
   refine ⟨⟨by rw [renH_len hn]; exact src_lt hsr, h.1.2⟩, fun fz t sz r hr => ?_⟩
   obtain ⟨i0, r0, k1, k2, rfl⟩ := ren_live hn hr
   rw [hsr] at k1
   cases k1
   rw [renRow_len, renM_phi hsr, renM_off hsr]
   exact h.2 _ _ _ _ k2
 | junk => trivial
 | _ => exact h
theorem ConL.ren (hn : n ≤ H.length) : ∀ {l : List AV} {vs : List Value}, ConL M H w l vs → ConL (renM n ids M) (renH n ids H) w (renL n ids l) vs
 | [], _, h => h
 | _ :: _, _, ⟨v, r, e, h1, h2⟩ => ⟨v, r, e, h1.ren hn, ConL.ren hn h2⟩
mutual
theorem ConR.ren (hn : n ≤ H.length) : ∀ {x : RV} {v : Value}, ConR M H w x v → ConR (renM n ids M) (renH n ids H) w (renR n ids x) v
 | .c _, _, h => Con.ren hn h
 | .agg _, _, ⟨vs, e, h⟩ => ⟨vs, e, ConL.ren hn h⟩
 | .fn _ _, _, ⟨vs, e, h⟩ => ⟨vs, e, ConL.ren hn h⟩
 | .tup _, _, ⟨vs, e, h⟩ => ⟨vs, e, ConRL.ren hn h⟩
 | .ifc _ _, _, ⟨u, e, h⟩ => ⟨u, e, ConR.ren hn h⟩
theorem ConRL.ren (hn : n ≤ H.length) : ∀ {x : List RV} {vs : List Value}, ConRL M H w x vs → ConRL (renM n ids M) (renH n ids H) w (renRL n ids x) vs
 | [], _, h => h
 | _ :: _, _, ⟨v, r, e, h1, h2⟩ => ⟨v, r, e, ConR.ren hn h1, ConRL.ren hn h2⟩
end
theorem Rel.ren (h : Rel E M H w) (hn : n ≤ H.length) (ho : okI n ids = true) : Rel E (renM n ids M) (renH n ids H) w := by
 refine ⟨h.bel, fun id fz t sz r hr => ?_, fun id fz t sz r hr => ?_, fun id t sz r hr => ?_, fun id t sz r hr => ?_, fun i j t s r t' s' r' hi hj he => ?_, h.rlt, h.src, h.tau.keep rfl (fun _ _ _ => rfl) (fun b q hq => (h.tau.new b q hq).2) fun b q j fz t s r hq hj => (by
  obtain ⟨i, r0, k1, k2, rfl⟩ := ren_live hn hj
  rw [renM_phi k1]; exact h.tau.row _ _ _ _ _ _ _ hq k2)⟩
 ·obtain ⟨i, r0, k1, k2, rfl⟩ := ren_live hn hr
  rw [renM_phi k1]; exact h.low _ _ _ _ _ k2
 ·obtain ⟨i, r0, k1, k2, rfl⟩ := ren_live hn hr
  rw [renM_phi k1, renM_off k1]
  obtain ⟨cur, c1, c2, c3, c4, c5, c6⟩ := h.row _ _ _ _ _ k2
  refine ⟨cur, c1, c2, by rw [renRow_len]; exact c3, c4, by rw [renRow_one]; exact c5, fun i hi o ho2 => ?_⟩
  rw [renRow_len] at hi
  obtain ⟨v, q1, q2, q3⟩ := c6 i hi o ho2
  refine ⟨v, q1, q2, ?_⟩
  unfold RCon at q3 ⊢
  rw [renRow_box]
  cases r0 with
  | box l =>
   simp only [Row.isBox, if_true] at q3 ⊢
   show Con _ _ w (nth (renL n ids l) o) v
   rw [nth_ren]
   exact q3.ren hn
  | own l =>
   simp only [Row.isBox, if_true] at q3 ⊢
   show Con _ _ w (nth ((renLL n ids l).getD i []) o) v
   rw [renLL_get, nth_ren]
   exact q3.ren hn
  | _ => exact q3
 ·obtain ⟨i, r0, k1, k2, rfl⟩ := ren_live hn hr
  rw [renM_phi k1]; exact h.froz _ _ _ _ k2
 ·obtain ⟨i, r0, k1, k2, rfl⟩ := ren_live hn hr
  rw [renM_phi k1]; exact h.thaw _ _ _ _ k2
 ·obtain ⟨i0, r0, k1, k2, rfl⟩ := ren_live hn hi
  obtain ⟨j0, r1, k3, k4, rfl⟩ := ren_live hn hj
  rw [renM_phi k1, renM_phi k3] at he
  obtain rfl := h.inj _ _ _ _ _ _ _ _ k2 k4 he
  exact src_inj ho k1 k3
def renS (n : Nat) (ids : List Nat) (σ : AS) : AS := ⟨renT n ids σ.tm, renH n ids σ.H⟩
theorem St.ren (h : St E nt M σ a w) (hn : n ≤ σ.H.length) (ho : okI n ids = true) : St E nt (renM n ids M) (renS n ids σ) a w := by
 refine ⟨h.rel.ren hn ho, fun t ht => ?_, fun t ht => ?_, h.sz, h.df⟩
 ·have ht : (lk (renT n ids σ.tm) t).1 = true := ht
  show ConR _ _ w (lk (renT n ids σ.tm) t).2 _
  rw [renT_lk] at ht ⊢
  exact (h.tms t ht).ren hn
 ·have ht : (lk (renT n ids σ.tm) t).1 = false := ht
  rw [renT_lk] at ht
  exact h.off t ht
theorem ren_scp {x : AV} (hs : x.scp n = true) : renA n ids x = x := by
 cases x with
 | ptr id m i o =>
  have : id < n := by simpa [AV.scp] using hs
  simp only [renA, renI, if_pos this, mkPtr]
 | h id st len =>
  have : id < n := by simpa [AV.scp] using hs
  simp only [renA, renI, if_pos this, mkH]
 | _ => rfl
theorem dead_rep : ∀ d k : Nat, rootAt (List.replicate d .dead) k = .dead
 | 0, _ => rfl
 | _ + 1, 0 => rfl
 | d + 1, k + 1 => by simp only [List.replicate_succ, rootAt]; exact dead_rep d k
theorem dead_at (H : List Root) (d j : Nat) : rootAt (H ++ List.replicate d .dead) j = rootAt H j := by
 rw [rootAt_append]
 split
 ·rfl
 ·rename_i h
  rw [dead_rep, rootAt_big (H := H) (by omega)]
theorem Con.dead (d : Nat) {x : AV} {v : Value} (h : Con M H w x v) : Con M (H ++ List.replicate d .dead) w x v := by
 cases x with
 | ptr id m i o => exact ⟨⟨by rw [List.length_append]; have := h.1.1; omega, h.1.2⟩, fun fz t sz r hr => h.2 _ _ _ _ (by rw [dead_at] at hr; exact hr)⟩
 | h id st len => exact ⟨⟨by rw [List.length_append]; have := h.1.1; omega, h.1.2⟩, fun fz t sz r hr => h.2 _ _ _ _ (by rw [dead_at] at hr; exact hr)⟩
 | junk => trivial
 | _ => exact h
theorem ConL.dead (d : Nat) : ∀ {l : List AV} {vs : List Value}, ConL M H w l vs → ConL M (H ++ List.replicate d .dead) w l vs
 | [], _, h => h
 | _ :: _, _, ⟨v, r, e, h1, h2⟩ => ⟨v, r, e, h1.dead d, ConL.dead d h2⟩
mutual
theorem ConR.dead (d : Nat) : ∀ {x : RV} {v : Value}, ConR M H w x v → ConR M (H ++ List.replicate d .dead) w x v
 | .c _, _, h => Con.dead d h
 | .agg _, _, ⟨vs, e, h⟩ => ⟨vs, e, ConL.dead d h⟩
 | .fn _ _, _, ⟨vs, e, h⟩ => ⟨vs, e, ConL.dead d h⟩
 | .tup _, _, ⟨vs, e, h⟩ => ⟨vs, e, ConRL.dead d h⟩
 | .ifc _ _, _, ⟨u, e, h⟩ => ⟨u, e, ConR.dead d h⟩
theorem ConRL.dead (d : Nat) : ∀ {x : List RV} {vs : List Value}, ConRL M H w x vs → ConRL M (H ++ List.replicate d .dead) w x vs
 | [], _, h => h
 | _ :: _, _, ⟨v, r, e, h1, h2⟩ => ⟨v, r, e, ConR.dead d h1, ConRL.dead d h2⟩
end
theorem Rel.dead (d : Nat) (h : Rel E M H w) : Rel E M (H ++ List.replicate d .dead) w := by
 refine ⟨h.bel, fun id fz t sz r hr => ?_, fun id fz t sz r hr => ?_, fun id t sz r hr => ?_, fun id t sz r hr => ?_, fun i j t s r t' s' r' hi hj he => ?_, h.rlt, h.src, h.tau.keep rfl (fun _ _ _ => rfl) (fun b q hq => (h.tau.new b q hq).2) fun b q j fz t s r hq hj => (by rw [dead_at] at hj; exact h.tau.row _ _ _ _ _ _ _ hq hj)⟩
 ·rw [dead_at] at hr; exact h.low _ _ _ _ _ hr
 ·rw [dead_at] at hr
  obtain ⟨cur, c1, c2, c3, c4, c5, c6⟩ := h.row _ _ _ _ _ hr
  refine ⟨cur, c1, c2, c3, c4, c5, fun i hi o ho2 => ?_⟩
  obtain ⟨v, q1, q2, q3⟩ := c6 i hi o ho2
  refine ⟨v, q1, q2, ?_⟩
  unfold RCon at q3 ⊢
  split
  ·rename_i hb; rw [if_pos hb] at q3; exact q3.dead d
  ·rename_i hb; rw [if_neg hb] at q3; exact q3
 ·rw [dead_at] at hr; exact h.froz _ _ _ _ hr
 ·rw [dead_at] at hr; exact h.thaw _ _ _ _ hr
 ·rw [dead_at] at hi hj; exact h.inj _ _ _ _ _ _ _ _ hi hj he
end
section
variable {P : Program} {ty : Ty} {E : Env} {nt : Nat} {M M' : Mp} {σ σ' : AS} {a a' : Act} {w w' : World}
def asgP (c : Code) (t : Nat) : Prop := t ∈ asg c
theorem lk_fxT (tm : Tm) : ∀ (fx : List Nat) (t : Nat), (t ∈ fx ∧ lk (fxT tm fx) t = lk tm t) ∨ (t ∉ fx ∧ lk (fxT tm fx) t = (true, .c .junk))
 | [], t => .inr ⟨by simp, rfl⟩
 | x :: fx, t => by
  simp only [fxT, lk]
  by_cases e : x = t
  ·subst e; exact .inl ⟨List.mem_cons_self .., by rw [if_pos rfl]⟩
  ·rw [if_neg e]
   rcases lk_fxT tm fx t with ⟨h1, h2⟩ | ⟨h1, h2⟩
   ·exact .inl ⟨List.mem_cons_of_mem _ h1, h2⟩
   ·exact .inr ⟨by simp only [List.mem_cons, not_or]; exact ⟨fun e2 => e e2.symm, h1⟩, h2⟩
theorem Con.take {H : List Root} {k : Nat} {x : AV} {v : Value} (hk : k ≤ H.length) (hs : x.scp k = true) (h : Con M H w x v) : Con M (H.take k) w x v := by
 have hlen : (H.take k).length = k := by simp; omega
 cases x with
 | ptr id n i o =>
  have hid : id < k := by simpa [AV.scp] using hs
  exact ⟨⟨by omega, h.1.2⟩, fun fz t sz r hr => by rw [rootAt_take, if_pos hid] at hr; exact h.2 _ _ _ _ hr⟩
 | h id st len =>
  have hid : id < k := by simpa [AV.scp] using hs
  exact ⟨⟨by omega, h.1.2⟩, fun fz t sz r hr => by rw [rootAt_take, if_pos hid] at hr; exact h.2 _ _ _ _ hr⟩
 | junk => trivial
 | _ => exact h
theorem ConL.take {H : List Root} {k : Nat} (hk : k ≤ H.length) : ∀ {l : List AV} {vs : List Value}, scpL k l = true → ConL M H w l vs → ConL M (H.take k) w l vs
 | [], _, _, h => h
 | x :: l, _, hs, ⟨v, r, e, h1, h2⟩ => by
  simp only [scpL, Bool.and_eq_true] at hs
  exact ⟨v, r, e, h1.take hk hs.1, ConL.take hk hs.2 h2⟩
mutual
theorem ConR.take {H : List Root} {k : Nat} (hk : k ≤ H.length) : ∀ {x : RV} {v : Value}, scpR k x = true → ConR M H w x v → ConR M (H.take k) w x v
 | .c _, _, hs, h => Con.take hk hs h
 | .agg _, _, hs, ⟨vs, e, h⟩ => ⟨vs, e, ConL.take hk hs h⟩
 | .fn _ _, _, hs, ⟨vs, e, h⟩ => ⟨vs, e, ConL.take hk hs h⟩
 | .tup _, _, hs, ⟨vs, e, h⟩ => ⟨vs, e, ConRL.take hk hs h⟩
 | .ifc _ _, _, hs, ⟨u, e, h⟩ => ⟨u, e, ConR.take hk hs h⟩
theorem ConRL.take {H : List Root} {k : Nat} (hk : k ≤ H.length) : ∀ {x : List RV} {vs : List Value}, scpRL k x = true → ConRL M H w x vs → ConRL M (H.take k) w x vs
 | [], _, _, h => h
 | x :: l, _, hs, ⟨v, r, e, h1, h2⟩ => by
  simp only [scpRL, Bool.and_eq_true] at hs
  exact ⟨v, r, e, ConR.take hk hs.1 h1, ConRL.take hk hs.2 h2⟩
end
theorem scp_of {H : List Root} {x : AV} {v : Value} (h : Con M H w x v) : x.scp H.length = true := by
 cases x with
 | ptr => simpa [AV.scp] using h.1.1
 | h => simpa [AV.scp] using h.1.1
 | _ => rfl
theorem scpH_at {k : Nat} : ∀ {H : List Root}, scpH k H = true → ∀ {id : Nat} {fz : Bool} {t : TypeId} {sz : Nat} {l : List AV}, rootAt H id = .live fz t sz (.box l) → scpL k l = true
 | [], _, _, _, _, _, _, h => by cases h
 | .live fz t sz (.box l) :: H, hs, 0, _, _, _, _, h => by
  simp only [scpH, Bool.and_eq_true] at hs
  cases h; exact hs.1
 | .live _ _ _ (.box _) :: H, hs, id + 1, _, _, _, _, h => by
  simp only [scpH, Bool.and_eq_true] at hs
  exact scpH_at hs.2 h
 | .dead :: H, hs, 0, _, _, _, _, h => by cases h
 | .live _ _ _ (.ints ..) :: H, hs, 0, _, _, _, _, h => by cases h
 | .live _ _ _ (.bools ..) :: H, hs, 0, _, _, _, _, h => by cases h
 | .live _ _ _ (.gen ..) :: H, hs, 0, _, _, _, _, h => by cases h
 | .live _ _ _ (.own ..) :: H, hs, 0, _, _, _, _, h => by cases h
 | .dead :: H, hs, id + 1, _, _, _, _, h => scpH_at (H := H) hs h
 | .live _ _ _ (.ints ..) :: H, hs, id + 1, _, _, _, _, h => scpH_at (H := H) hs h
 | .live _ _ _ (.bools ..) :: H, hs, id + 1, _, _, _, _, h => scpH_at (H := H) hs h
 | .live _ _ _ (.gen ..) :: H, hs, id + 1, _, _, _, _, h => scpH_at (H := H) hs h
 | .live _ _ _ (.own _) :: H, hs, id + 1, _, _, _, _, h => by
  simp only [scpH, Bool.and_eq_true] at hs
  exact scpH_at hs.2 h
theorem scpLL_at {k : Nat} : ∀ {l : List (List AV)}, scpLL k l = true → ∀ i, scpL k (l.getD i []) = true
 | [], _, _ => rfl
 | _ :: _, h, 0 => by simp only [scpLL, Bool.and_eq_true] at h; exact h.1
 | _ :: l, h, i + 1 => by simp only [scpLL, Bool.and_eq_true] at h; exact scpLL_at (l := l) h.2 i
theorem scpH_ow {k : Nat} : ∀ {H : List Root}, scpH k H = true → ∀ {id : Nat} {fz : Bool} {t : TypeId} {sz : Nat} {l : List (List AV)}, rootAt H id = .live fz t sz (.own l) → scpLL k l = true
 | [], _, _, _, _, _, _, h => by cases h
 | .live fz t sz (.own l) :: H, hs, 0, _, _, _, _, h => by
  simp only [scpH, Bool.and_eq_true] at hs
  cases h; exact hs.1
 | .live _ _ _ (.own _) :: H, hs, id + 1, _, _, _, _, h => by
  simp only [scpH, Bool.and_eq_true] at hs
  exact scpH_ow hs.2 h
 | .live _ _ _ (.box _) :: H, hs, id + 1, _, _, _, _, h => by
  simp only [scpH, Bool.and_eq_true] at hs
  exact scpH_ow hs.2 h
 | .dead :: H, hs, 0, _, _, _, _, h => by cases h
 | .live _ _ _ (.box ..) :: H, hs, 0, _, _, _, _, h => by cases h
 | .live _ _ _ (.ints ..) :: H, hs, 0, _, _, _, _, h => by cases h
 | .live _ _ _ (.bools ..) :: H, hs, 0, _, _, _, _, h => by cases h
 | .live _ _ _ (.gen ..) :: H, hs, 0, _, _, _, _, h => by cases h
 | .dead :: H, hs, id + 1, _, _, _, _, h => scpH_ow (H := H) hs h
 | .live _ _ _ (.ints ..) :: H, hs, id + 1, _, _, _, _, h => scpH_ow (H := H) hs h
 | .live _ _ _ (.bools ..) :: H, hs, id + 1, _, _, _, _, h => scpH_ow (H := H) hs h
 | .live _ _ _ (.gen ..) :: H, hs, id + 1, _, _, _, _, h => scpH_ow (H := H) hs h
theorem nth_scp {k : Nat} : ∀ {l : List AV}, scpL k l = true → ∀ j, (nth l j).scp k = true
 | [], _, _ => rfl
 | x :: l, hs, 0 => by simp only [scpL, Bool.and_eq_true] at hs; exact hs.1
 | x :: l, hs, j + 1 => by simp only [scpL, Bool.and_eq_true] at hs; exact nth_scp hs.2 j
theorem Rel.take {H : List Root} {k : Nat} (h : Rel E M H w) (hk : k ≤ H.length) (hs : scpH k (H.take k) = true) : Rel E M (H.take k) w := by
 have lift : ∀ {id : Nat} {fz : Bool} {t : TypeId} {sz : Nat} {r : Row}, rootAt (H.take k) id = .live fz t sz r → rootAt H id = .live fz t sz r := fun {id fz t sz r} hr => by
  rw [rootAt_take] at hr
  split at hr
  ·exact hr
  ·cases hr
 refine ⟨h.bel, fun id fz t sz r hr => h.low _ _ _ _ _ (lift hr), fun id fz t sz r hr => ?_, fun id t sz r hr => h.froz _ _ _ _ (lift hr), fun id t sz r hr => h.thaw _ _ _ _ (lift hr), fun i j t s r t' s' r' hi hj => h.inj _ _ _ _ _ _ _ _ (lift hi) (lift hj), h.rlt, h.src, h.tau.keep rfl (fun _ _ _ => rfl) (fun b q hq => (h.tau.new b q hq).2) fun b q j fz t s r hq hj => h.tau.row _ _ _ _ _ _ _ hq (lift hj)⟩
 obtain ⟨cur, h1, h2, h3, h4, h5, h6⟩ := h.row _ _ _ _ _ (lift hr)
 refine ⟨cur, h1, h2, h3, h4, h5, fun i hi o ho => ?_⟩
 obtain ⟨v, k1, k2, k3⟩ := h6 i hi o ho
 refine ⟨v, k1, k2, ?_⟩
 unfold RCon at k3 ⊢
 cases r with
 | box l =>
  simp only [Row.isBox, if_true] at k3 ⊢
  exact k3.take hk (nth_scp (scpH_at hs hr) o)
 | own l =>
  simp only [Row.isBox, if_true] at k3 ⊢
  exact k3.take hk (nth_scp (scpLL_at (scpH_ow hs hr) i) o)
 | _ => exact k3
end
def Con0R (rho : Nat → Prop) (w : World) : RV → Value → Prop
 | .c a, v => Con0 rho w a v
 | .agg l, v => ∃ vs : List Value, v = .agg vs.toArray ∧ Con0L rho w l vs
 | .fn f caps, v => ∃ vs : List Value, v = .func (.func f) #[] vs.toArray ∧ Con0L rho w caps vs
 | .tup _, _ => False
 | .ifc .., _ => False
def Con0RL (rho : Nat → Prop) (w : World) : List RV → List Value → Prop
 | [], vs => vs = []
 | a :: l, vs => ∃ v r, vs = v :: r ∧ Con0R rho w a v ∧ Con0RL rho w l r
def Con0T (rho : Nat → Prop) (w : World) : RV → Value → Prop
 | .tup l, v => ∃ vs : List Value, v = .tuple vs.toArray ∧ Con0RL rho w l vs
 | x, v => Con0R rho w x v
section
variable {rho rho' : Nat → Prop} {w w' : World}
theorem Con0L.keep (hb : ∀ b, rho b → w'.heap[b]? = w.heap[b]?) (hr : ∀ b, rho b → rho' b) : ∀ {l : List AV} {vs : List Value}, Con0L rho w l vs → Con0L rho' w' l vs
 | [], _, h => h
 | _ :: _, _, ⟨v, r, h, h1, h2⟩ => ⟨v, r, h, h1.keep hb hr, Con0L.keep hb hr h2⟩
theorem Con0R.keep (hb : ∀ b, rho b → w'.heap[b]? = w.heap[b]?) (hr : ∀ b, rho b → rho' b) : ∀ {x : RV} {v : Value}, Con0R rho w x v → Con0R rho' w' x v
 | .c _, _, h => Con0.keep hb hr h
 | .agg _, _, ⟨vs, h, h1⟩ => ⟨vs, h, h1.keep hb hr⟩
 | .fn .., _, ⟨vs, h, h1⟩ => ⟨vs, h, h1.keep hb hr⟩
theorem Con0RL.keep (hb : ∀ b, rho b → w'.heap[b]? = w.heap[b]?) (hr : ∀ b, rho b → rho' b) : ∀ {l : List RV} {vs : List Value}, Con0RL rho w l vs → Con0RL rho' w' l vs
 | [], _, h => h
 | _ :: _, _, ⟨v, r, h, h1, h2⟩ => ⟨v, r, h, h1.keep hb hr, Con0RL.keep hb hr h2⟩
theorem Con0T.keep (hb : ∀ b, rho b → w'.heap[b]? = w.heap[b]?) (hr : ∀ b, rho b → rho' b) {x : RV} {v : Value} (h : Con0T rho w x v) : Con0T rho' w' x v := by
 cases x with
 | ifc => exact h.elim
 | tup l => obtain ⟨vs, h1, h2⟩ := h; exact ⟨vs, h1, h2.keep hb hr⟩
 | c a => exact Con0R.keep (x := .c a) hb hr h
 | agg l => exact Con0R.keep (x := .agg l) hb hr h
 | fn f l => exact Con0R.keep (x := .fn f l) hb hr h
variable {M : Mp} {H : List Root}
theorem Con0L.up : ∀ {l : List AV} {vs : List Value}, Con0L M.rho w l vs → ConL M H w l vs
 | [], _, h => h
 | _ :: _, _, ⟨v, r, h, h1, h2⟩ => ⟨v, r, h, Con.of0 h1, Con0L.up h2⟩
theorem Con0R.up : ∀ {x : RV} {v : Value}, Con0R M.rho w x v → ConR M H w x v
 | .c _, _, h => Con.of0 h
 | .agg _, _, ⟨vs, h, h1⟩ => ⟨vs, h, h1.up⟩
 | .fn .., _, ⟨vs, h, h1⟩ => ⟨vs, h, h1.up⟩
theorem Con0RL.up : ∀ {l : List RV} {vs : List Value}, Con0RL M.rho w l vs → ConRL M H w l vs
 | [], _, h => h
 | _ :: _, _, ⟨v, r, h, h1, h2⟩ => ⟨v, r, h, h1.up, Con0RL.up h2⟩
theorem Con0T.up {x : RV} {v : Value} (h : Con0T M.rho w x v) : ConR M H w x v := by
 cases x with
 | ifc => exact h.elim
 | tup l => obtain ⟨vs, h1, h2⟩ := h; exact ⟨vs, h1, h2.up⟩
 | c a => exact Con0R.up (x := .c a) h
 | agg l => exact Con0R.up (x := .agg l) h
 | fn f l => exact Con0R.up (x := .fn f l) h
end
def PCall (P : Program) (f : FuncId) (args : List RV) (post : RV → Prop) : Prop :=
 Enters P f ∧ ∀ (rho : Nat → Prop) (w : World) (vs : List Value), GlobIn rho w → (∀ b, rho b → b < w.heap.size) → Con0RL rho w args vs →
  Calls P f vs.toArray w fun e w' => ∃ r v rho', e = .returned v ∧ post r ∧ Con0T rho' w' r v ∧ (∀ b, rho' b → rho b ∨ (w.heap.size ≤ b ∧ b < w'.heap.size)) ∧ Below w.heap.size w w'
section
variable {P : Program} {ty : Ty} {E : Env} {nt : Nat} {M M' : Mp} {H : List Root} {σ σ' : AS} {a a' : Act} {w w' : World}
section
variable (ty)
def res1 (σ : AS) : ResultVar → Vo
 | .tmp t => ((lk σ.tm t).1 = true, (lk σ.tm t).2)
 | .cell a t => ((lk σ.tm a).1 = true ∧ (loadV (ty t) σ.H (lk σ.tm a).2).1, (loadV (ty t) σ.H (lk σ.tm a).2).2)
def resL (σ : AS) : List ResultVar → Prop × List RV
 | [] => (True, [])
 | r :: l => ((res1 ty σ r).1 ∧ (resL σ l).1, (res1 ty σ r).2 :: (resL σ l).2)
def one : List RV → RV
 | [x] => x
 | l => .tup l
end
def resSem (a : Act) : ResultVar → Sem Value
 | .tmp t => pure (a.tmps.getD t undef)
 | .cell x t => do loadVar t (← asAddr (a.tmps.getD x undef))
theorem res1_ok (hT : TyOk P ty) (h : St E nt M σ a w) {r : ResultVar} (ho : (res1 ty σ r).1) : ∃ v, ConR M σ.H w (res1 ty σ r).2 v ∧ (resSem a r).run P w = .ok v w := by
 cases r with
 | tmp t => exact ⟨_, h.tms t ho, rfl⟩
 | cell x t =>
  obtain ⟨h1, h2⟩ := ho
  have hc := h.tms x h1
  obtain ⟨v, k1, k2⟩ := load_ok hT h.rel t hc h2
  refine ⟨v, k1, ?_⟩
  have k3 := k2 w Same.refl
  show (do loadVar t (← asAddr (a.tmps.getD x undef)) : Sem Value).run P w = _
  obtain ⟨u, hu⟩ : ∃ u, u = a.tmps.getD x undef := ⟨_, rfl⟩
  rw [← hu] at k3 ⊢
  clear hu
  cases u <;> first | (simp [Instr.loadAt, Instr.sureAddr, stuck] at k3; done) | skip
  rename_i p
  cases p with
  | none => simp [Instr.loadAt, Instr.sureAddr, stuck] at k3
  | some ad =>
   simp only [Instr.loadAt, Instr.sureAddr] at k3
   simpa [asAddr] using k3
theorem resL_ok (hT : TyOk P ty) (h : St E nt M σ a w) : ∀ (rs : List ResultVar), (resL ty σ rs).1 → ∃ vs, ConRL M σ.H w (resL ty σ rs).2 vs ∧ (rs.mapM (resSem a)).run P w = .ok vs w
 | [], _ => ⟨[], rfl, rfl⟩
 | r :: rs, ho => by
  obtain ⟨v, h1, h2⟩ := res1_ok hT h ho.1
  obtain ⟨vs, h3, h4⟩ := resL_ok hT h rs ho.2
  refine ⟨v :: vs, ⟨v, vs, rfl, h1, h3⟩, ?_⟩
  rw [List.mapM_cons, Sem.run_bind, h2]
  simp only [Result.andThen]
  rw [Sem.run_bind, h4]
  rfl
theorem conRL_len : ∀ {l : List RV} {vs : List Value}, ConRL M H w l vs → vs.length = l.length
 | [], _, h => by cases h; rfl
 | _ :: _, _, ⟨v, r, e, _, h⟩ => by subst e; simp [conRL_len h]
theorem results_ok (hT : TyOk P ty) (h : St E nt M σ a w) {fn : Func} {rs : List ResultVar} (hr : fn.results.toList = rs) (ho : (resL ty σ rs).1) : ∃ v, ConR M σ.H w (one (resL ty σ rs).2) v ∧ (results fn a.tmps).run P w = .ok v w := by
 obtain ⟨vs, h1, h2⟩ := resL_ok hT h rs ho
 have hrun : (results fn a.tmps).run P w = .ok (if h : vs.toArray.size = 1 then vs.toArray[0] else .tuple vs.toArray) w := by
  have hfun : ∀ f : ResultVar → Sem Value, (∀ r, f r = resSem a r) → fn.results.mapM f = fn.results.mapM (resSem a) := fun f hf => by rw [funext hf]
  unfold results
  rw [Sem.run_bind, hfun _ (fun r => by cases r <;> rfl), Array.mapM_eq_mapM_toList, hr]
  have : ((List.toArray <$> rs.mapM (resSem a)) : Sem (Array Value)).run P w = .ok vs.toArray w := by
   rw [map_eq_pure_bind, Sem.run_bind, h2]; rfl
  rw [this]
  rfl
 refine ⟨_, ?_, hrun⟩
 have hl := conRL_len h1
 generalize (resL ty σ rs).2 = l at h1 hl
 match l, vs, h1, hl with
 | [x], [v], ⟨v', r, e, c1, c2⟩, _ => cases e; exact c1
 | [], [], h1, _ => exact ⟨[], rfl, h1⟩
 | x :: y :: l, v :: u :: vs, h1, _ =>
  have : ¬ (v :: u :: vs).toArray.size = 1 := by simp
  rw [dif_neg this]
  exact ⟨_, rfl, h1⟩
def argT : Nat → List RV → Tm
 | _, [] => []
 | k, x :: l => (k, true, x) :: argT (k + 1) l
theorem argT_lk : ∀ (l : List RV) (k t : Nat) (vs : List Value), ConRL M H w l vs → (lk (argT k l) t).1 = true ∧ (∀ v, (k ≤ t ∧ vs[t - k]? = some v) → ConR M H w (lk (argT k l) t).2 v) ∧ ((t < k ∨ k + vs.length ≤ t) → (lk (argT k l) t).2 = .c .junk)
 | [], k, t, vs, h => by cases h; exact ⟨rfl, fun v h => by simp at h, fun _ => rfl⟩
 | x :: l, k, t, _, ⟨v, r, e, h1, h2⟩ => by
  subst e
  simp only [argT, lk]
  by_cases e : k = t
  ·subst e
   rw [if_pos rfl]
   exact ⟨rfl, fun u hu => by simp at hu; subst hu; exact h1, fun h => by simp at h; omega⟩
  ·rw [if_neg e]
   obtain ⟨i1, i2, i3⟩ := argT_lk l (k + 1) t r h2
   refine ⟨i1, fun u ⟨hu1, hu2⟩ => i2 u ⟨by omega, ?_⟩, fun h => i3 (by simp at h; omega)⟩
   rw [show t - k = (t - (k + 1)) + 1 by omega] at hu2
   simpa using hu2
theorem St.enter (h : Rel E M H w) {args : List RV} {vs : List Value} (hc : ConRL M H w args vs) {n : Nat} (hn : args.length ≤ n) : St E n M ⟨argT 0 args, H⟩ ⟨vs.toArray ++ Array.replicate (n - vs.toArray.size) undef, []⟩ w := by
 have hl := conRL_len hc
 refine ⟨h, fun t ht => ?_, fun t ht => ?_, by simp; omega, rfl⟩
 ·obtain ⟨i1, i2, i3⟩ := argT_lk args 0 t vs hc
  show ConR M H w (lk (argT 0 args) t).2 ((vs.toArray ++ Array.replicate (n - vs.toArray.size) undef).getD t undef)
  by_cases hlt : t < vs.length
  ·have : (vs.toArray ++ Array.replicate (n - vs.toArray.size) undef).getD t undef = vs[t] := by
    rw [Array.getD_eq_getD_getElem?, Array.getElem?_append_left (by simpa using hlt)]
    simp [hlt]
   rw [this]
   exact i2 _ ⟨Nat.zero_le _, by simp [hlt]⟩
  ·rw [i3 (.inr (by omega))]; trivial
 ·obtain ⟨i1, -⟩ := argT_lk args 0 t vs hc
  have ht' : (lk (argT 0 args) t).1 = false := ht
  rw [i1] at ht'; cases ht'
def AV.scal : AV → Bool
 | .int .. | .bool _ | .flt _ | .str _ | .nilp | .nils => true
 | _ => false
def scalL : List AV → Bool
 | [] => true
 | a :: l => a.scal && scalL l
def scalR : RV → Bool
 | .c a => a.scal
 | .agg l => scalL l
 | _ => false
def scalRL : List RV → Bool
 | [] => true
 | a :: l => scalR a && scalRL l
def scalT : RV → Bool
 | .tup l => scalRL l
 | x => scalR x
def lent (M : Mp) (H : List Root) (b : Nat) : Prop := M.rho b ∨ ∃ id fz ty sz r, rootAt H id = .live fz ty sz r ∧ M.phi id = b
theorem fr_con {M : Mp} {H : List Root} {w : World} {rho : Nat → Prop} {x : AV} {v : Value} (hx : x.fr = true) (hr : ∀ b, M.rho b → rho b) (h : Con M H w x v) : Con0 rho w x v := by
 cases x <;> first | (cases hx; done) | exact Con0.keep (fun _ _ => rfl) hr h
def kB (P : Program) (ty : Ty) (t : TypeId) : TyK → Bool
 | .i k => match P.underlying t with
  | some (.int k') => decide (k = k')
  | _ => false
 | .b => match P.underlying t with
  | some .bool => true
  | _ => false
 | .str => match P.underlying t with
  | some .string => true
  | _ => false
 | .sc => match P.underlying t with
  | some (.struct _) => false
  | some (.array ..) => false
  | some _ => true
  | none => false
 | .st fs => match P.underlying t with
  | some (.struct fields) => decide (fields.toList.map (fun f => (f.offset, P.cellsOf f.type)) = fs) && fields.toList.all (fun f => (P.info? f.type).isSome)
  | _ => false
 | .ar n esz => match P.underlying t with
  | some (.array n' e) => decide (n = n') && decide (P.cellsOf e = esz) && (P.info? e).isSome
  | _ => false
 | .sl e => match P.underlying t with
  | some (.slice e') => decide (e = e') && (match (ty e).k with | .no => false | _ => true)
  | _ => false
 | .no => true
def tyB (P : Program) (ty : Ty) (t : TypeId) : Bool :=
 kB P ty t (ty t).k && (match (ty t).k with
  | .no => true
  | _ => match P.info? t with
   | some i => decide (i.size = (ty t).sz) && decide (i.bytes = (ty t).bytes) && (match i.zero with
    | some z => zvL (ty t).zero z.cells.toList && decide (z.cells.size = (ty t).sz)
    | none => false)
   | none => false)
theorem kB_ok {t : TypeId} : ∀ {k : TyK}, kB P ty t k = true → kOk P ty t k
 | .i k, h => by
  simp only [kB] at h
  split at h
  ·rename_i k' hu; simp only [decide_eq_true_eq] at h; subst h; exact hu
  ·cases h
 | .b, h => by
  simp only [kB] at h
  split at h
  ·rename_i hu; exact hu
  ·cases h
 | .str, h => by
  simp only [kB] at h
  split at h
  ·rename_i hu; exact hu
  ·cases h
 | .sc, h => by
  simp only [kB] at h
  split at h
  ·cases h
  ·cases h
  ·rename_i d h1 h2 hu
   refine ⟨d, hu, ?_⟩
   cases d <;> first | trivial | (exact h1 _ rfl) | (exact h2 _ _ rfl)
  ·cases h
 | .st fs, h => by
  simp only [kB] at h
  split at h
  ·rename_i fields hu
   simp only [Bool.and_eq_true, decide_eq_true_eq, List.all_eq_true] at h
   exact ⟨fields, hu, h.1, h.2⟩
  ·cases h
 | .ar n esz, h => by
  simp only [kB] at h
  split at h
  ·rename_i n' e hu
   simp only [Bool.and_eq_true, decide_eq_true_eq] at h
   obtain ⟨⟨rfl, h2⟩, h3⟩ := h
   exact ⟨e, hu, h2, h3⟩
  ·cases h
 | .sl e, h => by
  simp only [kB] at h
  split at h
  ·rename_i e' hu
   simp only [Bool.and_eq_true, decide_eq_true_eq] at h
   obtain ⟨rfl, h2⟩ := h
   exact ⟨hu, by split at h2 <;> first | (cases h2; done) | (split <;> simp_all)⟩
  ·cases h
 | .no, _ => trivial
theorem tyB_ok {t : TypeId} (h : tyB P ty t = true) : TyOk1 P ty t := by
 unfold tyB at h
 rw [Bool.and_eq_true] at h
 obtain ⟨h1, h2⟩ := h
 refine ⟨kB_ok h1, ?_⟩
 cases hk : (ty t).k
 case no => trivial
 all_goals
  rw [hk] at h2
  simp only at h2
  split at h2
  ·rename_i i hi
   simp only [Bool.and_eq_true, decide_eq_true_eq] at h2
   obtain ⟨⟨h3, h4⟩, h5⟩ := h2
   split at h5
   ·rename_i z hz
    simp only [Bool.and_eq_true, decide_eq_true_eq] at h5
    exact ⟨i, z, hi, h3, h4, hz, h5.1, h5.2⟩
   ·cases h5
  ·cases h2
theorem tyOk_of {n : Nat} (h : (List.range n).all (tyB P ty) = true) (h2 : ∀ t, n ≤ t → (ty t).k = .no) : TyOk P ty := by
 intro t
 by_cases e : t < n
 ·exact tyB_ok (List.all_eq_true.1 h t (List.mem_range.2 e))
 ·exact ⟨by rw [h2 t (Nat.le_of_not_lt e)]; trivial, by rw [h2 t (Nat.le_of_not_lt e)]; trivial⟩
end
section
variable {P : Program} {ty : Ty} {ord : Nat → List Nat × Nat × Option Nat} {Q : Exit → AS → Prop} {K : AS → Prop} {σ : AS} {nf : Nat} {ops : Array Oper} {o : Oper} {l : List Oper} {pu : Pu} {tm : Tm} {rd : Operand → Bool × RV} {H : List Root}
theorem callK_congr {pu : Pu} {f : FuncId} {a a' : List RV} {H H' : List Root} {K : RV → List Root → Prop} (h : a = a') (h2 : H = H') : callK P pu f a H K = callK P pu f a' H' K := by rw [h, h2]
theorem effG_congr {g g' : Bool} {A B : Prop} (h : g = g') : effG g A B = effG g' A B := by rw [h]
def putV (g : Bool) (tm : Tm) (H : List Root) (d : Option Nat) (q : Vo) (K : AS → Prop) : Prop := (g = true → q.1) ∧ K ⟨putT tm g d q.2, H⟩
section
variable {d : Option Nat} {t : TypeId} {p : String} {af : Array Edge} {gd : Option (Nat × Bool)}
end
end
section
variable {n : Nat} {ids : List Nat}
end
attribute [congr] callK_congr effG_congr
def tyM : Nat → TyE
 | 2 => ⟨1, 8, .i .i64, [.int .i64 0], none⟩
 | 3 => ⟨1, 8, .i .i64, [.int .i64 0], none⟩
 | 4 => ⟨1, 1, .b, [.bool false], none⟩
 | 5 => ⟨1, 1, .i .u8, [.int .u8 0], none⟩
 | 6 => ⟨1, 1, .i .u8, [.int .u8 0], none⟩
 | 7 => ⟨4, 24, .st [(0, 1), (1, 1), (2, 1), (3, 1)], [.int .i64 0, .int .i64 0, .bool false, .int .u8 0], none⟩
 | 8 => ⟨4, 24, .st [(0, 1), (1, 1), (2, 1), (3, 1)], [.int .i64 0, .int .i64 0, .bool false, .int .u8 0], none⟩
 | 9 => ⟨1, 16, .str, [.str ⟨#[]⟩], none⟩
 | 10 => ⟨1, 16, .str, [.str ⟨#[]⟩], none⟩
 | 11 => ⟨1, 16, .str, [.str ⟨#[]⟩], none⟩
 | 12 => ⟨1, 8, .i .u64, [.int .u64 0], none⟩
 | 13 => ⟨2, 24, .st [(0, 1), (1, 1)], [.str ⟨#[]⟩, .int .u64 0], none⟩
 | 14 => ⟨2, 24, .st [(0, 1), (1, 1)], [.str ⟨#[]⟩, .int .u64 0], none⟩
 | 15 => ⟨1, 8, .sc, [.nilp], none⟩
 | 16 => ⟨1, 8, .sc, [.nilp], none⟩
 | 17 => ⟨1, 8, .sc, [.nilp], none⟩
 | 18 => ⟨1, 8, .st [(0, 1)], [.nilp], none⟩
 | 19 => ⟨1, 8, .st [(0, 1)], [.nilp], none⟩
 | 21 => ⟨1, 4, .i .i32, [.int .i32 0], none⟩
 | 22 => ⟨2, 16, .st [(0, 1), (1, 1)], [.int .i64 0, .int .i64 0], none⟩
 | 23 => ⟨2, 16, .st [(0, 1), (1, 1)], [.int .i64 0, .int .i64 0], none⟩
 | 24 => ⟨1, 24, .sl 52, [.nils], none⟩
 | 25 => ⟨1, 24, .sl 54, [.nils], none⟩
 | 26 => ⟨1, 24, .sl 42, [.nils], none⟩
 | 27 => ⟨9, 136, .st [(0, 1), (1, 2), (3, 2), (5, 1), (6, 1), (7, 1), (8, 1)], [.int .i64 0, .int .i64 0, .int .i64 0, .int .i64 0, .int .i64 0, .nils, .nils, .nils, .nils], none⟩
 | 28 => ⟨9, 136, .st [(0, 1), (1, 2), (3, 2), (5, 1), (6, 1), (7, 1), (8, 1)], [.int .i64 0, .int .i64 0, .int .i64 0, .int .i64 0, .int .i64 0, .nils, .nils, .nils, .nils], none⟩
 | 29 => ⟨1, 8, .i .i64, [.int .i64 0], none⟩
 | 30 => ⟨1, 8, .i .u64, [.int .u64 0], none⟩
 | 31 => ⟨1, 8, .i .u64, [.int .u64 0], none⟩
 | 32 => ⟨3, 24, .st [(0, 1), (1, 1), (2, 1)], [.int .i64 0, .int .i64 0, .int .u64 0], none⟩
 | 33 => ⟨3, 24, .st [(0, 1), (1, 1), (2, 1)], [.int .i64 0, .int .i64 0, .int .u64 0], none⟩
 | 35 => ⟨1, 8, .i .i64, [.int .i64 0], none⟩
 | 40 => ⟨1, 24, .sl 3, [.nils], none⟩
 | 42 => ⟨1, 24, .sl 2, [.nils], none⟩
 | 43 => ⟨7, 104, .st [(0, 1), (1, 1), (2, 1), (3, 1), (4, 1), (5, 1), (6, 1)], [.int .i64 0, .nils, .int .i64 0, .int .i64 0, .int .i64 0, .nils, .nils], none⟩
 | 44 => ⟨7, 104, .st [(0, 1), (1, 1), (2, 1), (3, 1), (4, 1), (5, 1), (6, 1)], [.int .i64 0, .nils, .int .i64 0, .int .i64 0, .int .i64 0, .nils, .nils], none⟩
 | 51 => ⟨2, 16, .st [(0, 1), (1, 1)], [.int .i64 0, .int .i64 0], none⟩
 | 52 => ⟨2, 16, .st [(0, 1), (1, 1)], [.int .i64 0, .int .i64 0], none⟩
 | 53 => ⟨4, 32, .st [(0, 1), (1, 1), (2, 1), (3, 1)], [.int .i64 0, .int .i64 0, .int .i64 0, .int .i64 0], none⟩
 | 54 => ⟨4, 32, .st [(0, 1), (1, 1), (2, 1), (3, 1)], [.int .i64 0, .int .i64 0, .int .i64 0, .int .i64 0], none⟩
 | 59 => ⟨1, 24, .sl 31, [.nils], none⟩
 | 60 => ⟨11, 184, .st [(0, 9), (9, 1), (10, 1)], [.int .i64 0, .int .i64 0, .int .i64 0, .int .i64 0, .int .i64 0, .nils, .nils, .nils, .nils, .nils, .nils], none⟩
 | 61 => ⟨11, 184, .st [(0, 9), (9, 1), (10, 1)], [.int .i64 0, .int .i64 0, .int .i64 0, .int .i64 0, .int .i64 0, .nils, .nils, .nils, .nils, .nils, .nils], none⟩
 | 63 => ⟨1, 24, .sl 29, [.nils], none⟩
 | 66 => ⟨1, 24, .sl 33, [.nils], none⟩
 | 68 => ⟨1, 24, .sl 80, [.nils], none⟩
 | 69 => ⟨2, 32, .st [(0, 1), (1, 1)], [.int .i64 0, .nils], none⟩
 | 70 => ⟨2, 32, .st [(0, 1), (1, 1)], [.int .i64 0, .nils], none⟩
 | 73 => ⟨3, 56, .st [(0, 1), (1, 1), (2, 1)], [.nils, .int .i64 0, .nils], none⟩
 | 74 => ⟨3, 56, .st [(0, 1), (1, 1), (2, 1)], [.nils, .int .i64 0, .nils], none⟩
 | 79 => ⟨4, 32, .st [(0, 1), (1, 1), (2, 1), (3, 1)], [.int .i64 0, .int .i64 0, .int .i64 0, .int .i64 0], none⟩
 | 80 => ⟨4, 32, .st [(0, 1), (1, 1), (2, 1), (3, 1)], [.int .i64 0, .int .i64 0, .int .i64 0, .int .i64 0], none⟩
 | 87 => ⟨1, 24, .sl 119, [.nils], none⟩
 | 88 => ⟨1, 24, .sl 121, [.nils], none⟩
 | 89 => ⟨1, 24, .sl 5, [.nils], none⟩
 | 90 => ⟨11, 112, .st [(0, 1), (1, 1), (2, 1), (3, 1), (4, 1), (5, 1), (6, 1), (7, 1), (8, 1), (9, 1), (10, 1)], [.int .u8 0, .int .u8 0, .int .u8 0, .int .u8 0, .int .u8 0, .nils, .nils, .nils, .nils, .bool false, .bool false], none⟩
 | 91 => ⟨11, 112, .st [(0, 1), (1, 1), (2, 1), (3, 1), (4, 1), (5, 1), (6, 1), (7, 1), (8, 1), (9, 1), (10, 1)], [.int .u8 0, .int .u8 0, .int .u8 0, .int .u8 0, .int .u8 0, .nils, .nils, .nils, .nils, .bool false, .bool false], none⟩
 | 96 => ⟨2, 48, .ar 2 1, [.nils, .nils], none⟩
 | 105 => ⟨1, 24, .sl 4, [.nils], none⟩
 | 111 => ⟨1, 8, .sc, [.nilp], none⟩
 | 112 => ⟨1, 24, .sl 158, [.nils], none⟩
 | 113 => ⟨7, 136, .st [(0, 2), (2, 3), (5, 1), (6, 1)], [.int .i64 0, .nils, .nils, .int .i64 0, .nils, .nils, .nils], none⟩
 | 114 => ⟨7, 136, .st [(0, 2), (2, 3), (5, 1), (6, 1)], [.int .i64 0, .nils, .nils, .int .i64 0, .nils, .nils, .nils], none⟩
 | 118 => ⟨2, 2, .st [(0, 1), (1, 1)], [.int .u8 0, .int .u8 0], none⟩
 | 119 => ⟨2, 2, .st [(0, 1), (1, 1)], [.int .u8 0, .int .u8 0], none⟩
 | 120 => ⟨4, 4, .st [(0, 1), (1, 1), (2, 1), (3, 1)], [.int .u8 0, .int .u8 0, .int .u8 0, .int .u8 0], none⟩
 | 121 => ⟨4, 4, .st [(0, 1), (1, 1), (2, 1), (3, 1)], [.int .u8 0, .int .u8 0, .int .u8 0, .int .u8 0], none⟩
 | 124 => ⟨1, 24, .sl 128, [.nils], none⟩
 | 125 => ⟨2, 32, .st [(0, 1), (1, 1)], [.int .i64 0, .nils], none⟩
 | 126 => ⟨2, 32, .st [(0, 1), (1, 1)], [.int .i64 0, .nils], none⟩
 | 127 => ⟨3, 24, .st [(0, 1), (1, 1), (2, 1)], [.int .i64 0, .int .i64 0, .int .i64 0], none⟩
 | 128 => ⟨3, 24, .st [(0, 1), (1, 1), (2, 1)], [.int .i64 0, .int .i64 0, .int .i64 0], none⟩
 | 129 => ⟨2, 48, .st [(0, 1), (1, 1)], [.nils, .nils], none⟩
 | 130 => ⟨2, 48, .st [(0, 1), (1, 1)], [.nils, .nils], none⟩
 | 136 => ⟨1, 8, .i .u64, [.int .u64 0], none⟩
 | 139 => ⟨1, 24, .sl 178, [.nils], none⟩
 | 148 => ⟨1, 8, .sc, [.nilp], none⟩
 | 151 => ⟨2, 16, .st [(0, 1), (1, 1)], [.int .i64 0, .int .i64 0], none⟩
 | 152 => ⟨2, 16, .st [(0, 1), (1, 1)], [.int .i64 0, .int .i64 0], none⟩
 | 157 => ⟨2, 16, .st [(0, 1), (1, 1)], [.int .i64 0, .bool false], none⟩
 | 158 => ⟨2, 16, .st [(0, 1), (1, 1)], [.int .i64 0, .bool false], none⟩
 | 167 => ⟨1, 8, .i .i64, [.int .i64 0], none⟩
 | 175 => ⟨1, 4, .i .u32, [.int .u32 0], none⟩
 | 177 => ⟨2, 16, .st [(0, 1), (1, 1)], [.int .i64 0, .bool false], none⟩
 | 178 => ⟨2, 16, .st [(0, 1), (1, 1)], [.int .i64 0, .bool false], none⟩
 | 182 => ⟨1, 24, .sl 152, [.nils], none⟩
 | 183 => ⟨1, 24, .sl 152, [.nils], none⟩
 | 184 => ⟨1, 24, .st [(0, 1)], [.nils], none⟩
 | 185 => ⟨1, 24, .st [(0, 1)], [.nils], none⟩
 | 187 => ⟨1, 8, .sc, [.nilp], none⟩
 | 191 => ⟨1, 8, .i .u64, [.int .u64 0], none⟩
 | 195 => ⟨1, 8, .sc, [.nilp], none⟩
 | 209 => ⟨1, 8, .sc, [.nilp], none⟩
 | 213 => ⟨4, 40, .st [(0, 1), (1, 1), (2, 1), (3, 1)], [.nilp, .nilp, .nilp, .str ⟨#[]⟩], none⟩
 | 214 => ⟨4, 40, .st [(0, 1), (1, 1), (2, 1), (3, 1)], [.nilp, .nilp, .nilp, .str ⟨#[]⟩], none⟩
 | 215 => ⟨0, 0, .ar 0 1, [], none⟩
 | 216 => ⟨0, 0, .st [(0, 0)], [], none⟩
 | 217 => ⟨0, 0, .st [(0, 0)], [], none⟩
 | 218 => ⟨1, 1, .i .u8, [.int .u8 0], none⟩
 | 219 => ⟨1, 1, .i .u8, [.int .u8 0], none⟩
 | 221 => ⟨1, 8, .sc, [.nilp], none⟩
 | 222 => ⟨1, 4, .i .i32, [.int .i32 0], none⟩
 | 223 => ⟨1, 4, .i .i32, [.int .i32 0], none⟩
 | _ => ⟨0, 0, .no, [], none⟩
def ty : Ty := fun t => if t < 228 then tyM t else ⟨0, 0, .no, [], none⟩
theorem ty_ok : TyOk Tryz.prog ty := tyOk_of (n := 228) (by kernel_rfl) (fun t h => by
 show (if t < 228 then tyM t else _).k = .no
 rw [if_neg (Nat.not_lt.2 h)])
end Go.Proofs.YtbfbjghfcajddaaGreatDoor.Ab
