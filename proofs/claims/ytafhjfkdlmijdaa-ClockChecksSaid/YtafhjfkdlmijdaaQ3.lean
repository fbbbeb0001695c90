/- Texts of the proof, joined: A6, A7, AR, A8, A9. -/
import Derived.Test.YtafhjfkdlmijdaaR1
set_option linter.all false
set_option maxRecDepth 100000
set_option maxHeartbeats 6400000
namespace Go.Proofs.Ytafhjfkdlmijdaa.Ab
open Go.RowKit
section
variable {P : Program} {ty : Ty} {E : Env} {nt : Nat} {M M' : Mp} {H H' : List Root} {σ : AS} {a : Act} {w w' : World}
theorem zi7.below {g : Option Nat} (h : Below w.heap.size w w') : zi7 g w w' := ⟨h.size, fun b hb _ => h.block b hb⟩
theorem jgb7 (tm : Tm) (g : Bool) (d t : Nat) (v : RV) : lk (il7 tm g (some d) v) t = if d = t then (g, v) else lk tm t := rfl
theorem zs7 (a : Act) (d t : Nat) (v : Value) (hd : d < a.tmps.size) : (a.put (some d) v).tmps.getD t undef = if d = t then v else a.tmps.getD t undef := by
 simp only [Act.put, Array.getD_eq_getD_getElem?, Array.getElem?_setIfInBounds]
 by_cases e : d = t
 ·subst e; simp [hd]
 ·simp [e]
theorem St.put (h : St E nt M σ a w) (hr : Rel E M' H' w') (hk : Kp M σ.H w M' H' w') {d : Option Nat} (hd : ∀ t, d = some t → t < nt) {r : RV} {v : Value} (hv : de7 M' H' w' r v) : St E nt M' ⟨il7 σ.tm true d r, H'⟩ (a.put d v) w' := by
 cases d with
 | none => exact ⟨hr, fun t ht => hk.R (h.tms t ht), h.off, h.sz, h.df⟩
 | some d =>
  have hd' : d < a.tmps.size := by rw [h.sz]; exact hd d rfl
  refine ⟨hr, fun t ht => ?_, fun t ht => ?_, by simp [Act.put, h.sz], h.df⟩
  ·show de7 M' H' w' (lk (il7 σ.tm true (some d) r) t).2 _
   have ht' : (lk (il7 σ.tm true (some d) r) t).1 = true := ht
   rw [zs7 _ _ _ _ hd', jgb7] at *
   by_cases e : d = t
   ·rw [if_pos e, if_pos e]; exact hv
   ·rw [if_neg e] at ht' ⊢
    rw [if_neg e]
    exact hk.R (h.tms t ht')
  ·have ht' : (lk (il7 σ.tm true (some d) r) t).1 = false := ht
   rw [jgb7] at ht'
   rw [zs7 _ _ _ _ hd']
   by_cases e : d = t
   ·rw [if_pos e] at ht'; cases ht'
   ·rw [if_neg e] at ht' ⊢
    exact h.off t ht'
theorem St.putV (h : St E nt M σ a w) {d : Option Nat} (hd : ∀ t, d = some t → t < nt) {g : Bool} {r : RV} {v : Value} (hv : g = true → de7 M σ.H w r v) (hn : g = false → v = undef) : St E nt M ⟨il7 σ.tm g d r, σ.H⟩ (a.put d v) w := by
 cases g with
 | true => exact h.put h.rel (Kp.refl _ _ _) hd (hv rfl)
 | false =>
  obtain rfl := hn rfl
  cases d with
  | none => exact ⟨h.rel, h.tms, h.off, h.sz, h.df⟩
  | some d =>
   have hd' : d < a.tmps.size := by rw [h.sz]; exact hd d rfl
   refine ⟨h.rel, fun t ht => ?_, fun t ht => ?_, by simp [Act.put, h.sz], h.df⟩
   ·have ht' : (lk (il7 σ.tm false (some d) r) t).1 = true := ht
    show de7 M σ.H w (lk (il7 σ.tm false (some d) r) t).2 _
    rw [zs7 _ _ _ _ hd', jgb7] at *
    by_cases e : d = t
    ·rw [if_pos e] at ht'; cases ht'
    ·rw [if_neg e] at ht' ⊢
     rw [if_neg e]
     exact h.tms t ht'
   ·have ht' : (lk (il7 σ.tm false (some d) r) t).1 = false := ht
    rw [jgb7] at ht'
    rw [zs7 _ _ _ _ hd']
    by_cases e : d = t
    ·rw [if_pos e]
    ·rw [if_neg e] at ht' ⊢
     exact h.off t ht'
theorem ojb7 : ∀ (l : List Oper) (j : Nat), qzb7 l j = l[j]?
 | [], _ => rfl
 | _ :: _, 0 => rfl
 | _ :: l, j + 1 => by simp only [qzb7, List.getElem?_cons_succ]; exact ojb7 l j
theorem qs7 (h : St E nt M σ a w) {ops : Array Oper} {gd : Option (Nat × Bool)} {g : Bool} (hg : guardOf σ.tm ops gd = some g) {o : Oper} (ho : o.guard = gd) : Region.wanted o (yielded ops a.tmps) = g := by
 unfold Region.wanted
 rw [ho]
 unfold guardOf at hg
 split at hg
 ·cases hg; rfl
 ·rename_i j want
  split at hg
  ·rename_i o2 ho2
   rw [ojb7, Array.getElem?_toList] at ho2
   split at hg
   ·rename_i d hd
    split at hg
    ·rename_i g2 b hlk
     simp only [Option.some.injEq] at hg
     subst hg
     cases g2 with
     | true =>
      have hc := h.tms d (by rw [hlk])
      rw [hlk] at hc
      have hv : a.tmps.getD d undef = .bool b := hc
      have hq : a.tmps[d]? = some (.bool b) := by
       rw [Array.getD_eq_getD_getElem?] at hv
       cases hh : a.tmps[d]? with
       | none => rw [hh] at hv; simp [undef] at hv
       | some u => rw [hh] at hv; simpa using hv
      simp only [yielded, ho2, Option.bind_some, hd, hq]
      cases b <;> cases want <;> rfl
     | false =>
      have hv := h.off d (by rw [hlk])
      have : yielded ops a.tmps j = none := by
       simp only [yielded, ho2, Option.bind_some, hd]
       rw [Array.getD_eq_getD_getElem?] at hv
       cases hh : a.tmps[d]? with
       | none => rfl
       | some u =>
             rw [hh] at hv; have hv' : u = undef := by simpa using hv
             subst hv'; rfl
      simp [this]
    ·cases hg
   ·cases hg
  ·cases hg
theorem val_ok (hT : cj7 P ty) (h : St E nt M σ a w) {ops : Array Oper} {o : Oper} (hv : isV o.op = true) (hd : ∀ t, o.dst = some t → t < nt) {K : AS → Prop} {dd : Option Nat} (hw : rob7 ty (guardOf σ.tm ops o.guard) dd σ o K) :
  ∃ σ' v, K σ' ∧ σ'.H = σ.H ∧ St E nt M σ' (a.put o.dst v) w ∧ (Region.wanted o (yielded ops a.tmps) = true → ∀ w', Same M σ.H w w' → (execOp a.eval o).run P w' = .ok (.value v) w') ∧ (Region.wanted o (yielded ops a.tmps) = false → v = undef) := by
 unfold rob7 at hw
 split at hw
 ·exact hw.elim
 ·rename_i g hg
  obtain ⟨h1, -, h2, h3⟩ := hw
  have hwt := qs7 h hg rfl
  rw [hwt]
  cases g with
  | true =>
   obtain ⟨v, v1, v2⟩ := gsb7 hT h hv rfl h1 (h2 rfl)
   exact ⟨_, v, h3, rfl, h.putV hd (fun _ => v1) (fun e => by cases e), fun _ => v2, (fun e => by cases e)⟩
  | false => exact ⟨_, undef, h3, rfl, h.putV hd (fun e => by cases e) (fun _ => rfl), (fun e => by cases e), fun _ => rfl⟩
theorem Same.refl : Same M H w w := fun _ _ => rfl
structure Stp (M : Mp) (σ : AS) (a : Act) (w : World) (M' : Mp) (σ' : AS) (a' : Act) (w' : World) (ds : Nat → Prop) : Prop where
 len : σ.H.length ≤ σ'.H.length
 kp : Kp M σ.H w M' σ'.H w'
 tm : ∀ t, ¬ ds t → a'.tmps.getD t undef = a.tmps.getD t undef
theorem nj7 (a : Act) (d : Option Nat) (v : Value) (t : Nat) (h : ¬ d = some t) : (a.put d v).tmps.getD t undef = a.tmps.getD t undef := by
 cases d with
 | none => rfl
 | some d =>
  have hne : ¬ d = t := fun e => h (by rw [e])
  simp only [Act.put, Array.getD_eq_getD_getElem?, Array.getElem?_setIfInBounds, if_neg hne]
theorem kbb7 : ∀ {l : List RV} {vs : List Value} {m : List RV} {us : List Value}, qe7 M H w l vs → qe7 M H w m us → qe7 M H w (l ++ m) (vs ++ us)
 | [], _, _, _, h, k => by cases h; exact k
 | x :: l, _, _, _, ⟨v, r, e, h1, h2⟩, k => by subst e; exact ⟨v, r ++ _, rfl, h1, kbb7 h2 k⟩
theorem rbb7 : ∀ {l : List AV} {vs : List Value}, wf7 M H w l vs → qe7 M H w (l.map .c) vs
 | [], _, h => h
 | _ :: _, _, ⟨v, r, e, h1, h2⟩ => ⟨v, r, e, h1, rbb7 h2⟩
theorem krb7 (h : St E nt M σ a w) : ∀ (l : List Operand), gOk true (rgs σ.rd l) → qe7 M σ.H w (rds σ.rd l) (l.map a.eval)
 | [], _ => rfl
 | x :: l, hg => ⟨_, _, rfl, h.rd (hg.1 rfl), krb7 h l hg.2⟩
theorem tm7 {x : Sem Value} {v : Value} {w w' : World} (h : x.run P w = .ok v w') : ((do pure (Next.value (← x))) : Sem Next).run P w = .ok (.value v) w' := by
 rw [Sem.run_bind, h]; rfl
theorem tcb7 {x : Sem Unit} {w w' : World} (h : x.run P w = .ok () w') : ((do x; pure Next.skip) : Sem Next).run P w = .ok .skip w' := by
 rw [Sem.run_bind, h]; rfl
theorem mz7 : ∀ {l : List AV} {vs : List Value}, njL l = true → wf7 M H w l vs → ∀ v ∈ vs, v.oneCell' = true
 | [], _, _, h, v, hv => by cases h; cases hv
 | x :: l, _, hn, ⟨u, r, e, h1, h2⟩, v, hv => by
  subst e
  simp only [njL, Bool.and_eq_true] at hn
  rcases List.mem_cons.1 hv with rfl | hv
  ·exact (Con.one (σ := ⟨[], H⟩) hn.1 h1).1
  ·exact mz7 hn.2 h2 v hv
theorem Enters.run {f : FuncId} (h : Enters P f) (args : Array Value) (w : World) : (callFunc f args).run P w = .ok (.enter f args) w := by
 obtain ⟨fn, c, h1, h2, h3⟩ := h
 have h4 : fn.name ≠ "runtime.NumGoroutine" := by simpa using h2
 simp [callFunc, h1, h4, h3]
theorem btb7 : ∀ {l : List AV}, bh7 H l → ∀ {vs : List Value} {rho : Nat → Prop}, se7 rho w (zr7 H l) vs → ∀ v ∈ vs, v.oneCell' = true := by
 intro l hf vs rho hc v hv
 obtain ⟨j, hj, rfl⟩ := List.getElem_of_mem hv
 have hl := hc.len
 rw [ps7] at hl
 exact (hc.get j _ (List.getElem?_eq_getElem hj)).one (wg7 hf j (by omega))
theorem ykb7 {x : RV} {v : Value} (hf : bh7 H (xc7 x)) (h0 : (xc7 x).length ≠ 0) (h : de7 M H w x v) : wf7 M H w (xc7 x) v.cells.toList := by
 refine fm7 (σ := ⟨[], H⟩) ?_ h0 h
 have : ∀ l : List AV, bh7 H l → njL l = true := by
  intro l
  induction l with
  | nil => intro _; rfl
  | cons b l ih =>
   intro hh
   cases b with
   | h => simp only [njL, AV.nj, Bool.true_and]; exact ih hh.2
   | ptr => exact hh.elim
   | junk => exact hh.elim
   | ws => exact hh.elim
   | wu => exact hh.elim
   | wp => exact hh.elim
   | int => simp only [njL, AV.nj, Bool.true_and]; exact ih hh
   | bool => simp only [njL, AV.nj, Bool.true_and]; exact ih hh
   | flt => simp only [njL, AV.nj, Bool.true_and]; exact ih hh
   | str => simp only [njL, AV.nj, Bool.true_and]; exact ih hh
   | nilp => simp only [njL, AV.nj, Bool.true_and]; exact ih hh
   | nils => simp only [njL, AV.nj, Bool.true_and]; exact ih hh
   | sl => simp only [njL, AV.nj, Bool.true_and]; exact ih hh
   | rp => simp only [njL, AV.nj, Bool.true_and]; exact ih hh
 exact this _ hf
theorem uwb7 (hT : cj7 P ty) (h : St E nt M σ a w) {pu : Pu} {o : Oper} (hd : ∀ t, o.dst = some t → t < nt) (hgs : gOk true (dhb7 σ.rd o.op)) {K : AS → Prop} (he : eff P ty pu σ.tm σ.rd σ.H o K) {next : Act → World → Prop} {Q : Exit → Act → World → Prop}
  (hn : ∀ M' σ' a' w', St E nt M' σ' a' w' → (∀ g, pu = some g → zi7 (g.map M.phi) w w') → Stp M σ a w M' σ' a' w' (fun t => o.dst = some t) → K σ' → next a' w') : o.wp P a w next Q := by
 obtain ⟨dst, op, type, pos, after, guard⟩ := o
 unfold eff at he
 simp only at he hd
 have hz : ∀ {t : TypeId}, 0 < (ty t).sz → (match (ty t).k with | .no => False | _ => True) → (sizeOf t).run P w = .ok (ty t).sz w := fun _ hk => ok7 hT hk w
 cases op <;> simp only at he <;> try exact he.elim
 case alloc t =>
  obtain ⟨⟨h0, hk⟩, he⟩ := he
  obtain ⟨i, z, hi, hzz, hs, -, hzs, hzl, hzc⟩ := mk7 (M := M) (σ := σ) (w := w) (P := P) hT (t := t) hk
  have hl : (ty t).zero.length = (ty t).sz := by have := ry7 hzl; simp at this; omega
  obtain ⟨r1, r2⟩ := urb7 h.rel (vs := z.cells) t hzc (fun v hv => by
   obtain ⟨j, hj, rfl⟩ := List.getElem_of_mem hv
   exact vlb7 (qy7 hzl j _ (List.getElem?_eq_getElem hj))) (by omega)
  rw [hl] at r1 r2
  unfold Oper.wp
  have hrun : (execOp a.eval ⟨dst, .alloc t, type, pos, after, guard⟩).run P w = .ok (.value (.pointer (some ⟨w.heap.size, 0, none⟩))) (w.alloc (.cells z.cells t)) := by
   refine tm7 (x := Instr.alloc t true (.tuple #[])) ?_
   simp [Instr.alloc, zeroValue, typeInfo, hi, hzz, newVar, newRow]
  rw [hrun]
  exact hn _ _ _ _ (h.put (r := .c (.ptr σ.H.length 1 0 0)) r1 r2 hd (kkb7 (w' := w))) (fun _ _ => zi7.below ((Below.refl _ _).alloc (Nat.le_refl _) _)) ⟨by simp, r2, nj7 _ _ _⟩ he
 case box t x =>
  obtain ⟨⟨h1, h0, hnj⟩, he⟩ := he
  simp only [dhb7, gOk] at hgs
  have hx := fm7 hnj (by omega) (h.rd (hgs.1 trivial))
  obtain ⟨r1, r2⟩ := urb7 h.rel (vs := (a.eval x).cells) t hx (mz7 hnj hx) (by omega)
  rw [h1] at r1 r2
  unfold Oper.wp
  have hrun : (execOp a.eval ⟨dst, .box t x, type, pos, after, guard⟩).run P w = .ok (.value (.pointer (some ⟨w.heap.size, 0, none⟩))) (w.alloc (.cells (a.eval x).cells t)) := by
   refine tm7 (x := Instr.box t (a.eval x)) ?_
   simp [Instr.box, newVar, newRow]
  rw [hrun]
  exact hn _ _ _ _ (h.put (r := .c (.ptr σ.H.length 1 0 0)) r1 r2 hd (kkb7 (w' := w))) (fun _ _ => zi7.below ((Below.refl _ _).alloc (Nat.le_refl _) _)) ⟨by simp, r2, nj7 _ _ _⟩ he
 case buildSlice t n ps =>
  split at he
  ·rename_i e hk
   split at he
   ·obtain ⟨h1, h2, h3, ⟨h4, h5⟩, he⟩ := he
    obtain ⟨hu, hke⟩ : P.underlying t = some (.slice e) ∧ _ := gg7 hT hk
    obtain ⟨out, o1, o2, o3⟩ := xp7 hT h t e hk n ps hgs h1 h4 h5
    have hlen := o1.len
    obtain ⟨M', r1, r2, r3⟩ := qyb7 (k := (ty e).k) (n := n) (sz := (ty e).sz) h.rel e o1 h2 h3 h4 (by simp at hlen; omega) (by unfold maxLen; have := Nat.le_mul_of_pos_right n h4; omega)
    unfold Oper.wp
    rw [show (execOp a.eval ⟨dst, .buildSlice t n ps, type, pos, after, guard⟩).run P w = _ from tm7 (o3 w)]
    exact hn _ _ _ _ (h.put (r := .c (.h σ.H.length 0 n)) r1 r2 hd r3) (fun _ _ => zi7.below ((Below.refl _ _).alloc (Nat.le_refl _) _)) ⟨by simp [um7], r2, nj7 _ _ _⟩ he
   ·rename_i ck hw
    obtain ⟨h1, ⟨rfl, h2, h4, h5, h6⟩, he⟩ := he
    obtain ⟨out, o1, o2, o3⟩ := xp7 hT h t e hk 1 ps hgs h1 h4 (by omega)
    obtain ⟨M', r1, r2, r3⟩ := ghb7 h.rel e o1 h2 (by omega)
    unfold Oper.wp
    rw [show (execOp a.eval ⟨dst, .buildSlice t 1 ps, type, pos, after, guard⟩).run P w = _ from tm7 (o3 w)]
    exact hn _ _ _ _ (h.put (r := .c (.ws e ck 1)) r1 r2 hd r3) (fun _ _ => zi7.below ((Below.refl _ _).alloc (Nat.le_refl _) _)) ⟨Nat.le_refl _, r2, nj7 _ _ _⟩ he
  ·exact he.elim
 case store t p v =>
  obtain ⟨hpu, he⟩ := he
  simp only [dhb7, gOk] at hgs
  have hp := h.rd (hgs.1 trivial)
  have hv := h.rd (hgs.2.1 trivial)
  unfold fac7 at he
  split at he
  ·rename_i t' ck o hpe
   rw [hpe] at hp
   obtain ⟨⟨h1, h0, hk, h2, h3⟩, he⟩ := he
   have hc := fm7 (qab7 h3) (by omega) hv
   rw [← h1] at h2 h3
   obtain ⟨ad, w', q1, q2, q3, q4⟩ := gab7 (P := P) h.rel hp hc h3 h2
   unfold Oper.wp
   have hlen : (a.eval v).cells.size = (ty t).sz := by have := hc.len; rw [← h1]; simpa using this
   have hrun : (execOp a.eval ⟨dst, .store t p v, type, pos, after, guard⟩).run P w = .ok .skip w' := by
    refine tcb7 (x := Instr.storeAt t (a.eval p) (a.eval v)) ?_
    have hzt := ok7 hT hk w
    rw [q1]
    simp [Instr.storeAt, Instr.sureAddr, storeVar, hzt, hlen, q2]
   rw [hrun]
   exact hn _ _ _ _ (h.put (r := .c .junk) q3 q4 hd trivial) (fun _ e => by rw [e] at hpu; exact hpu.elim) ⟨Nat.le_refl _, q4, nj7 _ _ _⟩ he
  rename_i hnw
  unfold dlb7 at he
  split at he
  ·rename_i id n i o hpe
   rw [hpe] at hp
   split at he
   ·rename_i fz t2 sz r hr
    obtain ⟨rfl, ⟨h1, h2, h3, h4, h5, hk⟩, he⟩ := he
    have hpv := (hp.2 _ _ _ _ hr).2 h2
    have hlen : ∀ {l : List AV}, wf7 M σ.H w l (a.eval v).cells.toList → (a.eval v).cells.size = l.length := fun hc => by have := hc.len; simpa using this
    have hsto : ∀ w', (storeCells ⟨M.phi id, i * sz + o, none⟩ (a.eval v).cells.toList 0).run P w = .ok () w' → (a.eval v).cells.size = (ty t).sz → (execOp a.eval ⟨dst, .store t p v, type, pos, after, guard⟩).run P w = .ok .skip w' := fun w' h1 h2 => by
     refine tcb7 (x := Instr.storeAt t (a.eval p) (a.eval v)) ?_
     have hzt := hz (t := t) (by omega) hk
     rw [hpv]
     simp [Instr.storeAt, Instr.sureAddr, storeVar, hzt, h2, h1]
    split at he
    ·rename_i hb
     obtain ⟨hnj, he⟩ := he
     have hc := fm7 hnj (by omega) hv
     have hput : (r.put sz i o (xc7 (σ.rd v).2)).1 := by
      cases r with
      | box => trivial
      | _ => cases hb
     obtain ⟨w', r1, r2, r3⟩ := zy7 (P := P) h.rel hr (i := i) (o := o) (by omega) (by omega) (mz7 hnj hc) hc.len (fun j u hj => by unfold vv7; rw [if_pos hb]; exact hc.get j u hj) hput
     unfold Oper.wp
     rw [hsto w' r3 (by rw [hlen hc]; exact h1)]
     exact hn _ _ _ _ (h.put (r := .c .junk) r1 r2 hd trivial) (fun _ e => by rw [e] at hpu; exact hpu.elim) ⟨by simp [ec7], r2, nj7 _ _ _⟩ he
    ·rename_i hb
     obtain ⟨hf, hr2, hput, he⟩ := he
     obtain ⟨M1, e1, e2, q1, q2, q3⟩ := st7 _ h.rel hf
     have hc := ykb7 hf (by omega) hv
     have hc0 := q3 _ hc
     obtain ⟨w', r1, r2, r3⟩ := zy7 (P := P) q1 hr2 (i := i) (o := o) (cs := zr7 σ.H (xc7 (σ.rd v).2)) (vs := (a.eval v).cells.toList) (by omega) (by rw [ps7]; omega) (btb7 hf hc0) hc0.len (fun j u hj => by unfold vv7; rw [if_neg hb]; exact hc0.get j u hj) hput
     unfold Oper.wp
     rw [e1] at r3
     rw [hsto w' r3 (by rw [hlen hc]; exact h1)]
     exact hn _ _ _ _ (h.put (r := .c .junk) r1 (q2.trans r2) hd trivial) (fun _ e => by rw [e] at hpu; exact hpu.elim) ⟨by simp [ec7, um7], q2.trans r2, nj7 _ _ _⟩ he
   ·exact he.elim
  ·exact he.elim
 case makeSlice t x y =>
  simp only [dhb7, gOk] at hgs
  have hx := h.rd (hgs.1 trivial)
  have hy := h.rd (hgs.2.1 trivial)
  unfold zqb7 at he
  split at he
  ·rename_i e hk
   split at he
   ·rename_i k1 n k2 c hx1 hy1
    rw [hx1] at hx
    rw [hy1] at hy
    obtain ⟨⟨h1, h2, rfl, h3, h4, h5⟩, he⟩ := he
    obtain ⟨M', w', v, r0, rb, r1, r2, r3⟩ := gub7 hT h.rel t e hk k1 k2 c h1 h2 h3 h4 h5
    unfold Oper.wp
    have hrun : (execOp a.eval ⟨dst, .makeSlice t x y, type, pos, after, guard⟩).run P w = .ok (.value v) w' := by
     refine tm7 (x := Instr.makeSlice t (a.eval x) (a.eval y)) ?_
     rw [show a.eval x = .int k1 c from hx, show a.eval y = .int k2 c from hy]
     exact r0
    rw [hrun]
    exact hn _ _ _ _ (h.put (r := .c (.h σ.H.length 0 c.toNat)) r1 r2 hd r3) (fun _ _ => zi7.below rb) ⟨by simp, r2, nj7 _ _ _⟩ he
   ·exact he.elim
  ·exact he.elim
 case call c =>
  obtain ⟨callee, args, ats⟩ := c
  simp only at he
  cases callee with
  | invoke r m => exact he.elim
  | value f =>
   simp only [dhb7, gOk] at hgs
   simp only at he
   split at he
   ·rename_i f' caps hf
    have hfv := h.rd (hgs.1 trivial)
    rw [hf] at hfv
    obtain ⟨cs, hfe, hcs⟩ := hfv
    obtain ⟨henter, hcall⟩ := he
    have hargs := krb7 h args.toList hgs.2
    have hc := hcall E M w _ h.rel (kbb7 hargs (rbb7 hcs))
    unfold Oper.wp
    have hrun : (execOp a.eval ⟨dst, .call ⟨.value f, args, ats⟩, type, pos, after, guard⟩).run P w = .ok (.enter f' (args.toList.map a.eval ++ cs).toArray) w := by
     have e1 : args.map a.eval ++ cs.toArray = (args.toList.map a.eval ++ cs).toArray := by
      apply Array.toList_inj.1; simp
     simp [execOp, resolve, hfe, Deferred.ofValue, invoke, henter.run, ← e1]
    rw [hrun, Oper.upon_enter]
    refine hc.mono ?_
    rintro e w' ⟨M', H', r, v, rfl, q1, q2, q3, q4, q5, q6⟩
    exact hn _ _ _ _ (h.put q1 q2 hd q3) q4 ⟨q5, q2, nj7 _ _ _⟩ q6
   ·exact he.elim
  | builtin b =>
   cases b <;> simp only at he <;> try exact he.elim
   case append =>
    split at he
    ·rename_i s x hsx
     obtain ⟨hpu, hats, he⟩ := he
     obtain ⟨args⟩ := args
     simp only at hsx
     subst hsx
     obtain ⟨ats⟩ := ats
     simp only [dhb7, rgs, gOk] at hgs
     have hs := h.rd (hgs.1 trivial)
     have hx := h.rd (hgs.2.1 trivial)
     obtain ⟨t, rfl⟩ : ∃ t, ats = [t, t] := ⟨_, hats⟩
     have htt : (List.toArray [t, t]).getD 0 0 = t := rfl
     rw [htt] at he
     have hex : ∀ {v : Value} {w' : World}, (Builtin.append_ #[t, t] type #[a.eval s, a.eval x]).run P w = .ok v w' → (execOp a.eval ⟨dst, .call ⟨.builtin .append, [s, x].toArray, [t, t].toArray⟩, type, pos, after, guard⟩).run P w = .ok (.value v) w' := fun {v w'} h1 => by
      have := tm7 (x := Builtin.append_ #[t, t] type #[a.eval s, a.eval x]) h1
      simpa [execOp, resolve, invoke, builtin] using this
     have hwk : (∃ e ck, (ty t).k = .sl e ∧ appW ty e ck (σ.rd s).2 (σ.rd x).2 (fun r => K ⟨il7 σ.tm true dst r, σ.H⟩)) ∨ jvb7 ty (ty t).k σ.H (σ.rd s).2 (σ.rd x).2 (fun r H => K ⟨il7 σ.tm true dst r, H⟩) := by
      unfold xzb7 at he
      split at he
      ·rename_i e hk
       split at he
       ·exact .inr he
       ·rename_i ck _; exact .inl ⟨e, ck, hk, he⟩
      ·exact he.elim
     clear he
     rcases hwk with ⟨e, ck, hk, he⟩ | he
     ·unfold appW at he
      split at he
      ·rename_i t' ck' m hxe
       rw [hxe] at hx
       obtain ⟨⟨⟨rfl, rfl, k1, k2⟩, k3, k4, k5, k6⟩, he⟩ := he
       have fin : ∀ (n : Nat) (r : RV), WSl M w t' ck' n (a.eval s) → n + m ≤ 1099511627776 → (∀ M' w' v', WSl M' w' t' ck' (n + m) v' → de7 M' σ.H w' r v') → K ⟨il7 σ.tm true dst r, σ.H⟩ → Oper.wp P ⟨dst, .call ⟨.builtin .append, [s, x].toArray, [t, t].toArray⟩, type, pos, after, guard⟩ a w next Q := fun n r hw hm hr hK => by
        obtain ⟨M', w', v', r0, r1, r2, r3⟩ := nhb7 hT h.rel t t' type hk k3 k4 k5 k6 hw hx k1 hm
        unfold Oper.wp
        rw [hex r0]
        exact hn _ _ _ _ (h.put (r := r) r1 r2 hd (hr _ _ _ r3)) (fun _ e => by rw [e] at hpu; exact hpu.elim) ⟨Nat.le_refl _, r2, nj7 _ _ _⟩ hK
       split at he
       ·rename_i hse
        rw [hse] at hs
        have hs : a.eval s = .slice none 0 0 := hs
        exact fin 0 (.c (.ws _ _ m)) (by rw [hs]; exact WSl.nil _ _) (by omega) (fun M' w' v' h => by rw [Nat.zero_add] at h; exact h) he
       ·rename_i t2 ck2 n hse
        rw [hse] at hs
        obtain ⟨⟨rfl, rfl, j1⟩, he⟩ := he
        exact fin n (.c (.ws _ _ (n + m))) hs j1 (fun M' w' v' h => h) he
       ·rename_i t2 ck2 b hse
        rw [hse] at hs
        obtain ⟨⟨rfl, rfl, j1⟩, he⟩ := he
        obtain ⟨n, hnb, hs⟩ := hs
        exact fin n (.c (.wu _ _ (b + m))) hs (by omega) (fun M' w' v' h => ⟨n + m, by omega, h⟩) he
       ·exact he.elim
      ·exact he.elim
     unfold jvb7 at he
     split at he
     ·rename_i e hk
      obtain ⟨s1, s2, s3, s4, he⟩ := he
      obtain ⟨ad, c, news, hsrc⟩ := src_ok h.rel hx s1
      rw [s2] at hsrc
      have hbx : (nh7 σ.H (σ.rd x).2).2.1.isBox = false := by
       unfold nh7 at s1 ⊢
       split at s1
       ·split at s1
        ·exact (ofb7 s1.2 _).1
        ·exact s1.elim
       ·exact s1.elim
      split at he
      ·rename_i hs1
       rw [hs1] at hs
       have hsv : a.eval s = .slice none 0 0 := hs
       obtain ⟨h1, he⟩ := he
       obtain ⟨M', w', v', r0, r1, r2, r3⟩ := cjb7 hT h.rel t e type hk s3 s4 hsrc hbx h1
       unfold Oper.wp
       rw [hex (by rw [hsv]; exact r0)]
       exact hn _ _ _ _ (h.put (r := .c (.h _ 0 _)) r1 r2 hd r3) (fun _ e => by rw [e] at hpu; exact hpu.elim) ⟨by simp, r2, nj7 _ _ _⟩ he
      ·rename_i id st len hs1
       rw [hs1] at hs
       split at he
       ·rename_i fz t2 sz r hr
        obtain ⟨⟨rfl, rfl, h1, rfl, rfl, h2⟩, happ, he⟩ := he
        obtain ⟨M', w', v', r0, r1, r2, r3⟩ := ikb7 hT h.rel t t2 type hk s3 s4 hsrc hr h1 hs h2 happ
        unfold Oper.wp
        rw [hex r0]
        exact hn _ _ _ _ (h.put (r := .c (.h _ 0 _)) r1 r2 hd r3) (fun _ e => by rw [e] at hpu; exact hpu.elim) ⟨by simp [ec7], r2, nj7 _ _ _⟩ he
       ·exact he.elim
      ·exact he.elim
     ·exact he.elim
    ·exact he.elim
end
section
variable {P : Program} {ty : Ty} {E : Env} {nt : Nat} {M M' : Mp} {σ σ' : AS} {a a' : Act} {w w' : World}
theorem Stp.refl (M : Mp) (σ : AS) (a : Act) (w : World) (ds : Nat → Prop) : Stp M σ a w M σ a w ds := ⟨Nat.le_refl _, Kp.refl _ _ _, fun _ _ => rfl⟩
theorem Stp.trans {ds ds1 ds2 : Nat → Prop} {M2 : Mp} {σ2 : AS} {a2 : Act} {w2 : World} (h : Stp M σ a w M' σ' a' w' ds1) (k : Stp M' σ' a' w' M2 σ2 a2 w2 ds2) (h1 : ∀ t, ds1 t → ds t) (h2 : ∀ t, ds2 t → ds t) : Stp M σ a w M2 σ2 a2 w2 ds :=
 ⟨Nat.le_trans h.len k.len, h.kp.trans k.kp, fun t ht => (k.tm t (fun h => ht (h2 t h))).trans (h.tm t (fun h => ht (h1 t h)))⟩
theorem Stp.mono {ds ds1 : Nat → Prop} (h : Stp M σ a w M' σ' a' w' ds1) (h1 : ∀ t, ds1 t → ds t) : Stp M σ a w M' σ' a' w' ds := ⟨h.len, h.kp, fun t ht => h.tm t fun h => ht (h1 t h)⟩
def xwb7 (l : List Oper) (t : Nat) : Prop := ∃ o ∈ l, o.dst = some t
theorem idb7 {o : Oper} {v : Value} (h : σ'.H = σ.H) : Stp M σ a w M σ' (a.put o.dst v) w (fun t => o.dst = some t) :=
 ⟨by rw [h]; exact Nat.le_refl _, by rw [h]; exact Kp.refl _ _ _, nj7 _ _ _⟩
def After (E : Env) (nt : Nat) (M : Mp) (σ : AS) (a : Act) (w : World) (ds : Nat → Prop) (K : AS → Prop) (a' : Act) (w' : World) : Prop := ∃ M' σ', St E nt M' σ' a' w' ∧ Stp M σ a w M' σ' a' w' ds ∧ K σ'
theorem After.step {ds ds1 : Nat → Prop} {K : AS → Prop} {a2 : Act} {w2 : World} (h : Stp M σ a w M' σ' a' w' ds1) (k : After E nt M' σ' a' w' ds K a2 w2) (h1 : ∀ t, ds1 t → ds t) : After E nt M σ a w ds K a2 w2 := by
 obtain ⟨M2, σ2, q1, q2, q3⟩ := k
 exact ⟨M2, σ2, q1, h.trans q2 h1 (fun _ h => h), q3⟩
theorem zi7.refl (g : Option Nat) (w : World) : zi7 g w w := ⟨Nat.le_refl _, fun _ _ _ => rfl⟩
theorem zi7.step {g : Option Nat} {w w' w'' : World} (h : zi7 g w w') (k : zi7 g w' w'') : zi7 g w w'' := ⟨Nat.le_trans h.1 k.1, fun b hb hne => (k.2 b (Nat.lt_of_lt_of_le hb h.1) hne).trans (h.2 b hb hne)⟩
instance (g : Option Nat) (w : World) : Nonempty (At (zi7 g w)) := ⟨⟨w, zi7.refl g w⟩⟩
theorem nnb7 (hT : cj7 P ty) (h : St E nt M σ a w) {pu : Pu} {dd : Option Nat} {ops : Array Oper} {o : Oper} (hd : ∀ t, o.dst = some t → t < nt) {K : AS → Prop} (hw : yz7 P ty pu dd ops σ o K) {next : Act → World → Prop} {Q : Exit → Act → World → Prop}
  (hn : ∀ M' σ' a' w', St E nt M' σ' a' w' → (∀ g, pu = some g → zi7 (g.map M.phi) w w') → Stp M σ a w M' σ' a' w' (fun t => o.dst = some t) → K σ' → next a' w') : if Region.wanted o (yielded ops a.tmps) then o.wp P a w next Q else next (a.put o.dst undef) w := by
 unfold yz7 at hw
 split at hw
 ·rename_i hv
  obtain ⟨σ', v, k1, k2, k3, k4, k5⟩ := val_ok hT h hv hd hw
  have hnx := hn M σ' (a.put o.dst v) w k3 (fun _ _ => zi7.refl _ _) (idb7 k2) k1
  cases hwt : Region.wanted o (yielded ops a.tmps) with
  | true =>
   rw [if_pos rfl]
   unfold Oper.wp
   rw [k4 hwt w Same.refl]
   exact hnx
  | false =>
   rw [if_neg (by simp)]
   rw [k5 hwt] at hnx
   exact hnx
 ·have hw := hw.2
  unfold dac7 at hw
  split at hw
  ·exact hw.elim
  ·rename_i g hg
   obtain ⟨h2, h3, h4⟩ := hw
   rw [qs7 h hg rfl]
   cases g with
   | true => exact uwb7 hT h hd h2 (h3 rfl) hn
   | false => exact hn M _ (a.put o.dst undef) w (h.putV hd (fun e => by cases e) (fun _ => rfl)) (fun _ _ => zi7.refl _ _) (idb7 rfl) (h4 rfl)
theorem blb7 (hT : cj7 P ty) {nf : Nat} {dd : Option Nat} {ops : Array Oper} {K : AS → Prop} {Q : Exit → Act → World → Prop} : ∀ (l : List Oper) {M : Mp} {σ : AS} {a : Act} {w : World}, St E nt M σ a w → (∀ o ∈ l, ∀ t, o.dst = some t → t < nt) → et7 P ty nf dd ops l K σ →
  (∀ a' w', After E nt M σ a w (xwb7 l) K a' w' → Q .normal a' w') → wpList P ops Q l a w
 | [], M, σ, a, w, h, _, hw, hQ => hQ a w ⟨M, σ, h, Stp.refl _ _ _ _ _, hw⟩
 | o :: l, M, σ, a, w, h, hd, hw, hQ => by
  have := nnb7 (Q := Q) (next := wpList P ops Q l) hT h (hd o (List.mem_cons_self ..)) hw fun M' σ' a' w' q1 _ q3 q4 =>
   blb7 hT l q1 (fun o ho => hd o (List.mem_cons_of_mem _ ho)) q4 fun a2 w2 hA => hQ a2 w2 (by
    obtain ⟨M2, σ2, r1, r2, r3⟩ := hA
    exact ⟨M2, σ2, r1, q3.trans r2 (fun t ht => ⟨o, List.mem_cons_self .., ht⟩) (fun t ⟨o2, ho, ht⟩ => ⟨o2, List.mem_cons_of_mem _ ho, ht⟩), r3⟩)
  unfold wpList
  split
  ·rename_i hwt; rw [if_pos hwt] at this; exact .inl this
  ·rename_i hwt; rw [if_neg hwt] at this; exact this
end
section draw
variable {P : Program} {ops : Array Oper} {Q : Exit → Act → World → Prop} {md : Region.Mode}
def mn7 (P : Program) (ops : Array Oper) (Q : Exit → Act → World → Prop) (g : Option Nat) : List (List Oper × Oper × Bool) → Act → World → Prop
 | [], a, w => Q .normal a w
 | (lq, o, f) :: rest, a, w => wpQuiet P ops (fun w' => ∃ e : At (zi7 g w), w' = e.val) (fun a' => wpList P ops (Exit.then (fun a'' w'' => (f = true ∨ zi7 g w w'') ∧ mn7 P ops Q g rest a'' w'') Q) [o] a' w) lq a
theorem zt7 {S S' : World → Prop} {fins : List Nat} (hS : ∀ w, S w → S' w) : ∀ (fuel : Nat) (listed : Array Bool) (a : Act) (w : World), eg7 P md ops Q S fins fuel listed a w → eg7 P md ops Q S' fins fuel listed a w
 | 0, _, _, _, h => h
 | fuel + 1, _, _, _, h => ⟨h.1, fun i hi => wpOp_mono (fun a' w' h' => h'.imp id fun h => ⟨hS _ h.1, zt7 hS fuel _ a' w' h.2⟩) (h.2 i hi)⟩
theorem ukb7 {S : World → Prop} {fins : List Nat} {i : Nat} (hi : i < ops.size) {fuel : Nat} {listed : Array Bool} (hr : Region.ready md ops listed = [i]) {K : Act → World → Prop} {a : Act} {w : World} (hl : wpList P ops (Exit.then K Q) [ops.getD i default] a w)
  (hK : ∀ a'' w'', K a'' w'' → (i ∈ fins ∨ S w'') ∧ eg7 P md ops Q S fins fuel (listed.setIfInBounds i true) a'' w'') : eg7 P md ops Q S fins (fuel + 1) listed a w := by
 have ho : ops[i]? = some (ops.getD i default) := by simp [Array.getD, hi]
 refine ⟨fun h0 => (by rw [hr] at h0; cases h0), fun j hj => ?_⟩
 rw [hr, List.mem_singleton] at hj
 subst hj
 exact wpOp_mono (fun a'' w'' hk => orF (hK a'' w'' hk)) (ol7 ho hl)
theorem qmb7 {S : World → Prop} {g : Option Nat} {fins : List Nat} : ∀ (l : List (List Nat × Nat × Bool)) (listed : Array Bool) (a : Act) (w : World), l.all (fun x => x.2.2 && x.1.isEmpty) = true → vhb7 md ops fins l listed = true →
  mn7 P ops Q g (pc7 ops l) a w → eg7 P md ops Q S fins (vc7 l) listed a w
 | [], listed, a, w, _, hB, h => ⟨by simpa [vhb7] using hB, h⟩
 | (lq, i, f) :: rest, listed, a, w, ha, hB, h => by
  simp only [List.all_cons, Bool.and_eq_true, List.isEmpty_iff] at ha
  obtain ⟨⟨rfl, rfl⟩, ha⟩ := ha
  simp only [vhb7, lr7] at hB
  simp only [Bool.and_eq_true, decide_eq_true_eq, beq_iff_eq] at hB
  obtain ⟨⟨⟨⟨h1, h2⟩, h3⟩, h4⟩, h5⟩ := hB
  simp only [pc7, List.map_cons, List.map_nil, mn7, wpQuiet] at h
  have hif : i ∈ fins := by simpa using h2.symm
  rw [show vc7 (([], i, true) :: rest) = vc7 rest + 1 by simp [vc7]; omega]
  exact ukb7 h4 h1 h fun a'' w'' hk => ⟨.inl hif, qmb7 rest _ a'' w'' ha h5 hk.2⟩
theorem qfb7 {fins : List Nat} {g : Option Nat} (hs : Region.noSelect ops = true) (hQ : ∀ c a d v w, Q (.panic c) (Act.put a d v) w → Q (.panic c) a w) :
  ∀ (l : List (List Nat × Nat × Bool)) (listed : Array Bool) (a : Act) (w : World), Closed md ops listed → vhb7 md ops fins l listed = true → mn7 P ops Q g (pc7 ops l) a w → eg7 P md ops Q (zi7 g w) fins (vc7 l) listed a w
 | [], listed, a, w, _, hB, h => ⟨by simpa [vhb7] using hB, h⟩
 | (lq, i, f) :: rest, listed, a, w, hcl, hB, h => by
  cases f with
  | true =>
   have hB2 := hB
   simp only [vhb7] at hB2
   split at hB2
   ·cases hB2
   ·simp only [Bool.not_true, Bool.false_or, Bool.and_eq_true] at hB2
    exact qmb7 _ _ _ _ (by simp only [List.all_cons, Bool.and_eq_true]; exact ⟨⟨trivial, hB2.1.1.2.1⟩, hB2.1.1.2.2⟩) hB h
  | false =>
   simp only [vhb7] at hB
   split at hB
   case h_1 => cases hB
   rename_i listed' hq
   simp only [Bool.and_eq_true, decide_eq_true_eq, beq_iff_eq] at hB
   obtain ⟨⟨⟨⟨h1, h2⟩, h3⟩, h4⟩, h5⟩ := hB
   rw [show vc7 ((lq, i, false) :: rest) = lq.length + (vc7 rest + 1) by simp only [vc7]; omega]
   simp only [pc7, List.map_cons, mn7] at h
   exact nl7 hs hQ (zi7.refl _ _) lq listed listed' a hcl hq h fun a' hcl' hl => ukb7 h4 h1 hl fun a'' w'' ⟨ho, hm⟩ =>
    have ho : zi7 g w w'' := ho.resolve_left (by simp)
    ⟨.inr ho, zt7 (fun w3 h3 => zi7.step ho h3) _ _ _ _ (qfb7 hs hQ rest _ a'' w'' (hcl'.set (by rw [h1]; exact List.mem_singleton.2 rfl)) h5 hm)⟩
end draw
section
variable {P : Program} {ty : Ty} {E : Env} {nt : Nat} {M M' : Mp} {σ σ' : AS} {a a' : Act} {w w' : World}
theorem Same.old (h : Rel E M σ.H w) (ho : zi7 none w w') : Same M σ.H w w' := by
 rintro b (hb | ⟨id, fz, t, sz, r, hr, rfl⟩ | ⟨q, hq⟩)
 ·exact ho.2 b (h.rlt b hb) (by simp)
 ·exact ho.2 _ (h.lt hr) (by simp)
 ·exact ho.2 b (h.tau.lt hq) (by simp)
theorem zeb7 (H : List Root) (k : Nat) : ea7 (bb7 H k .dead) k = .dead := by
 by_cases hk : k < H.length
 ·rw [xf7, if_pos ⟨rfl, hk⟩]
 ·exact jm7 (by rw [ec7]; omega)
theorem od7 {H : List Root} {k i : Nat} {fz : Bool} {t : TypeId} {sz : Nat} {r : Row} (h : ea7 (bb7 H k .dead) i = .live fz t sz r) : i ≠ k ∧ ea7 H i = .live fz t sz r := by
 by_cases e : i = k
 ·subst e; rw [zeb7] at h; cases h
 ·refine ⟨e, ?_⟩
  rw [xf7, if_neg (fun hh => e hh.1)] at h
  exact h
theorem Con.kill {x : AV} {v : Value} (k : Nat) (h : Con M σ.H w x v) : Con M (bb7 σ.H k .dead) w x v := by
 cases x with
 | ptr id n i o => exact ⟨⟨by rw [ec7]; exact h.1.1, h.1.2⟩, fun fz t sz r hr => h.2 fz t sz r (od7 hr).2⟩
 | h id st len => exact ⟨⟨by rw [ec7]; exact h.1.1, h.1.2⟩, fun fz t sz r hr => h.2 fz t sz r (od7 hr).2⟩
 | _ => exact h
theorem Rel.kill (k : Nat) (h : Rel E M σ.H w) : Rel E M (bb7 σ.H k .dead) w := by
 refine ⟨h.bel, fun id fz t sz r hr => h.low id fz t sz r (od7 hr).2, fun id fz t sz r hr => ?_, fun id t sz r hr => h.froz id t sz r (od7 hr).2, fun id t sz r hr => h.thaw id t sz r (od7 hr).2,
  fun i j t s r t' s' r' h1 h2 => h.inj i j t s r t' s' r' (od7 h1).2 (od7 h2).2, h.rlt, h.src, h.tau.keep rfl (fun _ _ _ => rfl) (fun b q hq => (h.tau.new b q hq).2) fun b q j fz t s r hq hj => h.tau.row _ _ _ _ _ _ _ hq (od7 hj).2⟩
 obtain ⟨cur, k1, k2, k3, k4, k5, k6⟩ := h.row id fz t sz r (od7 hr).2
 refine ⟨cur, k1, k2, k3, k4, k5, fun i hi o ho => ?_⟩
 obtain ⟨v, g1, g2, g3⟩ := k6 i hi o ho
 refine ⟨v, g1, g2, ?_⟩
 unfold vv7 at g3 ⊢
 split
 ·rename_i hb; rw [if_pos hb] at g3; exact g3.kill k
 ·rename_i hb; rw [if_neg hb] at g3; exact g3
theorem St.kill (k : Nat) (h : St E nt M σ a w) : St E nt M ⟨σ.tm, bb7 σ.H k .dead⟩ a w :=
 ⟨h.rel.kill k, fun t ht => Kp.R (fun _ _ hc => Con.kill k hc) (h.tms t ht), h.off, h.sz, h.df⟩
theorem Same.oldK {k : Nat} (h : Rel E M σ.H w) (hv : zib7 σ.H k) (ho : zi7 (some (M.phi k)) w w') : Same M (bb7 σ.H k .dead) w w' := by
 unfold zib7 at hv
 split at hv
 ·rename_i fz t sz r hr
  obtain ⟨rfl, -⟩ := hv
  rintro b (hb | ⟨id, fz, t', sz', r', hr', rfl⟩ | ⟨q, hq⟩)
  ·refine ho.2 b (h.rlt b hb) fun e => ?_
   cases e
   exact h.thaw _ _ _ _ hr hb
  ·obtain ⟨h1, h2⟩ := od7 hr'
   refine ho.2 _ (h.lt h2) fun e => ?_
   have e : M.phi id = M.phi k := Option.some.inj e
   cases fz with
   | false => exact h1 (h.inj _ _ _ _ _ _ _ _ h2 hr e)
   | true => exact h.thaw _ _ _ _ hr (e ▸ h.froz _ _ _ _ h2)
  ·refine ho.2 b (h.tau.lt hq) fun e => ?_
   cases e
   exact h.tau.row _ _ _ _ _ _ _ hq hr rfl
 ·exact hv.elim
theorem ckb7 (hT : cj7 P ty) (h : St E nt M σ a w) {ops : Array Oper} {o : Oper} (hv : isV o.op = true) (hd : ∀ t, o.dst = some t → t < nt) {K : AS → Prop} {dd : Option Nat} (hw : rob7 ty (guardOf σ.tm ops o.guard) dd σ o K) :
  ∃ σ' v, K σ' ∧ σ'.H = σ.H ∧ St E nt M σ' (a.put o.dst v) w ∧ (Region.wanted o (yielded ops a.tmps) = true → ∀ w', zi7 (dd.map M.phi) w w' → (execOp a.eval o).run P w' = .ok (.value v) w') ∧ (Region.wanted o (yielded ops a.tmps) = false → v = undef) := by
 obtain ⟨σ', v, k1, k2, k3, k4, k5⟩ := val_ok hT h hv hd hw
 refine ⟨σ', v, k1, k2, k3, fun hwt w' ho => ?_, k5⟩
 cases dd with
 | none => exact k4 hwt w' (Same.old h.rel ho)
 | some k =>
  unfold rob7 at hw
  split at hw
  ·exact hw.elim
  ·rename_i g hg
   obtain ⟨h1, ⟨h2, h3⟩, h4, h5⟩ := hw
   rw [qs7 h hg rfl] at hwt
   subst hwt
   obtain ⟨v', -, v2⟩ := gsb7 hT (h.kill k) hv rfl h1 (h3 rfl)
   have e1 := k4 (qs7 h hg rfl) w Same.refl
   have e2 := v2 w Same.refl
   rw [e1] at e2
   cases e2
   exact v2 w' (Same.oldK h.rel h2 ho)
theorem xob7 {w' : World} {H H' : List Root} {k : Nat} (hk : Kp M H w M' H' w') (h1 : zib7 H k) (h2 : zib7 H' k) : M'.phi k = M.phi k := by
 unfold zib7 at h1 h2
 split at h1
 ·rename_i fz t sz r hr
  split at h2
  ·rename_i fz' t' sz' r' hr'
   have hc := hk (.ptr k 1 0 0) (.pointer (some ⟨M.phi k, 0 * sz + 0, none⟩)) ⟨⟨gp7 hr, rfl⟩, fun fz2 t2 sz2 r2 hr2 => by
    rw [hr] at hr2; cases hr2
    exact ⟨by omega, fun _ => rfl⟩⟩
   have := (hc.2 _ _ _ _ hr').2 (by omega)
   simp only [Value.pointer.injEq, Option.some.injEq, Addr.mk.injEq] at this
   exact this.1.symm
  ·exact h2.elim
 ·exact h1.elim
theorem mrb7 {pu : Pu} {dd : Option Nat} {ops : Array Oper} {o : Oper} {K : AS → Prop} (hw : yz7 P ty pu dd ops σ o K) : stb dd (zib7 σ.H) := by
 unfold yz7 at hw
 split at hw
 ·unfold rob7 at hw
  split at hw
  ·exact hw.elim
  ·cases dd with
   | none => trivial
   | some k => exact hw.2.1.1
 ·exact hw.1
theorem rgb7 (ops : Array Oper) : ∀ l : List Nat, (pick ops l).length = l.length
 | [] => rfl
 | _ :: l => by simp [pick, rgb7 ops l]
theorem ndb7 (hT : cj7 P ty) {nf : Nat} {dd g0 : Option Nat} {ops : Array Oper} {K : AS → Prop} {Q : Exit → Act → World → Prop} : ∀ (l : List Nat) {M : Mp} {σ : AS} {a : Act} {w : World}, St E nt M σ a w → (l ≠ [] → dd.map M.phi = g0) → (∀ o ∈ pick ops l, ∀ t, o.dst = some t → t < nt) → et7 P ty nf dd ops (pick ops l) K σ →
  (∀ a' w', After E nt M σ a w (xwb7 (pick ops l)) K a' w' → Q .normal a' w') → mn7 P ops Q g0 (pc7 ops (zdb7 ops nf l)) a w
 | [], M, σ, a, w, h, _, _, hw, hQ => hQ a w ⟨M, σ, h, Stp.refl _ _ _ _ _, hw⟩
 | i :: l, M, σ, a, w, h, hg0, hd, hw, hQ => by
  have hg1 := hg0 (by simp)
  have hd0 := hd _ (List.mem_cons_self ..)
  have hdl : ∀ o ∈ pick ops l, ∀ t, o.dst = some t → t < nt := fun o ho => hd o (List.mem_cons_of_mem _ ho)
  have cont : ∀ {M' σ' a' w'}, Stp M σ a w M' σ' a' w' (fun t => (ops.getD i default).dst = some t) → ∀ a2 w2, After E nt M' σ' a' w' (xwb7 (pick ops l)) K a2 w2 → Q .normal a2 w2 := fun q3 a2 w2 ⟨M2, σ2, r1, r2, r3⟩ =>
   hQ a2 w2 ⟨M2, σ2, r1, q3.trans r2 (fun t ht => ⟨_, List.mem_cons_self .., ht⟩) (fun t ⟨o2, ho, ht⟩ => ⟨o2, List.mem_cons_of_mem _ ho, ht⟩), r3⟩
  simp only [zdb7]
  split
  ·rename_i q j r hc hp
   simp only [Bool.and_eq_true] at hc
   obtain ⟨hv, -⟩ := hc
   have hw' : rob7 ty (guardOf σ.tm ops (ops.getD i default).guard) dd σ (ops.getD i default) (et7 P ty nf dd ops (pick ops l) K) := by
    have : yz7 P ty _ dd ops σ (ops.getD i default) _ := hw
    unfold yz7 at this
    rw [if_pos hv] at this
    exact this
   obtain ⟨σ', v, k1, k2, k3, k4, k5⟩ := ckb7 hT h hv hd0 hw'
   have ih := ndb7 hT l k3 (fun _ => hg1) hdl k1 (cont (idb7 k2))
   rw [hp] at ih
   simp only [pc7, List.map_cons, mn7] at ih ⊢
   unfold wpQuiet
   split
   ·rename_i hwt
    refine ⟨v, ?_, ih⟩
    rintro w1 ⟨e, rfl⟩
    unfold Oper.quietAt
    rw [k4 hwt e.val (hg1 ▸ e.ok)]
    exact ⟨rfl, rfl⟩
   ·rename_i hwt
    rw [k5 (by simpa using hwt)] at ih
    exact ih
  ·have hw' : yz7 P ty (rtb7 nf l.length dd) dd ops σ (ops.getD i default) (et7 P ty nf dd ops (pick ops l) K) := by
    have : yz7 P ty (rtb7 nf (pick ops l).length dd) dd ops σ (ops.getD i default) (et7 P ty nf dd ops (pick ops l) K) := hw
    rwa [rgb7] at this
   have hvw := mrb7 hw'
   have := nnb7 (Q := Exit.then (fun a'' w'' => (decide (l.length < nf) = true ∨ zi7 g0 w w'') ∧ mn7 P ops Q g0 (pc7 ops (zdb7 ops nf l)) a'' w'') Q)
    (next := wpList P ops (Exit.then (fun a'' w'' => (decide (l.length < nf) = true ∨ zi7 g0 w w'') ∧ mn7 P ops Q g0 (pc7 ops (zdb7 ops nf l)) a'' w'') Q) []) hT h hd0 hw' fun M' σ' a' w' q1 q2 q3 q4 =>
     ⟨by
      by_cases hf : l.length < nf
      ·exact .inl (decide_eq_true hf)
      ·exact .inr (hg1 ▸ q2 dd (by unfold rtb7; rw [if_pos (by omega)])), ndb7 hT l q1 (fun hl => by
       cases dd with
       | none => exact hg1
       | some k =>
        obtain ⟨j, l', rfl⟩ := List.exists_cons_of_ne_nil hl
        have hv2 : zib7 σ'.H k := mrb7 q4
        rw [← hg1]
        exact congrArg some (xob7 q3.kp hvw hv2)) hdl q4 (cont q3)⟩
   simp only [pc7, List.map_cons, List.map_nil, mn7, wpQuiet]
   unfold wpList
   split
   ·rename_i hwt; rw [if_pos hwt] at this; exact .inl this
   ·rename_i hwt; rw [if_neg hwt] at this; exact this
def nob7 (ops : Array Oper) (q : List Nat × Nat × Option Nat) : List Nat := if q.1.isEmpty then List.range ops.size else q.1
def okb7 (ops : Array Oper) (q : List Nat × Nat × Option Nat) : Bool :=
 Region.noSelect ops && vhb7 .any ops ((nob7 ops q).drop ((nob7 ops q).length - q.2.1)) (zdb7 ops q.2.1 (nob7 ops q)) (Array.replicate ops.size false) && decide (vc7 (zdb7 ops q.2.1 (nob7 ops q)) = ops.size) && (nob7 ops q).all (fun i => decide (i < ops.size))
def mab7 (nt : Nat) (ops : Array Oper) : Bool := ops.toList.all fun o => match o.dst with
 | some t => decide (t < nt)
 | none => true
theorem gr7 {ops : Array Oper} (h : mab7 nt ops = true) : ∀ o ∈ ops.toList, ∀ t, o.dst = some t → t < nt := by
 intro o ho t ht
 have := List.all_eq_true.1 h o ho
 rw [ht] at this
 simpa using this
theorem mfb7 {ops : Array Oper} : ∀ {l : List Nat}, (∀ i ∈ l, i < ops.size) → ∀ o ∈ pick ops l, o ∈ ops.toList
 | [], _, o, h => by cases h
 | i :: l, hl, o, h => by
  rcases List.mem_cons.1 h with rfl | h
  ·have hi := hl i (List.mem_cons_self ..)
   simp [Array.getD, hi]
  ·exact mfb7 (fun j hj => hl j (List.mem_cons_of_mem _ hj)) o h
theorem ahb7 (ops : Array Oper) : pick ops (List.range ops.size) = ops.toList := by
 have : ∀ l : List Nat, pick ops l = l.map fun i => ops.getD i default := by
  intro l
  induction l with
  | nil => rfl
  | cons i l ih => simp [pick, ih]
 rw [this]
 apply List.ext_getElem
 ·simp
 ·intro i h1 h2
  simp at h1 h2 ⊢
  simp [Array.getD, h1]
theorem zlb7 (hT : cj7 P ty) (hm : P.follows .mixedOrders = true) {id : Nat} {ops : Array Oper} {q : List Nat × Nat × Option Nat} (hB : okb7 ops q = true) (hd : mab7 nt ops = true) {K : AS → Prop} (h : St E nt M σ a w) (hw : zyb7 P ty ops q K σ) {Q : Exit → Act → World → Prop}
  (hQ : ∀ a' w', After E nt M σ a w (xwb7 ops.toList) K a' w' → Q .normal a' w') (hQp : ∀ c a w, ¬ Q (.panic c) a w) : (Code.region id ops true).wp P Q a w := by
 unfold okb7 at hB
 simp only [Bool.and_eq_true, decide_eq_true_eq, List.all_eq_true] at hB
 obtain ⟨⟨⟨b1, b2⟩, b3⟩, b4⟩ := hB
 have hw2 : et7 P ty q.2.1 q.2.2 ops (pick ops (nob7 ops q)) K σ := by
  obtain ⟨l, nf, dd⟩ := q
  cases l with
  | nil =>
   show et7 P ty nf dd ops (pick ops (List.range ops.size)) K σ
   rw [ahb7]; exact hw
  | cons i l => exact hw
 have hb : Below w.heap.size w w.drew := (Below.refl _ _).drew
 have h2 : St E nt M σ a w.drew := ⟨h.rel.below hb, fun t ht => (Kp.below h.rel hb).R (h.tms t ht), h.off, h.sz, h.df⟩
 have hmem : ∀ o ∈ pick ops (nob7 ops q), o ∈ ops.toList := mfb7 b4
 have hmix := ndb7 (Q := Q) (g0 := q.2.2.map M.phi) hT (nob7 ops q) h2 (fun _ => rfl) (fun o ho => gr7 hd o (hmem o ho)) hw2 fun a' w' ⟨M2, σ2, r1, r2, r3⟩ => hQ a' w' ⟨M2, σ2, r1, ⟨r2.len, (Kp.below h.rel hb).trans r2.kp, fun t ht => r2.tm t fun ⟨o, ho, e⟩ => ht ⟨o, hmem o ho, e⟩⟩, r3⟩
 refine wp_region_any hm (wj7 (S := zi7 (q.2.2.map M.phi) w.drew) (fins := (nob7 ops q).drop ((nob7 ops q).length - q.2.1)) _ _ _ _ ?_)
 rw [← b3]
 exact qfb7 b1 (fun c a d v w hh => (hQp _ _ _ hh).elim) _ _ a _ (fun j oj _ hl => by rw [getD_replicate_false] at hl; cases hl) (by rw [b3]; exact b2) hmix
end
theorem hz7 (n : Nat) (ids : List Nat) : ∀ (tm : Tm) (t : Nat), lk (mqb7 n ids tm) t = ((lk tm t).1, gvb7 n ids (lk tm t).2)
 | [], _ => rfl
 | (k, g, v) :: l, t => by
  simp only [mqb7, lk]
  split
  ·rfl
  ·exact hz7 n ids l t
theorem tbb7 (n : Nat) (ids : List Nat) (tm : Tm) : ∀ vy : List Nat, gets (mqb7 n ids tm) vy = renG n ids (gets tm vy)
 | [] => rfl
 | t :: l => by simp only [gets, renG, hz7, tbb7 n ids tm l]
theorem uu7 (n : Nat) (ids : List Nat) : ∀ l : List Root, (kdb7 n ids l).length = l.length
 | [] => rfl
 | _ :: l => by simp [kdb7, uu7 n ids l]
theorem ddb7 (n : Nat) (ids : List Nat) (H : List Root) : ∀ l : List Nat, (kq7 n ids H l).length = l.length
 | [] => rfl
 | _ :: l => by simp [kq7, ddb7 n ids H l]
theorem wgb7 (n : Nat) (ids : List Nat) : ∀ (l : List Root) (j : Nat), ea7 (kdb7 n ids l) j = qf7 n ids (ea7 l j)
 | [], _ => rfl
 | _ :: _, 0 => rfl
 | _ :: l, j + 1 => by simp only [kdb7, ea7]; exact wgb7 n ids l j
theorem vk7 : ∀ (l m : List Root) (j : Nat), ea7 (l ++ m) j = if j < l.length then ea7 l j else ea7 m (j - l.length)
 | [], m, j => by simp
 | a :: l, m, 0 => by simp [ea7]
 | a :: l, m, j + 1 => by
  simp only [List.cons_append, ea7, List.length_cons, vk7 l m j, Nat.add_lt_add_iff_right]
  congr 2
  omega
theorem pfb7 (n : Nat) (ids : List Nat) (H : List Root) : ∀ (l : List Nat) (j : Nat), ea7 (kq7 n ids H l) j = match l[j]? with
  | some i => qf7 n ids (ea7 H i)
  | none => .dead
 | [], j => by simp [kq7, ea7]
 | _ :: _, 0 => by simp [kq7, ea7]
 | _ :: l, j + 1 => by simp only [kq7, ea7, List.getElem?_cons_succ]; exact pfb7 n ids H l j
def src (n : Nat) (ids : List Nat) (j : Nat) : Option Nat := if j < n then some j else ids[j - n]?
theorem vtb7 {n : Nat} {ids : List Nat} {H : List Root} (hn : n ≤ H.length) (j : Nat) : ea7 (heb7 n ids H) j = match src n ids j with
  | some i => qf7 n ids (ea7 H i)
  | none => .dead := by
 have hl : (H.take n).length = n := by simp; omega
 unfold heb7 src
 rw [vk7, uu7, hl, wgb7, al7, pfb7]
 by_cases h : j < n
 ·simp [h]
 ·simp [h]
theorem qz7 {n : Nat} {ids : List Nat} {H : List Root} (hn : n ≤ H.length) : (heb7 n ids H).length = n + ids.length := by
 unfold heb7
 rw [List.length_append, uu7, ddb7, List.length_take]
 omega
theorem rfb7 : ∀ (l : List Nat) (id k j : Nat), pos l id k = some j → k ≤ j ∧ l[j - k]? = some id
 | [], _, _, _, h => by cases h
 | a :: l, id, k, j, h => by
  simp only [pos] at h
  split at h
  ·rename_i e
   cases h
   exact ⟨Nat.le_refl _, by simp [e]⟩
  ·obtain ⟨h1, h2⟩ := rfb7 l id (k + 1) j h
   refine ⟨by omega, ?_⟩
   rw [show j - k = (j - (k + 1)) + 1 by omega, List.getElem?_cons_succ]
   exact h2
theorem hab7 {n : Nat} {ids : List Nat} {id j : Nat} (h : ajb7 n ids id = some j) : src n ids j = some id := by
 unfold ajb7 at h
 unfold src
 split at h
 ·cases h; rename_i h; rw [if_pos h]
 ·obtain ⟨h1, h2⟩ := rfb7 _ _ _ _ h
  rw [if_neg (by omega), h2]
theorem wrb7 {n : Nat} {ids : List Nat} {j i : Nat} (h : src n ids j = some i) : j < n + ids.length := by
 unfold src at h
 split at h
 ·omega
 ·have := (List.getElem?_eq_some_iff.1 h).1; omega
theorem qm7 (n : Nat) (ids : List Nat) (r : Row) : (fs7 n ids r).len = r.len := by cases r <;> rfl
theorem dx7 (n : Nat) (ids : List Nat) (r : Row) : (fs7 n ids r).isBox = r.isBox := by cases r <;> rfl
theorem lkb7 (n : Nat) (ids : List Nat) : ∀ (l : List AV) (o : Nat), nth (qob7 n ids l) o = rv7 n ids (nth l o)
 | [], _ => rfl
 | _ :: _, 0 => rfl
 | _ :: l, o + 1 => by simp only [qob7, nth]; exact lkb7 n ids l o
theorem klb7 {n : Nat} : ∀ {l : List Nat}, okI n l = true → (∀ i ∈ l, n ≤ i) ∧ ∀ (j k i : Nat), l[j]? = some i → l[k]? = some i → j = k
 | [], _ => ⟨fun _ h => (by cases h), fun j k i h => by simp at h⟩
 | a :: l, h => by
  simp only [okI, Bool.and_eq_true, decide_eq_true_eq, Bool.not_eq_true', List.contains_eq_mem, decide_eq_false_iff_not] at h
  obtain ⟨⟨h1, h2⟩, h3⟩ := h
  obtain ⟨k1, k2⟩ := klb7 h3
  refine ⟨fun i hi => ?_, fun j k i hj hk => ?_⟩
  ·rcases List.mem_cons.1 hi with rfl | hi
   ·exact h1
   ·exact k1 i hi
  ·cases j with
   | zero =>
    cases k with
    | zero => rfl
    | succ k =>
     simp at hj hk
     subst hj
     exact absurd (List.mem_of_getElem? hk) h2
   | succ j =>
    cases k with
    | zero =>
     simp at hj hk
     subst hk
     exact absurd (List.mem_of_getElem? hj) h2
    | succ k =>
     simp at hj hk
     rw [k2 j k i hj hk]
theorem otb7 {n : Nat} {ids : List Nat} (ho : okI n ids = true) {i j k : Nat} (h1 : src n ids i = some k) (h2 : src n ids j = some k) : i = j := by
 obtain ⟨k1, k2⟩ := klb7 ho
 unfold src at h1 h2
 split at h1
 ·cases h1
  split at h2
  ·cases h2; rfl
  ·have := k1 _ (List.mem_of_getElem? h2); omega
 ·split at h2
  ·cases h2
   have := k1 _ (List.mem_of_getElem? h1); omega
  ·have := k2 _ _ _ h1 h2; omega
section
variable {E : Env} {nt : Nat} {M : Mp} {H : List Root} {σ : AS} {a : Act} {w : World} {n : Nat} {ids : List Nat}
def prb7 (n : Nat) (ids : List Nat) (M : Mp) : Mp := ⟨fun j => match src n ids j with
 | some i => M.phi i
 | none => 0, M.rho, M.tau⟩
theorem gi7 {j i : Nat} (h : src n ids j = some i) : (prb7 n ids M).phi j = M.phi i := by
 show (match src n ids j with | some i => M.phi i | none => 0) = _
 rw [h]
theorem fi7 (hn : n ≤ H.length) {j : Nat} {fz : Bool} {t : TypeId} {sz : Nat} {r : Row} (h : ea7 (heb7 n ids H) j = .live fz t sz r) : ∃ i r0, src n ids j = some i ∧ ea7 H i = .live fz t sz r0 ∧ r = fs7 n ids r0 := by
 rw [vtb7 hn] at h
 cases hs : src n ids j with
 | none => rw [hs] at h; cases h
 | some i =>
  rw [hs] at h
  simp only at h
  cases hr : ea7 H i with
  | dead => rw [hr] at h; cases h
  | live fz' t' sz' r' => rw [hr] at h; cases h; exact ⟨i, r', rfl, hr, rfl⟩
theorem Con.ren (hn : n ≤ H.length) {x : AV} {v : Value} (h : Con M H w x v) : Con (prb7 n ids M) (heb7 n ids H) w (rv7 n ids x) v := by
 cases x with
 | ptr id m i o =>
  simp only [rv7]
  cases hs : ajb7 n ids id with
  | none => trivial
  | some j =>
   have hsr := hab7 hs
   refine ⟨⟨by rw [qz7 hn]; exact wrb7 hsr, h.1.2⟩, fun fz t sz r hr => ?_⟩
   obtain ⟨i0, r0, k1, k2, rfl⟩ := fi7 hn hr
   rw [hsr] at k1
   cases k1
   rw [qm7, gi7 hsr]
   exact h.2 _ _ _ _ k2
 | h id st len =>
  simp only [rv7]
  cases hs : ajb7 n ids id with
  | none => trivial
  | some j =>
   have hsr := hab7 hs
   refine ⟨⟨by rw [qz7 hn]; exact wrb7 hsr, h.1.2⟩, fun fz t sz r hr => ?_⟩
   obtain ⟨i0, r0, k1, k2, rfl⟩ := fi7 hn hr
   rw [hsr] at k1
   cases k1
   rw [qm7, gi7 hsr]
   exact h.2 _ _ _ _ k2
 | junk => trivial
 | _ => exact h
theorem wf7.ren (hn : n ≤ H.length) : ∀ {l : List AV} {vs : List Value}, wf7 M H w l vs → wf7 (prb7 n ids M) (heb7 n ids H) w (qob7 n ids l) vs
 | [], _, h => h
 | _ :: _, _, ⟨v, r, e, h1, h2⟩ => ⟨v, r, e, h1.ren hn, wf7.ren hn h2⟩
mutual
theorem de7.ren (hn : n ≤ H.length) : ∀ {x : RV} {v : Value}, de7 M H w x v → de7 (prb7 n ids M) (heb7 n ids H) w (gvb7 n ids x) v
 | .c _, _, h => Con.ren hn h
 | .agg _, _, ⟨vs, e, h⟩ => ⟨vs, e, wf7.ren hn h⟩
 | .fn _ _, _, ⟨vs, e, h⟩ => ⟨vs, e, wf7.ren hn h⟩
 | .tup _, _, ⟨vs, e, h⟩ => ⟨vs, e, qe7.ren hn h⟩
theorem qe7.ren (hn : n ≤ H.length) : ∀ {x : List RV} {vs : List Value}, qe7 M H w x vs → qe7 (prb7 n ids M) (heb7 n ids H) w (lqb7 n ids x) vs
 | [], _, h => h
 | _ :: _, _, ⟨v, r, e, h1, h2⟩ => ⟨v, r, e, de7.ren hn h1, qe7.ren hn h2⟩
end
theorem Rel.ren (h : Rel E M H w) (hn : n ≤ H.length) (ho : okI n ids = true) : Rel E (prb7 n ids M) (heb7 n ids H) w := by
 refine ⟨h.bel, fun id fz t sz r hr => ?_, fun id fz t sz r hr => ?_, fun id t sz r hr => ?_, fun id t sz r hr => ?_, fun i j t s r t' s' r' hi hj he => ?_, h.rlt, h.src, h.tau.keep rfl (fun _ _ _ => rfl) (fun b q hq => (h.tau.new b q hq).2) fun b q j fz t s r hq hj => (by
  obtain ⟨i, r0, k1, k2, rfl⟩ := fi7 hn hj
  rw [gi7 k1]; exact h.tau.row _ _ _ _ _ _ _ hq k2)⟩
 ·obtain ⟨i, r0, k1, k2, rfl⟩ := fi7 hn hr
  rw [gi7 k1]; exact h.low _ _ _ _ _ k2
 ·obtain ⟨i, r0, k1, k2, rfl⟩ := fi7 hn hr
  rw [gi7 k1]
  obtain ⟨cur, c1, c2, c3, c4, c5, c6⟩ := h.row _ _ _ _ _ k2
  refine ⟨cur, c1, c2, by rw [qm7]; exact c3, c4, by rw [dx7]; exact c5, fun i hi o ho2 => ?_⟩
  rw [qm7] at hi
  obtain ⟨v, q1, q2, q3⟩ := c6 i hi o ho2
  refine ⟨v, q1, q2, ?_⟩
  unfold vv7 at q3 ⊢
  rw [dx7]
  cases r0 with
  | box l =>
   simp only [Row.isBox, if_true] at q3 ⊢
   show Con _ _ w (nth (qob7 n ids l) o) v
   rw [lkb7]
   exact q3.ren hn
  | _ => exact q3
 ·obtain ⟨i, r0, k1, k2, rfl⟩ := fi7 hn hr
  rw [gi7 k1]; exact h.froz _ _ _ _ k2
 ·obtain ⟨i, r0, k1, k2, rfl⟩ := fi7 hn hr
  rw [gi7 k1]; exact h.thaw _ _ _ _ k2
 ·obtain ⟨i0, r0, k1, k2, rfl⟩ := fi7 hn hi
  obtain ⟨j0, r1, k3, k4, rfl⟩ := fi7 hn hj
  rw [gi7 k1, gi7 k3] at he
  obtain rfl := h.inj _ _ _ _ _ _ _ _ k2 k4 he
  exact otb7 ho k1 k3
def aec7 (n : Nat) (ids : List Nat) (σ : AS) : AS := ⟨mqb7 n ids σ.tm, heb7 n ids σ.H⟩
theorem St.ren (h : St E nt M σ a w) (hn : n ≤ σ.H.length) (ho : okI n ids = true) : St E nt (prb7 n ids M) (aec7 n ids σ) a w := by
 refine ⟨h.rel.ren hn ho, fun t ht => ?_, fun t ht => ?_, h.sz, h.df⟩
 ·have ht : (lk (mqb7 n ids σ.tm) t).1 = true := ht
  show de7 _ _ w (lk (mqb7 n ids σ.tm) t).2 _
  rw [hz7] at ht ⊢
  exact (h.tms t ht).ren hn
 ·have ht : (lk (mqb7 n ids σ.tm) t).1 = false := ht
  rw [hz7] at ht
  exact h.off t ht
theorem oub7 {x : AV} (hs : x.scp n = true) : rv7 n ids x = x := by
 cases x with
 | ptr id m i o =>
  have : id < n := by simpa [AV.scp] using hs
  simp only [rv7, ajb7, if_pos this, ejb7]
 | h id st len =>
  have : id < n := by simpa [AV.scp] using hs
  simp only [rv7, ajb7, if_pos this, mkH]
 | _ => rfl
theorem vgb7 : ∀ d k : Nat, ea7 (List.replicate d .dead) k = .dead
 | 0, _ => rfl
 | _ + 1, 0 => rfl
 | d + 1, k + 1 => by simp only [List.replicate_succ, ea7]; exact vgb7 d k
theorem bm7 (H : List Root) (d j : Nat) : ea7 (H ++ List.replicate d .dead) j = ea7 H j := by
 rw [vk7]
 split
 ·rfl
 ·rename_i h
  rw [vgb7, jm7 (H := H) (by omega)]
theorem Con.dead (d : Nat) {x : AV} {v : Value} (h : Con M H w x v) : Con M (H ++ List.replicate d .dead) w x v := by
 cases x with
 | ptr id m i o => exact ⟨⟨by rw [List.length_append]; have := h.1.1; omega, h.1.2⟩, fun fz t sz r hr => h.2 _ _ _ _ (by rw [bm7] at hr; exact hr)⟩
 | h id st len => exact ⟨⟨by rw [List.length_append]; have := h.1.1; omega, h.1.2⟩, fun fz t sz r hr => h.2 _ _ _ _ (by rw [bm7] at hr; exact hr)⟩
 | junk => trivial
 | _ => exact h
theorem wf7.dead (d : Nat) : ∀ {l : List AV} {vs : List Value}, wf7 M H w l vs → wf7 M (H ++ List.replicate d .dead) w l vs
 | [], _, h => h
 | _ :: _, _, ⟨v, r, e, h1, h2⟩ => ⟨v, r, e, h1.dead d, wf7.dead d h2⟩
mutual
theorem de7.dead (d : Nat) : ∀ {x : RV} {v : Value}, de7 M H w x v → de7 M (H ++ List.replicate d .dead) w x v
 | .c _, _, h => Con.dead d h
 | .agg _, _, ⟨vs, e, h⟩ => ⟨vs, e, wf7.dead d h⟩
 | .fn _ _, _, ⟨vs, e, h⟩ => ⟨vs, e, wf7.dead d h⟩
 | .tup _, _, ⟨vs, e, h⟩ => ⟨vs, e, qe7.dead d h⟩
theorem qe7.dead (d : Nat) : ∀ {x : List RV} {vs : List Value}, qe7 M H w x vs → qe7 M (H ++ List.replicate d .dead) w x vs
 | [], _, h => h
 | _ :: _, _, ⟨v, r, e, h1, h2⟩ => ⟨v, r, e, de7.dead d h1, qe7.dead d h2⟩
end
theorem Rel.dead (d : Nat) (h : Rel E M H w) : Rel E M (H ++ List.replicate d .dead) w := by
 refine ⟨h.bel, fun id fz t sz r hr => ?_, fun id fz t sz r hr => ?_, fun id t sz r hr => ?_, fun id t sz r hr => ?_, fun i j t s r t' s' r' hi hj he => ?_, h.rlt, h.src, h.tau.keep rfl (fun _ _ _ => rfl) (fun b q hq => (h.tau.new b q hq).2) fun b q j fz t s r hq hj => (by rw [bm7] at hj; exact h.tau.row _ _ _ _ _ _ _ hq hj)⟩
 ·rw [bm7] at hr; exact h.low _ _ _ _ _ hr
 ·rw [bm7] at hr
  obtain ⟨cur, c1, c2, c3, c4, c5, c6⟩ := h.row _ _ _ _ _ hr
  refine ⟨cur, c1, c2, c3, c4, c5, fun i hi o ho2 => ?_⟩
  obtain ⟨v, q1, q2, q3⟩ := c6 i hi o ho2
  refine ⟨v, q1, q2, ?_⟩
  unfold vv7 at q3 ⊢
  split
  ·rename_i hb; rw [if_pos hb] at q3; exact q3.dead d
  ·rename_i hb; rw [if_neg hb] at q3; exact q3
 ·rw [bm7] at hr; exact h.froz _ _ _ _ hr
 ·rw [bm7] at hr; exact h.thaw _ _ _ _ hr
 ·rw [bm7] at hi hj; exact h.inj _ _ _ _ _ _ _ _ hi hj he
end
section
variable {P : Program} {ty : Ty} {E : Env} {nt : Nat} {M M' : Mp} {σ σ' : AS} {a a' : Act} {w w' : World}
def okC (nt : Nat) (ord : Nat → List Nat × Nat × Option Nat) : Code → Bool
 | .region id ops dr => mab7 nt ops && (!dr || okb7 ops (ord id))
 | .seq a b => okC nt ord a && okC nt ord b
 | .cond _ a b => okC nt ord a && okC nt ord b
 | .block _ a => okC nt ord a
 | .loop a => okC nt ord a
 | _ => true
def job7 (c : Code) (t : Nat) : Prop := t ∈ asg c
theorem least (p : Nat → Prop) (h : ∃ n, p n) : ∃ n, p n ∧ ∀ m, p m → n ≤ m := by
 obtain ⟨n, hn⟩ := h
 induction n using Nat.strongRecOn with
 | _ n ih =>
  by_cases hc : ∃ m, m < n ∧ p m
  ·obtain ⟨m, hm, hp⟩ := hc; exact ih m hm hp
  ·exact ⟨n, hn, fun m hm => Nat.le_of_not_lt fun hlt => hc ⟨m, hlt, hm⟩⟩
theorem wp_loop_ghost {ι : Type} {c : Code} {Q : Exit → Act → World → Prop} (I : ι → Act → World → Prop) (μ : ι → Nat) (s0 : ι) {a : Act} {w : World} (h0 : I s0 a w)
  (round : ∀ s a w, I s a w → c.wp P (Exit.then (fun a' w' => ∃ s', I s' a' w' ∧ μ s' < μ s) Q) a w) : (Code.loop c).wp P Q a w := by
 classical
 have hl : ∀ (a : Act) (w : World), (∃ n, ∃ s, I s a w ∧ μ s = n) → ∃ n, (∃ s, I s a w ∧ μ s = n) ∧ ∀ m, (∃ s, I s a w ∧ μ s = m) → n ≤ m := fun a w h => least _ h
 let f : Act → World → Nat := fun a w => if h : ∃ n, ∃ s, I s a w ∧ μ s = n then Classical.choose (hl a w h) else 0
 have hf : ∀ a w s, I s a w → (∃ s', I s' a w ∧ μ s' = f a w) ∧ f a w ≤ μ s := by
  intro a w s hs
  have h : ∃ n, ∃ s, I s a w ∧ μ s = n := ⟨_, s, hs, rfl⟩
  have := Classical.choose_spec (hl a w h)
  have e : f a w = Classical.choose (hl a w h) := dif_pos h
  rw [e]
  exact ⟨this.1, this.2 _ ⟨s, hs, rfl⟩⟩
 refine wp_loop (fun a w => ∃ s, I s a w) f ⟨s0, h0⟩ fun a w ⟨s, hs⟩ => ?_
 obtain ⟨⟨s1, h1, h2⟩, -⟩ := hf a w s hs
 refine wp_mono (round s1 a w h1) fun e a' w' q => ?_
 cases e with
 | normal =>
  obtain ⟨s', q1, q2⟩ := q
  exact ⟨⟨s', q1⟩, by have := (hf a' w' s' q1).2; omega⟩
 | _ => exact q
theorem dv7 : ∀ (vy : List Nat) (vs : List RV) (tm tm0 : Tm), gets tm0 vy = rn7 vs → ∀ t, (t ∈ vy ∧ lk (setT vy vs tm) t = lk tm0 t) ∨ (t ∉ vy ∧ lk (setT vy vs tm) t = lk tm t)
 | [], vs, tm, tm0, _, t => .inr ⟨by simp, by cases vs <;> rfl⟩
 | v :: vy, [], tm, tm0, h, t => by simp [gets, rn7] at h
 | v :: vy, x :: vs, tm, tm0, h, t => by
  simp only [gets, rn7, List.cons.injEq] at h
  simp only [setT, lk]
  by_cases e : v = t
  ·subst e
   exact .inl ⟨List.mem_cons_self .., by rw [if_pos rfl, h.1]⟩
  ·rw [if_neg e]
   rcases dv7 vy vs tm tm0 h.2 t with ⟨h1, h2⟩ | ⟨h1, h2⟩
   ·exact .inl ⟨List.mem_cons_of_mem _ h1, h2⟩
   ·exact .inr ⟨by simp only [List.mem_cons, not_or]; exact ⟨fun e2 => e e2.symm, h1⟩, h2⟩
theorem vt7 (tm : Tm) : ∀ (fx : List Nat) (t : Nat), (t ∈ fx ∧ lk (fxT tm fx) t = lk tm t) ∨ (t ∉ fx ∧ lk (fxT tm fx) t = (true, .c .junk))
 | [], t => .inr ⟨by simp, rfl⟩
 | x :: fx, t => by
  simp only [fxT, lk]
  by_cases e : x = t
  ·subst e; exact .inl ⟨List.mem_cons_self .., by rw [if_pos rfl]⟩
  ·rw [if_neg e]
   rcases vt7 tm fx t with ⟨h1, h2⟩ | ⟨h1, h2⟩
   ·exact .inl ⟨List.mem_cons_of_mem _ h1, h2⟩
   ·exact .inr ⟨by simp only [List.mem_cons, not_or]; exact ⟨fun e2 => e e2.symm, h1⟩, h2⟩
theorem im7 {c : Code} {fx : List Nat} (h : djb7 c fx = true) {t : Nat} (ht : t ∈ fx) : ¬ job7 c t := by
 have := List.all_eq_true.1 h t ht
 simpa [job7] using this
theorem Con.take {H : List Root} {k : Nat} {x : AV} {v : Value} (hk : k ≤ H.length) (hs : x.scp k = true) (h : Con M H w x v) : Con M (H.take k) w x v := by
 have hlen : (H.take k).length = k := by simp; omega
 cases x with
 | ptr id n i o =>
  have hid : id < k := by simpa [AV.scp] using hs
  exact ⟨⟨by omega, h.1.2⟩, fun fz t sz r hr => by rw [al7, if_pos hid] at hr; exact h.2 _ _ _ _ hr⟩
 | h id st len =>
  have hid : id < k := by simpa [AV.scp] using hs
  exact ⟨⟨by omega, h.1.2⟩, fun fz t sz r hr => by rw [al7, if_pos hid] at hr; exact h.2 _ _ _ _ hr⟩
 | junk => trivial
 | _ => exact h
theorem wf7.take {H : List Root} {k : Nat} (hk : k ≤ H.length) : ∀ {l : List AV} {vs : List Value}, ffb7 k l = true → wf7 M H w l vs → wf7 M (H.take k) w l vs
 | [], _, _, h => h
 | x :: l, _, hs, ⟨v, r, e, h1, h2⟩ => by
  simp only [ffb7, Bool.and_eq_true] at hs
  exact ⟨v, r, e, h1.take hk hs.1, wf7.take hk hs.2 h2⟩
mutual
theorem de7.take {H : List Root} {k : Nat} (hk : k ≤ H.length) : ∀ {x : RV} {v : Value}, tzb7 k x = true → de7 M H w x v → de7 M (H.take k) w x v
 | .c _, _, hs, h => Con.take hk hs h
 | .agg _, _, hs, ⟨vs, e, h⟩ => ⟨vs, e, wf7.take hk hs h⟩
 | .fn _ _, _, hs, ⟨vs, e, h⟩ => ⟨vs, e, wf7.take hk hs h⟩
 | .tup _, _, hs, ⟨vs, e, h⟩ => ⟨vs, e, qe7.take hk hs h⟩
theorem qe7.take {H : List Root} {k : Nat} (hk : k ≤ H.length) : ∀ {x : List RV} {vs : List Value}, yv7 k x = true → qe7 M H w x vs → qe7 M (H.take k) w x vs
 | [], _, _, h => h
 | x :: l, _, hs, ⟨v, r, e, h1, h2⟩ => by
  simp only [yv7, Bool.and_eq_true] at hs
  exact ⟨v, r, e, de7.take hk hs.1 h1, qe7.take hk hs.2 h2⟩
end
theorem dsb7 {H : List Root} {x : AV} {v : Value} (h : Con M H w x v) : x.scp H.length = true := by
 cases x with
 | ptr => simpa [AV.scp] using h.1.1
 | h => simpa [AV.scp] using h.1.1
 | _ => rfl
theorem ir7 {k : Nat} : ∀ {H : List Root}, mib7 k H = true → ∀ {id : Nat} {fz : Bool} {t : TypeId} {sz : Nat} {l : List AV}, ea7 H id = .live fz t sz (.box l) → ffb7 k l = true
 | [], _, _, _, _, _, _, h => by cases h
 | .live fz t sz (.box l) :: H, hs, 0, _, _, _, _, h => by
  simp only [mib7, Bool.and_eq_true] at hs
  cases h; exact hs.1
 | .live _ _ _ (.box _) :: H, hs, id + 1, _, _, _, _, h => by
  simp only [mib7, Bool.and_eq_true] at hs
  exact ir7 hs.2 h
 | .dead :: H, hs, 0, _, _, _, _, h => by cases h
 | .live _ _ _ (.ints ..) :: H, hs, 0, _, _, _, _, h => by cases h
 | .live _ _ _ (.bools ..) :: H, hs, 0, _, _, _, _, h => by cases h
 | .live _ _ _ (.gen ..) :: H, hs, 0, _, _, _, _, h => by cases h
 | .dead :: H, hs, id + 1, _, _, _, _, h => ir7 (H := H) hs h
 | .live _ _ _ (.ints ..) :: H, hs, id + 1, _, _, _, _, h => ir7 (H := H) hs h
 | .live _ _ _ (.bools ..) :: H, hs, id + 1, _, _, _, _, h => ir7 (H := H) hs h
 | .live _ _ _ (.gen ..) :: H, hs, id + 1, _, _, _, _, h => ir7 (H := H) hs h
theorem cnb7 {k : Nat} : ∀ {l : List AV}, ffb7 k l = true → ∀ j, (nth l j).scp k = true
 | [], _, _ => rfl
 | x :: l, hs, 0 => by simp only [ffb7, Bool.and_eq_true] at hs; exact hs.1
 | x :: l, hs, j + 1 => by simp only [ffb7, Bool.and_eq_true] at hs; exact cnb7 hs.2 j
theorem Rel.take {H : List Root} {k : Nat} (h : Rel E M H w) (hk : k ≤ H.length) (hs : mib7 k (H.take k) = true) : Rel E M (H.take k) w := by
 have lift : ∀ {id : Nat} {fz : Bool} {t : TypeId} {sz : Nat} {r : Row}, ea7 (H.take k) id = .live fz t sz r → ea7 H id = .live fz t sz r := fun {id fz t sz r} hr => by
  rw [al7] at hr
  split at hr
  ·exact hr
  ·cases hr
 refine ⟨h.bel, fun id fz t sz r hr => h.low _ _ _ _ _ (lift hr), fun id fz t sz r hr => ?_, fun id t sz r hr => h.froz _ _ _ _ (lift hr), fun id t sz r hr => h.thaw _ _ _ _ (lift hr), fun i j t s r t' s' r' hi hj => h.inj _ _ _ _ _ _ _ _ (lift hi) (lift hj), h.rlt, h.src, h.tau.keep rfl (fun _ _ _ => rfl) (fun b q hq => (h.tau.new b q hq).2) fun b q j fz t s r hq hj => h.tau.row _ _ _ _ _ _ _ hq (lift hj)⟩
 obtain ⟨cur, h1, h2, h3, h4, h5, h6⟩ := h.row _ _ _ _ _ (lift hr)
 refine ⟨cur, h1, h2, h3, h4, h5, fun i hi o ho => ?_⟩
 obtain ⟨v, k1, k2, k3⟩ := h6 i hi o ho
 refine ⟨v, k1, k2, ?_⟩
 unfold vv7 at k3 ⊢
 cases r with
 | box l =>
  simp only [Row.isBox, if_true] at k3 ⊢
  exact k3.take hk (cnb7 (ir7 hs hr) o)
 | _ => exact k3
def zab7 (σ : AS) (fx vy : List Nat) (vs : List RV) (H : List Root) : AS := ⟨setT vy vs (fxT σ.tm fx), H⟩
theorem tgb7 {k : Nat} {vy : List Nat} {vs : List RV} {tm : Tm} (hs : yv7 k vs = true) : ∀ t, t ∈ vy → vs.length = vy.length → ∃ x, lk (setT vy vs tm) t = (true, x) ∧ tzb7 k x = true := by
 induction vy generalizing vs with
 | nil => intro t ht; cases ht
 | cons v vy ih =>
  intro t ht hl
  cases vs with
  | nil => simp at hl
  | cons x vs =>
   simp only [yv7, Bool.and_eq_true] at hs
   simp only [setT, lk]
   by_cases e : v = t
   ·rw [if_pos e]; exact ⟨x, rfl, hs.1⟩
   ·rw [if_neg e]
    rcases List.mem_cons.1 ht with rfl | ht
    ·exact absurd rfl e
    ·exact ih hs.2 t ht (by simpa using hl)
theorem wp7 (hT : cj7 P ty) (hm : P.follows .mixedOrders = true) {ord : Nat → List Nat × Nat × Option Nat} : ∀ (c : Code), okC nt ord c = true → ∀ {Q : Exit → AS → Prop} {M : Mp} {σ : AS} {a : Act} {w : World}, St E nt M σ a w → awp P ty ord c Q σ →
  c.wp P (fun e a' w' => (∀ ch, e ≠ .panic ch) ∧ After E nt M σ a w (job7 c) (Q e) a' w') a w
 | .skip, _, Q, M, σ, a, w, h, hw => wp_skip ⟨fun _ e => (by cases e), M, σ, h, Stp.refl _ _ _ _ _, hw⟩
 | .exit id, _, Q, M, σ, a, w, h, hw => wp_exit ⟨fun _ e => (by cases e), M, σ, h, Stp.refl _ _ _ _ _, hw⟩
 | .ret, _, Q, M, σ, a, w, h, hw => wp_ret ⟨fun _ e => (by cases e), M, σ, h, Stp.refl _ _ _ _ _, hw⟩
 | .region id ops dr, hc, Q, M, σ, a, w, h, hw => by
  simp only [okC, Bool.and_eq_true] at hc
  have hds : ∀ t, xwb7 ops.toList t → job7 (.region id ops dr) t := fun t ⟨o, ho, e⟩ => List.mem_filterMap.2 ⟨o, ho, e⟩
  cases dr with
  | true =>
   simp only [awp, if_true] at hw
   exact zlb7 hT hm (by simpa using hc.2) hc.1 h hw (fun a' w' ⟨M2, σ2, r1, r2, r3⟩ => ⟨fun _ e => (by cases e), M2, σ2, r1, r2.mono hds, r3⟩) fun c a w hh => hh.1 c rfl
  | false =>
   simp only [awp, Bool.false_eq_true, if_false] at hw
   exact wp_region_list (blb7 hT ops.toList h (gr7 hc.1) hw fun a' w' ⟨M2, σ2, r1, r2, r3⟩ => ⟨fun _ e => (by cases e), M2, σ2, r1, r2.mono hds, r3⟩)
 | .seq x y, hc, Q, M, σ, a, w, h, hw => by
  simp only [okC, Bool.and_eq_true] at hc
  refine wp_seq (wp_mono (wp7 hT hm x hc.1 h (Q := io7 (awp P ty ord y Q) Q) hw) fun e a1 w1 ⟨hp, M1, σ1, q1, q2, q3⟩ => ?_)
  cases e with
  | normal =>
   refine wp_mono (wp7 hT hm y hc.2 q1 q3) fun e a2 w2 ⟨hp2, M2, σ2, r1, r2, r3⟩ => ⟨hp2, M2, σ2, r1, q2.trans r2 (fun t ht => List.mem_append_left _ ht) (fun t ht => List.mem_append_right _ ht), r3⟩
  | panic ch => exact absurd rfl (hp ch)
  | exit id => exact ⟨hp, M1, σ1, q1, q2.mono fun t ht => List.mem_append_left _ ht, q3⟩
  | goto l => exact ⟨hp, M1, σ1, q1, q2.mono fun t ht => List.mem_append_left _ ht, q3⟩
  | ret => exact ⟨hp, M1, σ1, q1, q2.mono fun t ht => List.mem_append_left _ ht, q3⟩
  | outgrown => exact ⟨hp, M1, σ1, q1, q2.mono fun t ht => List.mem_append_left _ ht, q3⟩
 | .cond x y z, hc, Q, M, σ, a, w, h, hw => by
  simp only [okC, Bool.and_eq_true] at hc
  have hw' : hy7 (σ.rd x) (awp P ty ord y Q σ) (awp P ty ord z Q σ) := hw
  unfold hy7 at hw'
  split at hw'
  ·rename_i b hb
   have hv := h.rd (x := x) (by rw [hb])
   rw [hb] at hv
   have hv' : a.eval x = .bool b := hv
   refine wp_cond hv' ?_
   cases b with
   | true => exact wp_mono (wp7 hT hm y hc.1 h (hw'.1 rfl)) fun e a1 w1 ⟨hp, M1, σ1, q1, q2, q3⟩ => ⟨hp, M1, σ1, q1, q2.mono fun t ht => List.mem_append_left _ ht, q3⟩
   | false => exact wp_mono (wp7 hT hm z hc.2 h (hw'.2 rfl)) fun e a1 w1 ⟨hp, M1, σ1, q1, q2, q3⟩ => ⟨hp, M1, σ1, q1, q2.mono fun t ht => List.mem_append_right _ ht, q3⟩
  ·exact hw'.elim
 | .block id x, hc, Q, M, σ, a, w, h, hw => by
  refine wp_block (wp_mono (wp7 hT hm x hc h (Q := inB id Q) hw) fun e a1 w1 ⟨hp, M1, σ1, q1, q2, q3⟩ => ?_)
  cases e with
  | exit j =>
   simp only [Exit.inBlock]
   simp only [inB] at q3
   split
   ·rename_i e; rw [if_pos e] at q3; exact ⟨fun _ e => (by cases e), M1, σ1, q1, q2, q3⟩
   ·rename_i e; rw [if_neg e] at q3; exact ⟨hp, M1, σ1, q1, q2, q3⟩
  | normal => exact ⟨hp, M1, σ1, q1, q2, q3⟩
  | panic ch => exact absurd rfl (hp ch)
  | goto l => exact ⟨hp, M1, σ1, q1, q2, q3⟩
  | ret => exact ⟨hp, M1, σ1, q1, q2, q3⟩
  | outgrown => exact ⟨hp, M1, σ1, q1, q2, q3⟩
 | .loop x, hc, Q, M, σ, a, w, h, hw => by
  rcases (show uvb7 (awp P ty ord x) x Q σ ∨ yrb7 (awp P ty ord x) x Q σ from hw) with hw | hw
  case inr =>
   obtain ⟨ι, d, fx, vy, inv, vals, H, μ, hfx, ⟨s0, i0, g0, e0⟩, hsc, round⟩ := hw
   have mk : ∀ {M1 σ1 a1 w1 s}, inv s → St E nt M1 σ1 a1 w1 → Stp M σ a w M1 σ1 a1 w1 (job7 x) → gets σ1.tm vy = rn7 (vals s) → σ1.H = H s → St E nt M1 (zab7 σ fx vy (vals s) (H s)) a1 w1 ∧ Stp M σ a w M1 (zab7 σ fx vy (vals s) (H s)) a1 w1 (job7 x) := by
    intro M1 σ1 a1 w1 s hs q1 q2 hg hH
    have s1 := hsc s hs
    have hkp : Kp M σ.H w M1 (H s) w1 := fun x v c => by
     rw [← hH]
     exact q2.kp x v c
    refine ⟨⟨?_, fun t ht => ?_, fun t ht => ?_, q1.sz, q1.df⟩, ⟨by show σ.H.length ≤ (H s).length; omega, hkp, q2.tm⟩⟩
    ·show Rel E M1 (H s) w1
     rw [← hH]
     exact q1.rel
    ·show de7 M1 (H s) w1 (lk (setT vy (vals s) (fxT σ.tm fx)) t).2 _
     have ht' : (lk (setT vy (vals s) (fxT σ.tm fx)) t).1 = true := ht
     rcases dv7 vy (vals s) (fxT σ.tm fx) σ1.tm hg t with ⟨m1, m2⟩ | ⟨m1, m2⟩
     ·rw [m2] at ht' ⊢
      rw [← hH]
      exact q1.tms t ht'
     ·rw [m2] at ht' ⊢
      rcases vt7 σ.tm fx t with ⟨f1, f2⟩ | ⟨f1, f2⟩
      ·rw [f2] at ht' ⊢
       rw [q2.tm t (im7 hfx f1)]
       exact hkp.R (h.tms t ht')
      ·rw [f2]; trivial
    ·have ht' : (lk (setT vy (vals s) (fxT σ.tm fx)) t).1 = false := ht
     rcases dv7 vy (vals s) (fxT σ.tm fx) σ1.tm hg t with ⟨m1, m2⟩ | ⟨m1, m2⟩
     ·rw [m2] at ht'
      exact q1.off t ht'
     ·rw [m2] at ht'
      rcases vt7 σ.tm fx t with ⟨f1, f2⟩ | ⟨f1, f2⟩
      ·rw [f2] at ht'
       rw [q2.tm t (im7 hfx f1)]
       exact h.off t ht'
      ·rw [f2] at ht'; cases ht'
   have hd : St E nt M ⟨σ.tm, σ.H ++ List.replicate d .dead⟩ a w := ⟨h.rel.dead d, fun t ht => (h.tms t ht).dead d, h.off, h.sz, h.df⟩
   have hstart := mk i0 hd ⟨by simp, fun x v c => c.dead d, fun _ _ => rfl⟩ g0 e0
   refine wp_loop_ghost (fun s a1 w1 => ∃ M1, inv s ∧ St E nt M1 (zab7 σ fx vy (vals s) (H s)) a1 w1 ∧ Stp M σ a w M1 (zab7 σ fx vy (vals s) (H s)) a1 w1 (job7 x)) μ s0 ⟨M, i0, hstart⟩ ?_
   rintro s a1 w1 ⟨M1, hs, q1, q2⟩
   refine wp_mono (wp7 hT hm x hc q1 (round s hs)) fun e a2 w2 ⟨hp, M2, σ2, r1, r2, r3⟩ => ?_
   have r4 := q2.trans r2 (fun _ h => h) (fun _ h => h)
   cases e with
   | normal =>
    obtain ⟨s', ids, t1, ⟨o1, o2⟩, t2, t3, t4⟩ := r3
    have st := r1.ren r4.len o2
    refine ⟨s', ⟨prb7 σ.H.length ids M2, t1, mk t1 st ⟨?_, fun x v c => ?_, r4.tm⟩ ?_ t3⟩, t4⟩
    ·show σ.H.length ≤ (heb7 σ.H.length ids σ2.H).length
     rw [qz7 r4.len]; omega
    ·have := (r4.kp x v c).ren (ids := ids) r4.len
     rw [oub7 (dsb7 c)] at this
     exact this
    ·show gets (mqb7 σ.H.length ids σ2.tm) vy = _
     rw [tbb7]; exact t2
   | panic ch => exact absurd rfl (hp ch)
   | exit id => exact ⟨hp, M2, σ2, r1, r4, r3⟩
   | goto l => exact ⟨hp, M2, σ2, r1, r4, r3⟩
   | ret => exact ⟨hp, M2, σ2, r1, r4, r3⟩
   | outgrown => exact ⟨hp, M2, σ2, r1, r4, r3⟩
  obtain ⟨ι, fx, vy, inv, vals, H, μ, hfx, ⟨s0, i0, g0, e0⟩, hsc, round⟩ := hw
  have mk : ∀ {M1 σ1 a1 w1 s}, inv s → St E nt M1 σ1 a1 w1 → Stp M σ a w M1 σ1 a1 w1 (job7 x) → gets σ1.tm vy = rn7 (vals s) → σ1.H.take σ.H.length = H s → St E nt M1 (zab7 σ fx vy (vals s) (H s)) a1 w1 ∧ Stp M σ a w M1 (zab7 σ fx vy (vals s) (H s)) a1 w1 (job7 x) := by
   intro M1 σ1 a1 w1 s hs q1 q2 hg hH
   obtain ⟨s1, s2, s3, s4⟩ := hsc s hs
   have hkp : Kp M σ.H w M1 (H s) w1 := fun x v c => by
    rw [← hH]
    exact (q2.kp x v c).take q2.len (dsb7 c)
   refine ⟨⟨?_, fun t ht => ?_, fun t ht => ?_, q1.sz, q1.df⟩, ⟨by show σ.H.length ≤ (H s).length; omega, hkp, q2.tm⟩⟩
   ·show Rel E M1 (H s) w1
    rw [← hH]
    exact q1.rel.take q2.len (by rw [hH]; exact s3)
   ·show de7 M1 (H s) w1 (lk (setT vy (vals s) (fxT σ.tm fx)) t).2 _
    have ht' : (lk (setT vy (vals s) (fxT σ.tm fx)) t).1 = true := ht
    rcases dv7 vy (vals s) (fxT σ.tm fx) σ1.tm hg t with ⟨m1, m2⟩ | ⟨m1, m2⟩
    ·obtain ⟨y, y1, y2⟩ := tgb7 (tm := fxT σ.tm fx) s2 t m1 s4
     rw [m2] at ht' ⊢
     rw [m2] at y1
     have := q1.tms t ht'
     rw [y1] at this ⊢
     rw [← hH]
     exact de7.take q2.len y2 this
    ·rw [m2] at ht' ⊢
     rcases vt7 σ.tm fx t with ⟨f1, f2⟩ | ⟨f1, f2⟩
     ·rw [f2] at ht' ⊢
      rw [q2.tm t (im7 hfx f1)]
      exact hkp.R (h.tms t ht')
     ·rw [f2]; trivial
   ·have ht' : (lk (setT vy (vals s) (fxT σ.tm fx)) t).1 = false := ht
    rcases dv7 vy (vals s) (fxT σ.tm fx) σ1.tm hg t with ⟨m1, m2⟩ | ⟨m1, m2⟩
    ·obtain ⟨y, y1, y2⟩ := tgb7 (tm := fxT σ.tm fx) s2 t m1 s4
     rw [y1] at ht'; cases ht'
    ·rw [m2] at ht'
     rcases vt7 σ.tm fx t with ⟨f1, f2⟩ | ⟨f1, f2⟩
     ·rw [f2] at ht'
      rw [q2.tm t (im7 hfx f1)]
      exact h.off t ht'
     ·rw [f2] at ht'; cases ht'
  have hstart := mk i0 h (Stp.refl _ _ _ _ _) g0 (by rw [List.take_length]; exact e0)
  refine wp_loop_ghost (fun s a1 w1 => ∃ M1, inv s ∧ St E nt M1 (zab7 σ fx vy (vals s) (H s)) a1 w1 ∧ Stp M σ a w M1 (zab7 σ fx vy (vals s) (H s)) a1 w1 (job7 x)) μ s0 ⟨M, i0, hstart⟩ ?_
  rintro s a1 w1 ⟨M1, hs, q1, q2⟩
  refine wp_mono (wp7 hT hm x hc q1 (round s hs)) fun e a2 w2 ⟨hp, M2, σ2, r1, r2, r3⟩ => ?_
  have r4 := q2.trans r2 (fun _ h => h) (fun _ h => h)
  cases e with
  | normal =>
   obtain ⟨s', t1, t2, t3, t4⟩ := r3
   exact ⟨s', ⟨M2, t1, mk t1 r1 r4 t2 t3⟩, t4⟩
  | panic ch => exact absurd rfl (hp ch)
  | exit id => exact ⟨hp, M2, σ2, r1, r4, r3⟩
  | goto l => exact ⟨hp, M2, σ2, r1, r4, r3⟩
  | ret => exact ⟨hp, M2, σ2, r1, r4, r3⟩
  | outgrown => exact ⟨hp, M2, σ2, r1, r4, r3⟩
 | .label l, _, Q, M, σ, a, w, h, hw => (by cases hw)
 | .goto l, _, Q, M, σ, a, w, h, hw => (by cases hw)
 | .scope b, _, Q, M, σ, a, w, h, hw => (by cases hw)
 | .rangeFunc .., _, Q, M, σ, a, w, h, hw => (by cases hw)
 | .refuse y, _, Q, M, σ, a, w, h, hw => (by cases hw)
end
def Eqv : AV → AV → Prop
 | .sl n sz f, y => ∃ g, y = .sl n sz g ∧ ∀ i, i < n → ∀ j, j < sz → Eqv (f i j) (g i j)
 | .nils, y => y = .nils ∨ ∃ sz g, y = .sl 0 sz g
 | .int k n, y => y = .int k n
 | .bool b, y => y = .bool b
 | .flt b, y => y = .flt b
 | .str b, y => y = .str b
 | .nilp, y => y = .nilp
 | .rp n f, y => y = .rp n f
 | .ptr .., _ => False
 | .h .., _ => False
 | .ws .., _ => False
 | .wu .., _ => False
 | .wp .., _ => False
 | .junk, y => y = .junk
def yxb7 : List AV → List AV → Prop
 | [], m => m = []
 | a :: l, m => ∃ b r, m = b :: r ∧ (a = b ∨ Eqv a b) ∧ yxb7 l r
def gcc7 : RV → RV → Prop
 | .c a, y => ∃ b, y = .c b ∧ (a = b ∨ Eqv a b)
 | .agg l, y => ∃ m, y = .agg m ∧ yxb7 l m
 | _, _ => False
def gib7 : List RV → List RV → Prop
 | [], m => m = []
 | a :: l, m => ∃ b r, m = b :: r ∧ (a = b ∨ gcc7 a b) ∧ gib7 l r
def fvb7 : RV → RV → Prop
 | .tup l, y => ∃ m, y = .tup m ∧ gib7 l m
 | x, y => gcc7 x y
theorem df7.eqv {rho : Nat → Prop} {w : World} : ∀ {x y : AV} {v : Value}, df7 rho w x v → Eqv x y → df7 rho w y v
 | .sl n sz f, y, v, ⟨a, b, off, c, h1, h2, h3, h4, h5⟩, ⟨g, e, hg⟩ => by
  subst e
  refine ⟨a, b, off, c, h1, h2, h3, h4, fun i hi j hj => ?_⟩
  obtain ⟨u, hu, hc⟩ := h5 i hi j hj
  exact ⟨u, hu, hc.eqv (hg i hi j hj)⟩
 | .nils, y, v, h, e => by
  rcases e with rfl | ⟨sz, g, rfl⟩
  ·exact h
  ·exact ⟨none, 0, 0, 0, h, Nat.le_refl _, Nat.zero_le _, fun h => absurd h (Nat.not_lt_zero _), fun i hi => absurd hi (Nat.not_lt_zero _)⟩
 | .int .., _, _, h, e => by cases e; exact h
 | .bool _, _, _, h, e => by cases e; exact h
 | .flt _, _, _, h, e => by cases e; exact h
 | .str _, _, _, h, e => by cases e; exact h
 | .nilp, _, _, h, e => by cases e; exact h
 | .rp .., _, _, h, e => by cases e; exact h
 | .junk, _, _, _, e => by cases e; trivial
 | .ptr .., _, _, h, _ => h.elim
 | .h .., _, _, h, _ => h.elim
theorem df7.eqv' {rho : Nat → Prop} {w : World} {x y : AV} {v : Value} (h : df7 rho w x v) (e : x = y ∨ Eqv x y) : df7 rho w y v := by
 rcases e with rfl | e
 ·exact h
 ·exact h.eqv e
def yk7 (rho : Nat → Prop) (w : World) : RV → Value → Prop
 | .c a, v => df7 rho w a v
 | .agg l, v => ∃ vs : List Value, v = .agg vs.toArray ∧ se7 rho w l vs
 | .fn f caps, v => ∃ vs : List Value, v = .func (.func f) #[] vs.toArray ∧ se7 rho w caps vs
 | .tup _, _ => False
def gf7 (rho : Nat → Prop) (w : World) : List RV → List Value → Prop
 | [], vs => vs = []
 | a :: l, vs => ∃ v r, vs = v :: r ∧ yk7 rho w a v ∧ gf7 rho w l r
def mj7 (rho : Nat → Prop) (w : World) : RV → Value → Prop
 | .tup l, v => ∃ vs : List Value, v = .tuple vs.toArray ∧ gf7 rho w l vs
 | x, v => yk7 rho w x v
section
variable {rho rho' : Nat → Prop} {w w' : World}
theorem se7.eqv : ∀ {l m : List AV} {vs : List Value}, se7 rho w l vs → yxb7 l m → se7 rho w m vs
 | [], _, _, h, e => by cases e; exact h
 | _ :: _, _, _, ⟨v, r, h, h1, h2⟩, ⟨b, m, e, e1, e2⟩ => by subst e; exact ⟨v, r, h, h1.eqv' e1, se7.eqv h2 e2⟩
theorem yk7.eqv : ∀ {x y : RV} {v : Value}, yk7 rho w x v → gcc7 x y → yk7 rho w y v
 | .c _, _, _, h, ⟨b, e, e1⟩ => by subst e; exact df7.eqv' h e1
 | .agg _, _, _, ⟨vs, h, h1⟩, ⟨m, e, e1⟩ => by subst e; exact ⟨vs, h, h1.eqv e1⟩
theorem gf7.eqv : ∀ {l m : List RV} {vs : List Value}, gf7 rho w l vs → gib7 l m → gf7 rho w m vs
 | [], _, _, h, e => by cases e; exact h
 | _ :: _, _, _, ⟨v, r, h, h1, h2⟩, ⟨b, m, e, e1, e2⟩ => by
  subst e
  refine ⟨v, r, h, ?_, gf7.eqv h2 e2⟩
  rcases e1 with rfl | e1
  ·exact h1
  ·exact h1.eqv e1
theorem mj7.eqv {x y : RV} {v : Value} (h : mj7 rho w x v) (e : fvb7 x y) : mj7 rho w y v := by
 cases x with
 | tup l =>
  obtain ⟨m, rfl, e⟩ := e
  obtain ⟨vs, h1, h2⟩ := h
  exact ⟨vs, h1, h2.eqv e⟩
 | c a => obtain ⟨b, rfl, e⟩ := e; exact df7.eqv' h e
 | agg l => obtain ⟨b, rfl, e⟩ := e; obtain ⟨vs, h1, h2⟩ := h; exact ⟨vs, h1, h2.eqv e⟩
 | fn => exact e.elim
theorem se7.keep (hb : ∀ b, rho b → w'.heap[b]? = w.heap[b]?) (hr : ∀ b, rho b → rho' b) : ∀ {l : List AV} {vs : List Value}, se7 rho w l vs → se7 rho' w' l vs
 | [], _, h => h
 | _ :: _, _, ⟨v, r, h, h1, h2⟩ => ⟨v, r, h, h1.keep hb hr, se7.keep hb hr h2⟩
theorem yk7.keep (hb : ∀ b, rho b → w'.heap[b]? = w.heap[b]?) (hr : ∀ b, rho b → rho' b) : ∀ {x : RV} {v : Value}, yk7 rho w x v → yk7 rho' w' x v
 | .c _, _, h => df7.keep hb hr h
 | .agg _, _, ⟨vs, h, h1⟩ => ⟨vs, h, h1.keep hb hr⟩
 | .fn .., _, ⟨vs, h, h1⟩ => ⟨vs, h, h1.keep hb hr⟩
theorem gf7.keep (hb : ∀ b, rho b → w'.heap[b]? = w.heap[b]?) (hr : ∀ b, rho b → rho' b) : ∀ {l : List RV} {vs : List Value}, gf7 rho w l vs → gf7 rho' w' l vs
 | [], _, h => h
 | _ :: _, _, ⟨v, r, h, h1, h2⟩ => ⟨v, r, h, h1.keep hb hr, gf7.keep hb hr h2⟩
theorem mj7.keep (hb : ∀ b, rho b → w'.heap[b]? = w.heap[b]?) (hr : ∀ b, rho b → rho' b) {x : RV} {v : Value} (h : mj7 rho w x v) : mj7 rho' w' x v := by
 cases x with
 | tup l => obtain ⟨vs, h1, h2⟩ := h; exact ⟨vs, h1, h2.keep hb hr⟩
 | c a => exact yk7.keep (x := .c a) hb hr h
 | agg l => exact yk7.keep (x := .agg l) hb hr h
 | fn f l => exact yk7.keep (x := .fn f l) hb hr h
variable {M : Mp} {H : List Root}
theorem se7.up : ∀ {l : List AV} {vs : List Value}, se7 M.rho w l vs → wf7 M H w l vs
 | [], _, h => h
 | _ :: _, _, ⟨v, r, h, h1, h2⟩ => ⟨v, r, h, Con.of0 h1, se7.up h2⟩
theorem yk7.up : ∀ {x : RV} {v : Value}, yk7 M.rho w x v → de7 M H w x v
 | .c _, _, h => Con.of0 h
 | .agg _, _, ⟨vs, h, h1⟩ => ⟨vs, h, h1.up⟩
 | .fn .., _, ⟨vs, h, h1⟩ => ⟨vs, h, h1.up⟩
theorem gf7.up : ∀ {l : List RV} {vs : List Value}, gf7 M.rho w l vs → qe7 M H w l vs
 | [], _, h => h
 | _ :: _, _, ⟨v, r, h, h1, h2⟩ => ⟨v, r, h, h1.up, gf7.up h2⟩
theorem mj7.up {x : RV} {v : Value} (h : mj7 M.rho w x v) : de7 M H w x v := by
 cases x with
 | tup l => obtain ⟨vs, h1, h2⟩ := h; exact ⟨vs, h1, h2.up⟩
 | c a => exact yk7.up (x := .c a) h
 | agg l => exact yk7.up (x := .agg l) h
 | fn f l => exact yk7.up (x := .fn f l) h
end
def qi7 (P : Program) (f : FuncId) (args : List RV) (post : RV → Prop) : Prop :=
 Enters P f ∧ ∀ (rho : Nat → Prop) (w : World) (vs : List Value), (∀ b, rho b → b < w.heap.size) → gf7 rho w args vs →
  Calls P f vs.toArray w fun e w' => ∃ r v rho', e = .returned v ∧ post r ∧ mj7 rho' w' r v ∧ (∀ b, rho' b → rho b ∨ (w.heap.size ≤ b ∧ b < w'.heap.size)) ∧ Below w.heap.size w w'
def wwb7 (H : List Root) : RV → RV
 | .c a => .c (frz H a)
 | .agg l => .agg (zr7 H l)
 | .fn f l => .fn f (zr7 H l)
 | .tup l => .tup l
def ls7 (H : List Root) : List RV → List RV
 | [] => []
 | a :: l => wwb7 H a :: ls7 H l
def czb7 (H : List Root) : RV → RV
 | .tup l => .tup (ls7 H l)
 | x => wwb7 H x
def okR (H : List Root) : RV → Prop
 | .c a => bh7 H [a]
 | .agg l => bh7 H l
 | .fn _ l => bh7 H l
 | .tup _ => False
def iob7 (H : List Root) : List RV → Prop
 | [] => True
 | a :: l => okR H a ∧ iob7 H l
def okT (H : List Root) : RV → Prop
 | .tup l => iob7 H l
 | x => okR H x
def ldb7 (H : List Root) : RV → List Root
 | .c a => frzH H [a]
 | .agg l => frzH H l
 | .fn _ l => frzH H l
 | .tup _ => H
def dl7 : List Root → List RV → List Root
 | H, [] => H
 | H, a :: l => dl7 (ldb7 H a) l
section
variable {P : Program} {ty : Ty} {E : Env} {nt : Nat} {M M' : Mp} {H : List Root} {σ σ' : AS} {a a' : Act} {w w' : World}
theorem ip7 : ∀ (l : List AV) {H : List Root}, (∀ id st len, AV.h id st len ∈ l → ∃ fz t sz r, ea7 H id = .live fz t sz r) → (∀ x, frz (frzH H l) x = frz H x) ∧ (∀ m, bh7 H m → bh7 (frzH H l) m) ∧ ∀ id, (∃ fz t sz r, ea7 H id = .live fz t sz r) → ∃ fz t sz r, ea7 (frzH H l) id = .live fz t sz r
 | [], _, _ => ⟨fun _ => rfl, fun _ h => h, fun _ h => h⟩
 | a :: l, H, h => by
  have plain : frzH H (a :: l) = frzH H l → (∀ x, frz (frzH H (a :: l)) x = frz H x) ∧ (∀ m, bh7 H m → bh7 (frzH H (a :: l)) m) ∧ ∀ id, (∃ fz t sz r, ea7 H id = .live fz t sz r) → ∃ fz t sz r, ea7 (frzH H (a :: l)) id = .live fz t sz r := fun e => by
   obtain ⟨h1, h2, h3⟩ := ip7 l (H := H) (fun id st len hm => h id st len (List.mem_cons_of_mem _ hm))
   rw [e]
   exact ⟨h1, h2, h3⟩
  cases a with
  | h id st len =>
   obtain ⟨fz, t, sz, r, hr⟩ := h id st len (List.mem_cons_self ..)
   have hlive : ∀ id', (∃ fz t sz r, ea7 H id' = .live fz t sz r) → ∃ fz t sz r, ea7 (bb7 H id (ea7 H id).mark) id' = .live fz t sz r := fun id' ⟨f, t2, s2, r2, h2⟩ => by
    rw [jk7 hr]
    by_cases e : id' = id
    ·exact ⟨true, t, sz, r, by rw [if_pos e]⟩
    ·exact ⟨f, t2, s2, r2, by rw [if_neg e]; exact h2⟩
   obtain ⟨h1, h2, h3⟩ := ip7 l (H := bb7 H id (ea7 H id).mark) (fun id' st len hm => hlive _ (h id' st len (List.mem_cons_of_mem _ hm)))
   exact ⟨fun x => by simp only [frzH]; rw [h1, ugb7 hr], fun m hm => h2 m (om7 hr m hm), fun id' h' => h3 id' (hlive id' h')⟩
  | _ => exact plain rfl
theorem ed7 : ∀ {l : List AV}, bh7 H l → ∀ id st len, AV.h id st len ∈ l → ∃ fz t sz r, ea7 H id = .live fz t sz r
 | a :: l, h, id, st, len, hm => by
  rcases List.mem_cons.1 hm with rfl | hm2
  ·have := h.1
   unfold bqb7 at this
   split at this
   ·rename_i fz t sz r hr; exact ⟨fz, t, sz, r, hr⟩
   ·exact this.elim
  ·cases a with
   | h => exact ed7 h.2 id st len hm2
   | ptr => exact h.elim
   | junk => exact h.elim
   | ws => exact h.elim
   | wu => exact h.elim
   | wp => exact h.elim
   | int => exact ed7 (l := l) h id st len hm2
   | bool => exact ed7 (l := l) h id st len hm2
   | flt => exact ed7 (l := l) h id st len hm2
   | str => exact ed7 (l := l) h id st len hm2
   | nilp => exact ed7 (l := l) h id st len hm2
   | nils => exact ed7 (l := l) h id st len hm2
   | sl => exact ed7 (l := l) h id st len hm2
   | rp => exact ed7 (l := l) h id st len hm2
theorem vbb7 {H' : List Root} (h : ∀ x, frz H' x = frz H x) : ∀ l : List AV, zr7 H' l = zr7 H l
 | [] => rfl
 | x :: l => by simp [zr7, h, vbb7 h l]
theorem bx7 {H' : List Root} (h : ∀ x, frz H' x = frz H x) : ∀ l : List RV, ls7 H' l = ls7 H l
 | [] => rfl
 | x :: l => by cases x <;> simp [ls7, wwb7, h, vbb7 h, bx7 h l]
theorem rz7 (h : Rel E M H w) {x : RV} {v : Value} (ho : okR H x) (hc : de7 M H w x v) : ∃ M', M'.phi = M.phi ∧ (∀ b, M.rho b → M'.rho b) ∧ Rel E M' (ldb7 H x) w ∧ Kp M H w M' (ldb7 H x) w ∧ yk7 M'.rho w (wwb7 H x) v ∧
  (∀ y, frz (ldb7 H x) y = frz H y) ∧ (∀ m, bh7 H m → bh7 (ldb7 H x) m) := by
 cases x with
 | c a =>
  obtain ⟨M', e1, e2, e3, e4, e5⟩ := st7 [a] h ho
  obtain ⟨f1, f2, -⟩ := ip7 [a] (ed7 ho)
  obtain ⟨u, r, e, c1, -⟩ := e5 [v] ⟨v, [], rfl, hc, rfl⟩
  cases e
  exact ⟨M', e1, e2, e3, e4, c1, f1, f2⟩
 | agg l =>
  obtain ⟨M', e1, e2, e3, e4, e5⟩ := st7 l h ho
  obtain ⟨f1, f2, -⟩ := ip7 l (ed7 ho)
  obtain ⟨vs, rfl, c⟩ := hc
  exact ⟨M', e1, e2, e3, e4, ⟨vs, rfl, e5 vs c⟩, f1, f2⟩
 | fn f l =>
  obtain ⟨M', e1, e2, e3, e4, e5⟩ := st7 l h ho
  obtain ⟨f1, f2, -⟩ := ip7 l (ed7 ho)
  obtain ⟨vs, rfl, c⟩ := hc
  exact ⟨M', e1, e2, e3, e4, ⟨vs, rfl, e5 vs c⟩, f1, f2⟩
 | tup l => exact ho.elim
theorem ss7 {H' : List Root} (hm : ∀ m, bh7 H m → bh7 H' m) : ∀ {l : List RV}, iob7 H l → iob7 H' l
 | [], _ => trivial
 | .c _ :: _, h => ⟨hm _ h.1, ss7 hm h.2⟩
 | .agg _ :: _, h => ⟨hm _ h.1, ss7 hm h.2⟩
 | .fn .. :: _, h => ⟨hm _ h.1, ss7 hm h.2⟩
theorem us7 : ∀ (l : List RV) {M : Mp} {H : List Root} {vs : List Value}, Rel E M H w → iob7 H l → qe7 M H w l vs → ∃ M', M'.phi = M.phi ∧ (∀ b, M.rho b → M'.rho b) ∧ Rel E M' (dl7 H l) w ∧ Kp M H w M' (dl7 H l) w ∧ gf7 M'.rho w (ls7 H l) vs
 | [], M, H, vs, h, _, hc => ⟨M, rfl, fun _ h => h, h, Kp.refl _ _ _, hc⟩
 | x :: l, M, H, _, h, ho, ⟨v, r, e, h1, h2⟩ => by
  subst e
  obtain ⟨M1, e1, e2, e3, e4, e5, e6, e7⟩ := rz7 h ho.1 h1
  obtain ⟨M2, k1, k2, k3, k4, k5⟩ := us7 l e3 (ss7 e7 ho.2) (e4.RL h2)
  refine ⟨M2, k1.trans e1, fun b hb => k2 b (e2 b hb), k3, e4.trans k4, v, r, rfl, e5.keep (fun _ _ => rfl) k2, ?_⟩
  rwa [bx7 e6] at k5
theorem wlb7 (h : Rel E M H w) {x : RV} {v : Value} (ho : okT H x) (hc : de7 M H w x v) : ∃ M' H', Rel E M' H' w ∧ mj7 M'.rho w (czb7 H x) v := by
 cases x with
 | tup l =>
  obtain ⟨vs, rfl, c⟩ := hc
  obtain ⟨M', -, -, e3, -, e5⟩ := us7 l h ho c
  exact ⟨M', _, e3, vs, rfl, e5⟩
 | c a => obtain ⟨M', -, -, e3, -, e5, -⟩ := rz7 (x := .c a) h ho hc; exact ⟨M', _, e3, e5⟩
 | agg l => obtain ⟨M', -, -, e3, -, e5, -⟩ := rz7 (x := .agg l) h ho hc; exact ⟨M', _, e3, e5⟩
 | fn f l => obtain ⟨M', -, -, e3, -, e5, -⟩ := rz7 (x := .fn f l) h ho hc; exact ⟨M', _, e3, e5⟩
section
variable (ty)
def zwb7 (σ : AS) : ResultVar → Vo
 | .tmp t => ((lk σ.tm t).1 = true, (lk σ.tm t).2)
 | .cell a t => ((lk σ.tm a).1 = true ∧ (ieb7 (ty t) σ.H (lk σ.tm a).2).1, (ieb7 (ty t) σ.H (lk σ.tm a).2).2)
def ws7 (σ : AS) : List ResultVar → Prop × List RV
 | [] => (True, [])
 | r :: l => ((zwb7 ty σ r).1 ∧ (ws7 σ l).1, (zwb7 ty σ r).2 :: (ws7 σ l).2)
def one : List RV → RV
 | [x] => x
 | l => .tup l
def vzb7 (rs : List ResultVar) (K : RV → List Root → Prop) : Exit → AS → Prop
 | .ret, σ => (ws7 ty σ rs).1 ∧ K (one (ws7 ty σ rs).2) σ.H
 | .normal, σ => (ws7 ty σ rs).1 ∧ K (one (ws7 ty σ rs).2) σ.H
 | _, _ => False
end
def zcb7 (a : Act) : ResultVar → Sem Value
 | .tmp t => pure (a.tmps.getD t undef)
 | .cell x t => do loadVar t (← asAddr (a.tmps.getD x undef))
theorem rsb7 (hT : cj7 P ty) (h : St E nt M σ a w) {r : ResultVar} (ho : (zwb7 ty σ r).1) : ∃ v, de7 M σ.H w (zwb7 ty σ r).2 v ∧ (zcb7 a r).run P w = .ok v w := by
 cases r with
 | tmp t => exact ⟨_, h.tms t ho, rfl⟩
 | cell x t =>
  obtain ⟨h1, h2⟩ := ho
  have hc := h.tms x h1
  obtain ⟨v, k1, k2⟩ := nlb7 hT h.rel t hc h2
  refine ⟨v, k1, ?_⟩
  have k3 := k2 w Same.refl
  show (do loadVar t (← asAddr (a.tmps.getD x undef)) : Sem Value).run P w = _
  obtain ⟨u, hu⟩ : ∃ u, u = a.tmps.getD x undef := ⟨_, rfl⟩
  rw [← hu] at k3 ⊢
  clear hu
  cases u <;> first | (simp [Instr.loadAt, Instr.sureAddr, stuck] at k3; done) | skip
  rename_i p
  cases p with
  | none => simp [Instr.loadAt, Instr.sureAddr, stuck] at k3
  | some ad =>
   simp only [Instr.loadAt, Instr.sureAddr] at k3
   simpa [asAddr] using k3
theorem clb7 (hT : cj7 P ty) (h : St E nt M σ a w) : ∀ (rs : List ResultVar), (ws7 ty σ rs).1 → ∃ vs, qe7 M σ.H w (ws7 ty σ rs).2 vs ∧ (rs.mapM (zcb7 a)).run P w = .ok vs w
 | [], _ => ⟨[], rfl, rfl⟩
 | r :: rs, ho => by
  obtain ⟨v, h1, h2⟩ := rsb7 hT h ho.1
  obtain ⟨vs, h3, h4⟩ := clb7 hT h rs ho.2
  refine ⟨v :: vs, ⟨v, vs, rfl, h1, h3⟩, ?_⟩
  rw [List.mapM_cons, Sem.run_bind, h2]
  simp only [Result.andThen]
  rw [Sem.run_bind, h4]
  rfl
theorem hu7 : ∀ {l : List RV} {vs : List Value}, qe7 M H w l vs → vs.length = l.length
 | [], _, h => by cases h; rfl
 | _ :: _, _, ⟨v, r, e, _, h⟩ => by subst e; simp [hu7 h]
theorem nq7 (hT : cj7 P ty) (h : St E nt M σ a w) {fn : Func} {rs : List ResultVar} (hr : fn.results.toList = rs) (ho : (ws7 ty σ rs).1) : ∃ v, de7 M σ.H w (one (ws7 ty σ rs).2) v ∧ (results fn a.tmps).run P w = .ok v w := by
 obtain ⟨vs, h1, h2⟩ := clb7 hT h rs ho
 have hrun : (results fn a.tmps).run P w = .ok (if h : vs.toArray.size = 1 then vs.toArray[0] else .tuple vs.toArray) w := by
  have hfun : ∀ f : ResultVar → Sem Value, (∀ r, f r = zcb7 a r) → fn.results.mapM f = fn.results.mapM (zcb7 a) := fun f hf => by rw [funext hf]
  unfold results
  rw [Sem.run_bind, hfun _ (fun r => by cases r <;> rfl), Array.mapM_eq_mapM_toList, hr]
  have : ((List.toArray <$> rs.mapM (zcb7 a)) : Sem (Array Value)).run P w = .ok vs.toArray w := by
   rw [map_eq_pure_bind, Sem.run_bind, h2]; rfl
  rw [this]
  rfl
 refine ⟨_, ?_, hrun⟩
 have hl := hu7 h1
 generalize (ws7 ty σ rs).2 = l at h1 hl
 match l, vs, h1, hl with
 | [x], [v], ⟨v', r, e, c1, c2⟩, _ => cases e; exact c1
 | [], [], h1, _ => exact ⟨[], rfl, h1⟩
 | x :: y :: l, v :: u :: vs, h1, _ =>
  have : ¬ (v :: u :: vs).toArray.size = 1 := by simp
  rw [dif_neg this]
  exact ⟨_, rfl, h1⟩
def xib7 : Nat → List RV → Tm
 | _, [] => []
 | k, x :: l => (k, true, x) :: xib7 (k + 1) l
theorem sdb7 : ∀ (l : List RV) (k t : Nat) (vs : List Value), qe7 M H w l vs → (lk (xib7 k l) t).1 = true ∧ (∀ v, (k ≤ t ∧ vs[t - k]? = some v) → de7 M H w (lk (xib7 k l) t).2 v) ∧ ((t < k ∨ k + vs.length ≤ t) → (lk (xib7 k l) t).2 = .c .junk)
 | [], k, t, vs, h => by cases h; exact ⟨rfl, fun v h => by simp at h, fun _ => rfl⟩
 | x :: l, k, t, _, ⟨v, r, e, h1, h2⟩ => by
  subst e
  simp only [xib7, lk]
  by_cases e : k = t
  ·subst e
   rw [if_pos rfl]
   exact ⟨rfl, fun u hu => by simp at hu; subst hu; exact h1, fun h => by simp at h; omega⟩
  ·rw [if_neg e]
   obtain ⟨i1, i2, i3⟩ := sdb7 l (k + 1) t r h2
   refine ⟨i1, fun u ⟨hu1, hu2⟩ => i2 u ⟨by omega, ?_⟩, fun h => i3 (by simp at h; omega)⟩
   rw [show t - k = (t - (k + 1)) + 1 by omega] at hu2
   simpa using hu2
theorem St.enter (h : Rel E M H w) {args : List RV} {vs : List Value} (hc : qe7 M H w args vs) {n : Nat} (hn : args.length ≤ n) : St E n M ⟨xib7 0 args, H⟩ ⟨vs.toArray ++ Array.replicate (n - vs.toArray.size) undef, []⟩ w := by
 have hl := hu7 hc
 refine ⟨h, fun t ht => ?_, fun t ht => ?_, by simp; omega, rfl⟩
 ·obtain ⟨i1, i2, i3⟩ := sdb7 args 0 t vs hc
  show de7 M H w (lk (xib7 0 args) t).2 ((vs.toArray ++ Array.replicate (n - vs.toArray.size) undef).getD t undef)
  by_cases hlt : t < vs.length
  ·have : (vs.toArray ++ Array.replicate (n - vs.toArray.size) undef).getD t undef = vs[t] := by
    rw [Array.getD_eq_getD_getElem?, Array.getElem?_append_left (by simpa using hlt)]
    simp [hlt]
   rw [this]
   exact i2 _ ⟨Nat.zero_le _, by simp [hlt]⟩
  ·rw [i3 (.inr (by omega))]; trivial
 ·obtain ⟨i1, -⟩ := sdb7 args 0 t vs hc
  have ht' : (lk (xib7 0 args) t).1 = false := ht
  rw [i1] at ht'; cases ht'
def dcc7 (post : RV → Prop) (r : RV) (H : List Root) : Prop := okT H r ∧ ∃ r', fvb7 (czb7 H r) r' ∧ post r'
theorem ys7 (hT : cj7 P ty) (hm : P.follows .mixedOrders = true) {f : FuncId} {fn : Func} {c : Code} (ord : Nat → List Nat × Nat × Option Nat) (hf : P.funcs[f]? = some fn) (hb : fn.body = some c) (hname : (fn.name == "runtime.NumGoroutine") = false) {n : Nat} (hnt : fn.ntmps = n) {rs : List ResultVar} (hr : fn.results.toList = rs)
  (hok : okC n ord c = true) {args : List RV} (hn : args.length ≤ n) {post : RV → Prop}
  (h : awp P ty ord c (vzb7 ty rs (dcc7 post)) ⟨xib7 0 args, []⟩) : qi7 P f args post := by
 refine ⟨⟨fn, c, hf, hname, hb⟩, fun rho w vs hrho hc => calls_of_wp hf hb ?_⟩
 have hrel : Rel ⟨w, rho⟩ ⟨fun _ => 0, rho, fun _ => none⟩ [] w := ⟨Below.refl _ _, fun _ _ _ _ _ h => (by cases h), fun _ _ _ _ _ h => (by cases h), fun _ _ _ _ h => (by cases h), fun _ _ _ _ h => (by cases h), fun _ _ _ _ _ _ _ _ h => (by cases h), hrho, fun b hb => .inl hb, ⟨fun _ _ h => (by cases h), fun _ _ _ _ _ _ _ h => (by cases h), fun _ _ _ h => (by cases h)⟩⟩
 have hst := St.enter hrel (gf7.up (M := ⟨fun _ => 0, rho, fun _ => none⟩) (H := []) hc) (n := n) hn
 rw [hnt]
 refine wp_mono (wp7 hT hm c hok hst h) fun e a' w' ⟨hp, M', σ', q1, q2, q3⟩ => ?_
 have fin : (ws7 ty σ' rs).1 ∧ (okT σ'.H (one (ws7 ty σ' rs).2) ∧ ∃ r', fvb7 (czb7 σ'.H (one (ws7 ty σ' rs).2)) r' ∧ post r') → a'.defers = [] ∧ ∃ v, (results fn a'.tmps).run P w' = .ok v w' ∧ ∃ r v' rho', Ending.returned v = .returned v' ∧ post r ∧ mj7 rho' w' r v' ∧ (∀ b, rho' b → rho b ∨ (w.heap.size ≤ b ∧ b < w'.heap.size)) ∧ Below w.heap.size w w' := by
  rintro ⟨h1, h2, r', h3, h4⟩
  obtain ⟨v, k1, k2⟩ := nq7 hT q1 hr h1
  obtain ⟨M2, H2, k3, k4⟩ := wlb7 q1.rel h2 k1
  refine ⟨q1.df, v, k2, r', v, M2.rho, rfl, h4, k4.eqv h3, fun b hb => ?_, q1.rel.bel⟩
  rcases k3.src b hb with h | h
  ·exact .inl h
  ·exact .inr ⟨h, k3.rlt b hb⟩
 cases e with
 | normal => exact fin q3
 | ret => exact fin q3
 | panic ch => exact absurd rfl (hp ch)
 | exit id => exact q3.elim
 | goto l => exact q3.elim
 | outgrown => exact q3.elim
def AV.scal : AV → Bool
 | .int .. | .bool _ | .flt _ | .str _ | .nilp | .nils => true
 | _ => false
def gpb7 : List AV → Bool
 | [] => true
 | a :: l => a.scal && gpb7 l
def xtb7 : RV → Bool
 | .c a => a.scal
 | .agg l => gpb7 l
 | _ => false
def agb7 : List RV → Bool
 | [] => true
 | a :: l => xtb7 a && agb7 l
def yub7 : RV → Bool
 | .tup l => agb7 l
 | x => xtb7 x
theorem nfb7 {rho rho' : Nat → Prop} {x : AV} {v : Value} (hs : x.scal = true) (h : df7 rho w x v) : df7 rho' w' x v := by
 cases x <;> first | exact h | cases hs
theorem yab7 {rho rho' : Nat → Prop} : ∀ {l : List AV} {vs : List Value}, gpb7 l = true → se7 rho w l vs → se7 rho' w' l vs
 | [], _, _, h => h
 | _ :: _, _, hs, ⟨v, r, e, h1, h2⟩ => by
  simp only [gpb7, Bool.and_eq_true] at hs
  exact ⟨v, r, e, nfb7 hs.1 h1, yab7 hs.2 h2⟩
theorem ct7 {rho rho' : Nat → Prop} {x : RV} {v : Value} (hs : xtb7 x = true) (h : yk7 rho w x v) : yk7 rho' w' x v := by
 cases x with
 | c a => exact nfb7 hs h
 | agg l => obtain ⟨vs, e, h⟩ := h; exact ⟨vs, e, yab7 hs h⟩
 | fn => cases hs
 | tup => cases hs
theorem ex7 {rho rho' : Nat → Prop} : ∀ {l : List RV} {vs : List Value}, agb7 l = true → gf7 rho w l vs → gf7 rho' w' l vs
 | [], _, _, h => h
 | _ :: _, _, hs, ⟨v, r, e, h1, h2⟩ => by
  simp only [agb7, Bool.and_eq_true] at hs
  exact ⟨v, r, e, ct7 hs.1 h1, ex7 hs.2 h2⟩
theorem xkb7 {rho rho' : Nat → Prop} {x : RV} {v : Value} (hs : yub7 x = true) (h : mj7 rho w x v) : mj7 rho' w' x v := by
 cases x with
 | tup l => obtain ⟨vs, e, h⟩ := h; exact ⟨vs, e, ex7 hs h⟩
 | c a => exact ct7 (x := .c a) hs h
 | agg l => exact ct7 (x := .agg l) hs h
 | fn f l => cases hs
theorem vkb7 {pu : Pu} {f : FuncId} {args args' : List RV} {post : RV → Prop} {K : RV → List Root → Prop} (hp : qi7 P f args' post) (ho : iob7 H args) (he : gib7 (ls7 H args) args') (hs : ∀ r, post r → yub7 r = true) (hK : ∀ r, post r → K r H) : qt7 P pu f args H K := by
 refine ⟨hp.1, fun E M w vs h hc => ?_⟩
 obtain ⟨M1, e1, e2, e3, e4, e5⟩ := us7 args h ho hc
 refine (hp.2 M1.rho w vs e3.rlt (e5.eqv he)).mono ?_
 rintro e w' ⟨r, v, rho', rfl, h1, h2, h3, h4⟩
 exact ⟨M, H, r, v, rfl, h.below h4, Kp.below h h4, mj7.up (xkb7 (hs r h1) h2), fun _ _ => zi7.below h4, Nat.le_refl _, hK r h1⟩
theorem jq7 : ∀ l : List RV, gib7 l l
 | [] => rfl
 | _ :: l => ⟨_, _, rfl, .inl rfl, jq7 l⟩
theorem oe7 {pu : Pu} {f : FuncId} {args args' : List RV} {post : RV → Prop} {K : RV → List Root → Prop} (hp : qi7 P f args' post) (ho : iob7 H args) (he : ls7 H args = args') (hs : ∀ r, post r → yub7 r = true) (hK : ∀ r, post r → K r H) : qt7 P pu f args H K :=
 vkb7 hp ho (by rw [he]; exact jq7 _) hs hK
def frL : List AV → Bool
 | [] => true
 | a :: l => a.fr && frL l
theorem wx7 : ∀ (l : List RV) (H : List Root), (dl7 H l).length = H.length
 | [], _ => rfl
 | x :: l, H => by
  simp only [dl7]
  rw [wx7 l]
  cases x <;> simp [ldb7, um7]
theorem nsb7 {pu : Pu} {f : FuncId} {args args' : List RV} {post : RV → Prop} {K : RV → List Root → Prop} (hp : qi7 P f args' post) (ho : iob7 H args) (he : gib7 (ls7 H args) args') (hK : ∀ r, post r → K r (dl7 H args)) : qt7 P pu f args H K := by
 refine ⟨hp.1, fun E M w vs h hc => ?_⟩
 obtain ⟨M1, e1, e2, e3, e4, e5⟩ := us7 args h ho hc
 refine (hp.2 M1.rho w vs e3.rlt (e5.eqv he)).mono ?_
 rintro e w' ⟨r, v, rho', rfl, h1, h2, h3, h4⟩
 have h5 := e3.below h4
 have h6 := Kp.below e3 h4
 have hkp : Kp M1 (dl7 H args) w' ⟨M1.phi, fun b => M1.rho b ∨ (w.heap.size ≤ b ∧ b < w'.heap.size), M1.tau⟩ (dl7 H args) w' := by
  intro x v c
  cases x with
  | ptr => exact c
  | h => exact c
  | ws => exact c
  | wu => exact c
  | wp => exact c
  | junk => trivial
  | _ => exact df7.keep (fun _ _ => rfl) (fun _ h => .inl h) c
 refine ⟨⟨M1.phi, fun b => M1.rho b ∨ (w.heap.size ≤ b ∧ b < w'.heap.size), M1.tau⟩, dl7 H args, r, v, rfl, ?_, (e4.trans h6).trans hkp, mj7.up (mj7.keep (fun _ _ => rfl) h3 h2), fun _ _ => zi7.below h4, by rw [wx7]; exact Nat.le_refl _, hK r h1⟩
 refine ⟨h5.bel, h5.low, fun id fz t sz q hr => (h5.row id fz t sz q hr).keep hkp (fun _ _ => rfl) (fun _ h => .inl h) rfl, fun id t sz q hr => .inl (h5.froz id t sz q hr), fun id t sz q hr => ?_, h5.inj, fun b hb => ?_, fun b hb => ?_, h5.tau.keep rfl (fun _ _ _ => rfl) (fun b q hq => ?_) h5.tau.row⟩
 ·rintro (hb | ⟨hb, -⟩)
  ·exact h5.thaw id t sz q hr hb
  ·have hlt : M1.phi id < w.heap.size := e3.lt hr
   have hb : w.heap.size ≤ M1.phi id := hb
   omega
 ·rcases hb with hb | ⟨-, hb⟩
  ·exact h5.rlt b hb
  ·exact hb
 ·rcases hb with hb | ⟨hb, -⟩
  ·exact h5.src b hb
  ·exact .inr (Nat.le_trans e3.bel.size hb)
 ·rintro (hb | ⟨hb, -⟩)
  ·exact (h5.tau.new b q hq).2 hb
  ·have := e3.tau.lt hq; omega
def kB (P : Program) (ty : Ty) (t : TypeId) : TyK → Bool
 | .i k => match P.underlying t with
  | some (.int k') => decide (k = k')
  | _ => false
 | .b => match P.underlying t with
  | some .bool => true
  | _ => false
 | .str => match P.underlying t with
  | some .string => true
  | _ => false
 | .sc => match P.underlying t with
  | some (.struct _) => false
  | some (.array ..) => false
  | some _ => true
  | none => false
 | .st fs => match P.underlying t with
  | some (.struct fields) => decide (fields.toList.map (fun f => (f.offset, P.cellsOf f.type)) = fs) && fields.toList.all (fun f => (P.info? f.type).isSome)
  | _ => false
 | .ar n esz => match P.underlying t with
  | some (.array n' e) => decide (n = n') && decide (P.cellsOf e = esz) && (P.info? e).isSome
  | _ => false
 | .sl e => match P.underlying t with
  | some (.slice e') => decide (e = e') && (match (ty e).k with | .no => false | _ => true)
  | _ => false
 | .no => true
def tyB (P : Program) (ty : Ty) (t : TypeId) : Bool :=
 kB P ty t (ty t).k && (match (ty t).k with
  | .no => true
  | _ => match P.info? t with
   | some i => decide (i.size = (ty t).sz) && decide (i.bytes = (ty t).bytes) && (match i.zero with
    | some z => zvL (ty t).zero z.cells.toList && decide (z.cells.size = (ty t).sz)
    | none => false)
   | none => false)
theorem mcc7 {t : TypeId} : ∀ {k : TyK}, kB P ty t k = true → kOk P ty t k
 | .i k, h => by
  simp only [kB] at h
  split at h
  ·rename_i k' hu; simp only [decide_eq_true_eq] at h; subst h; exact hu
  ·cases h
 | .b, h => by
  simp only [kB] at h
  split at h
  ·rename_i hu; exact hu
  ·cases h
 | .str, h => by
  simp only [kB] at h
  split at h
  ·rename_i hu; exact hu
  ·cases h
 | .sc, h => by
  simp only [kB] at h
  split at h
  ·cases h
  ·cases h
  ·rename_i d h1 h2 hu
   refine ⟨d, hu, ?_⟩
   cases d <;> first | trivial | (exact h1 _ rfl) | (exact h2 _ _ rfl)
  ·cases h
 | .st fs, h => by
  simp only [kB] at h
  split at h
  ·rename_i fields hu
   simp only [Bool.and_eq_true, decide_eq_true_eq, List.all_eq_true] at h
   exact ⟨fields, hu, h.1, h.2⟩
  ·cases h
 | .ar n esz, h => by
  simp only [kB] at h
  split at h
  ·rename_i n' e hu
   simp only [Bool.and_eq_true, decide_eq_true_eq] at h
   obtain ⟨⟨rfl, h2⟩, h3⟩ := h
   exact ⟨e, hu, h2, h3⟩
  ·cases h
 | .sl e, h => by
  simp only [kB] at h
  split at h
  ·rename_i e' hu
   simp only [Bool.and_eq_true, decide_eq_true_eq] at h
   obtain ⟨rfl, h2⟩ := h
   exact ⟨hu, by split at h2 <;> first | (cases h2; done) | (split <;> simp_all)⟩
  ·cases h
 | .no, _ => trivial
theorem ryb7 {t : TypeId} (h : tyB P ty t = true) : yvb7 P ty t := by
 unfold tyB at h
 rw [Bool.and_eq_true] at h
 obtain ⟨h1, h2⟩ := h
 refine ⟨mcc7 h1, ?_⟩
 cases hk : (ty t).k
 case no => trivial
 all_goals
  rw [hk] at h2
  simp only at h2
  split at h2
  ·rename_i i hi
   simp only [Bool.and_eq_true, decide_eq_true_eq] at h2
   obtain ⟨⟨h3, h4⟩, h5⟩ := h2
   split at h5
   ·rename_i z hz
    simp only [Bool.and_eq_true, decide_eq_true_eq] at h5
    exact ⟨i, z, hi, h3, h4, hz, h5.1, h5.2⟩
   ·cases h5
  ·cases h2
theorem aub7 {n : Nat} (h : (List.range n).all (tyB P ty) = true) (h2 : ∀ t, n ≤ t → (ty t).k = .no) : cj7 P ty := by
 intro t
 by_cases e : t < n
 ·exact ryb7 (List.all_eq_true.1 h t (List.mem_range.2 e))
 ·exact ⟨by rw [h2 t (Nat.le_of_not_lt e)]; trivial, by rw [h2 t (Nat.le_of_not_lt e)]; trivial⟩
end
end Go.Proofs.Ytafhjfkdlmijdaa.Ab
