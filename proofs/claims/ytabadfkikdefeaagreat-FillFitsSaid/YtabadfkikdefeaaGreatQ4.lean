/- Texts of the proof, joined: A6, A7, AR, A8. -/
import Derived.Test.YtabadfkikdefeaaGreatR2
set_option linter.all false
set_option maxRecDepth 100000
set_option maxHeartbeats 6400000
namespace Go.Proofs.YtabadfkikdefeaaGreat.Ab
open Go.RowKit
section
variable {P : Program} {ty : Ty} {E : Env} {nt : Nat} {M M' : Mp} {H H' : List Root} {σ : AS} {a : Act} {w w' : World}
theorem OldD.below {g : Option Nat} (h : Below w.heap.size w w') : OldD g w w' := ⟨h.size, fun b hb _ => h.block b hb⟩
theorem lk_put (tm : Tm) (g : Bool) (d t : Nat) (v : RV) : lk (putT tm g (some d) v) t = if d = t then (g, v) else lk tm t := rfl
theorem getD_put (a : Act) (d t : Nat) (v : Value) (hd : d < a.tmps.size) : (a.put (some d) v).tmps.getD t undef = if d = t then v else a.tmps.getD t undef := by
 simp only [Act.put, Array.getD_eq_getD_getElem?, Array.getElem?_setIfInBounds]
 by_cases e : d = t
 ·subst e; simp [hd]
 ·simp [e]
theorem St.put (h : St E nt M σ a w) (hr : Rel E M' H' w') (hk : Kp M σ.H w M' H' w') {d : Option Nat} (hd : ∀ t, d = some t → t < nt) {r : RV} {v : Value} (hv : ConR M' H' w' r v) : St E nt M' ⟨putT σ.tm true d r, H'⟩ (a.put d v) w' := by
 cases d with
 | none => exact ⟨hr, fun t ht => hk.R (h.tms t ht), h.off, h.sz, h.df⟩
 | some d =>
  have hd' : d < a.tmps.size := by rw [h.sz]; exact hd d rfl
  refine ⟨hr, fun t ht => ?_, fun t ht => ?_, by simp [Act.put, h.sz], h.df⟩
  ·show ConR M' H' w' (lk (putT σ.tm true (some d) r) t).2 _
   have ht' : (lk (putT σ.tm true (some d) r) t).1 = true := ht
   rw [getD_put _ _ _ _ hd', lk_put] at *
   by_cases e : d = t
   ·rw [if_pos e, if_pos e]; exact hv
   ·rw [if_neg e] at ht' ⊢
    rw [if_neg e]
    exact hk.R (h.tms t ht')
  ·have ht' : (lk (putT σ.tm true (some d) r) t).1 = false := ht
   rw [lk_put] at ht'
   rw [getD_put _ _ _ _ hd']
   by_cases e : d = t
   ·rw [if_pos e] at ht'; cases ht'
   ·rw [if_neg e] at ht' ⊢
    exact h.off t ht'
theorem St.putV (h : St E nt M σ a w) {d : Option Nat} (hd : ∀ t, d = some t → t < nt) {g : Bool} {r : RV} {v : Value} (hv : g = true → ConR M σ.H w r v) (hn : g = false → v = undef) : St E nt M ⟨putT σ.tm g d r, σ.H⟩ (a.put d v) w := by
 cases g with
 | true => exact h.put h.rel (Kp.refl _ _ _) hd (hv rfl)
 | false =>
  obtain rfl := hn rfl
  cases d with
  | none => exact ⟨h.rel, h.tms, h.off, h.sz, h.df⟩
  | some d =>
   have hd' : d < a.tmps.size := by rw [h.sz]; exact hd d rfl
   refine ⟨h.rel, fun t ht => ?_, fun t ht => ?_, by simp [Act.put, h.sz], h.df⟩
   ·have ht' : (lk (putT σ.tm false (some d) r) t).1 = true := ht
    show ConR M σ.H w (lk (putT σ.tm false (some d) r) t).2 _
    rw [getD_put _ _ _ _ hd', lk_put] at *
    by_cases e : d = t
    ·rw [if_pos e] at ht'; cases ht'
    ·rw [if_neg e] at ht' ⊢
     rw [if_neg e]
     exact h.tms t ht'
   ·have ht' : (lk (putT σ.tm false (some d) r) t).1 = false := ht
    rw [lk_put] at ht'
    rw [getD_put _ _ _ _ hd']
    by_cases e : d = t
    ·rw [if_pos e]
    ·rw [if_neg e] at ht' ⊢
     exact h.off t ht'
theorem nthO_eq : ∀ (l : List Oper) (j : Nat), nthO l j = l[j]?
 | [], _ => rfl
 | _ :: _, 0 => rfl
 | _ :: l, j + 1 => by simp only [nthO, List.getElem?_cons_succ]; exact nthO_eq l j
theorem guard_ok (h : St E nt M σ a w) {ops : Array Oper} {gd : Option (Nat × Bool)} {g : Bool} (hg : guardOf σ.tm ops gd = some g) {o : Oper} (ho : o.guard = gd) : Region.wanted o (yielded ops a.tmps) = g := by
 unfold Region.wanted
 rw [ho]
 unfold guardOf at hg
 split at hg
 ·cases hg; rfl
 ·rename_i j want
  split at hg
  ·rename_i o2 ho2
   rw [nthO_eq, Array.getElem?_toList] at ho2
   split at hg
   ·rename_i d hd
    split at hg
    ·rename_i g2 b hlk
     simp only [Option.some.injEq] at hg
     subst hg
     cases g2 with
     | true =>
      have hc := h.tms d (by rw [hlk])
      rw [hlk] at hc
      have hv : a.tmps.getD d undef = .bool b := hc
      have hq : a.tmps[d]? = some (.bool b) := by
       rw [Array.getD_eq_getD_getElem?] at hv
       cases hh : a.tmps[d]? with
       | none => rw [hh] at hv; simp [undef] at hv
       | some u => rw [hh] at hv; simpa using hv
      simp only [yielded, ho2, Option.bind_some, hd, hq]
      cases b <;> cases want <;> rfl
     | false =>
      have hv := h.off d (by rw [hlk])
      have : yielded ops a.tmps j = none := by
       simp only [yielded, ho2, Option.bind_some, hd]
       rw [Array.getD_eq_getD_getElem?] at hv
       cases hh : a.tmps[d]? with
       | none => rfl
       | some u =>
             rw [hh] at hv; have hv' : u = undef := by simpa using hv
             subst hv'; rfl
      simp [this]
    ·cases hg
   ·cases hg
  ·cases hg
theorem val_ok (hT : TyOk P ty) (h : St E nt M σ a w) {ops : Array Oper} {o : Oper} (hv : isV o.op = true) (hd : ∀ t, o.dst = some t → t < nt) {K : AS → Prop} {dd : Option Nat} (hw : awpV ty (guardOf σ.tm ops o.guard) dd σ o K) :
  ∃ σ' v, K σ' ∧ σ'.H = σ.H ∧ St E nt M σ' (a.put o.dst v) w ∧ (Region.wanted o (yielded ops a.tmps) = true → ∀ w', Same M σ.H w w' → (execOp a.eval o).run P w' = .ok (.value v) w') ∧ (Region.wanted o (yielded ops a.tmps) = false → v = undef) := by
 unfold awpV at hw
 split at hw
 ·exact hw.elim
 ·rename_i g hg
  obtain ⟨h1, -, h2, h3⟩ := hw
  have hwt := guard_ok h hg rfl
  rw [hwt]
  cases g with
  | true =>
   obtain ⟨v, v1, v2⟩ := opV_ok hT h hv rfl h1 (h2 rfl)
   exact ⟨_, v, h3, rfl, h.putV hd (fun _ => v1) (fun e => by cases e), fun _ => v2, (fun e => by cases e)⟩
  | false => exact ⟨_, undef, h3, rfl, h.putV hd (fun e => by cases e) (fun _ => rfl), (fun e => by cases e), fun _ => rfl⟩
theorem Same.refl : Same M H w w := fun _ _ => rfl
structure Stp (M : Mp) (σ : AS) (a : Act) (w : World) (M' : Mp) (σ' : AS) (a' : Act) (w' : World) (ds : Nat → Prop) : Prop where
 len : σ.H.length ≤ σ'.H.length
 kp : Kp M σ.H w M' σ'.H w'
 tm : ∀ t, ¬ ds t → a'.tmps.getD t undef = a.tmps.getD t undef
theorem put_tm (a : Act) (d : Option Nat) (v : Value) (t : Nat) (h : ¬ d = some t) : (a.put d v).tmps.getD t undef = a.tmps.getD t undef := by
 cases d with
 | none => rfl
 | some d =>
  have hne : ¬ d = t := fun e => h (by rw [e])
  simp only [Act.put, Array.getD_eq_getD_getElem?, Array.getElem?_setIfInBounds, if_neg hne]
theorem conRL_app : ∀ {l : List RV} {vs : List Value} {m : List RV} {us : List Value}, ConRL M H w l vs → ConRL M H w m us → ConRL M H w (l ++ m) (vs ++ us)
 | [], _, _, _, h, k => by cases h; exact k
 | x :: l, _, _, _, ⟨v, r, e, h1, h2⟩, k => by subst e; exact ⟨v, r ++ _, rfl, h1, conRL_app h2 k⟩
theorem conRL_map : ∀ {l : List AV} {vs : List Value}, ConL M H w l vs → ConRL M H w (l.map .c) vs
 | [], _, h => h
 | _ :: _, _, ⟨v, r, e, h1, h2⟩ => ⟨v, r, e, h1, conRL_map h2⟩
theorem rds_ok (h : St E nt M σ a w) : ∀ (l : List Operand), gOk true (rgs σ.rd l) → ConRL M σ.H w (rds σ.rd l) (l.map a.eval)
 | [], _ => rfl
 | x :: l, hg => ⟨_, _, rfl, h.rd (hg.1 rfl), rds_ok h l hg.2⟩
theorem run_lift {x : Sem Value} {v : Value} {w w' : World} (h : x.run P w = .ok v w') : ((do pure (Next.value (← x))) : Sem Next).run P w = .ok (.value v) w' := by
 rw [Sem.run_bind, h]; rfl
theorem run_liftU {x : Sem Unit} {w w' : World} (h : x.run P w = .ok () w') : ((do x; pure Next.skip) : Sem Next).run P w = .ok .skip w' := by
 rw [Sem.run_bind, h]; rfl
theorem oneL_box : ∀ {l : List AV} {vs : List Value}, njL l = true → ConL M H w l vs → ∀ v ∈ vs, v.oneCell' = true
 | [], _, _, h, v, hv => by cases h; cases hv
 | x :: l, _, hn, ⟨u, r, e, h1, h2⟩, v, hv => by
  subst e
  simp only [njL, Bool.and_eq_true] at hn
  rcases List.mem_cons.1 hv with rfl | hv
  ·exact (Con.one (σ := ⟨[], H⟩) hn.1 h1).1
  ·exact oneL_box hn.2 h2 v hv
theorem litO_ok (h : Rel E M H w) {l : List AV} {vs : Array Value} {n sz : Nat} (e : TypeId) (hc : ConL M H w l vs.toList) (hnj : njL l = true) (h0 : 0 < sz) (hn : n * sz = l.length) (hmax : n ≤ maxLen) :
  ∃ M', Rel E M' (H ++ [.live false e sz (.own (chunk sz n l))]) (w.alloc (.cells vs e)) ∧ Kp M H w M' (H ++ [.live false e sz (.own (chunk sz n l))]) (w.alloc (.cells vs e)) ∧
   Con M' (H ++ [.live false e sz (.own (chunk sz n l))]) (w.alloc (.cells vs e)) (.h H.length 0 n) (.slice (some ⟨w.heap.size, 0, none⟩) n n) := by
 have hlen := hc.len
 have hg : w.grownBy (w.alloc (.cells vs e)) none := ⟨rfl, rfl, rfl, by simp, fun k hk _ => Below.heap_alloc _ _ _ hk⟩
 have hsz : n * sz = vs.size := by simp at hlen; omega
 have hl : (Row.own (chunk sz n l)).len = n := chunk_len _ _ _
 obtain ⟨r1, r2⟩ := newRow_ok (r := .own (chunk sz n l)) h hg (heap_push w _) rfl h0 hsz (by omega) (fun i hi o ho => by
  have hi' : i < n := by omega
  have hlt : i * sz + o < l.length := by
   rw [← hn]
   have : (i + 1) * sz ≤ n * sz := Nat.mul_le_mul_right _ hi'
   rw [Nat.add_mul] at this
   omega
  have hlt2 : i * sz + o < vs.size := by omega
  have hcon := hc.get (i * sz + o) vs[i * sz + o] (by simp [hlt2])
  refine ⟨vs[i * sz + o], by simp [hlt2], oneL_box hnj hc _ (by simp), ?_⟩
  show Con M H w (nth ((chunk sz n l).getD i []) o) _
  rw [chunk_get _ _ _ _ _ hi' ho]; exact hcon)
 refine ⟨_, r1, r2, ?_⟩
 exact con_newH (M := M) (H := H) (w := w) (w' := w.alloc (.cells vs e)) (t := e) (sz := sz) (n := n) (cap := n) (r := .own (chunk sz n l)) (cur := vs) hl.symm (Nat.le_refl _) hmax (heap_push w _) hsz
theorem Enters.run {f : FuncId} (h : Enters P f) (args : Array Value) (w : World) : (callFunc f args).run P w = .ok (.enter f args) w := by
 obtain ⟨fn, c, h1, h2, h3⟩ := h
 have h4 : fn.name ≠ "runtime.NumGoroutine" := by simpa using h2
 simp [callFunc, h1, h4, h3]
theorem frz_njL : ∀ {l : List AV}, frzOk H l → ∀ {vs : List Value} {rho : Nat → Prop}, Con0L rho w (frzL H l) vs → ∀ v ∈ vs, v.oneCell' = true := by
 intro l hf vs rho hc v hv
 obtain ⟨j, hj, rfl⟩ := List.getElem_of_mem hv
 have hl := hc.len
 rw [frzL_len] at hl
 exact (hc.get j _ (List.getElem?_eq_getElem hj)).one (frzOk_nj hf j (by omega))
theorem frz_cells {x : RV} {v : Value} (hf : frzOk H (cellsR x)) (h0 : (cellsR x).length ≠ 0) (h : ConR M H w x v) : ConL M H w (cellsR x) v.cells.toList := by
 refine cellsR_ok (σ := ⟨[], H⟩) ?_ h0 h
 have : ∀ l : List AV, frzOk H l → njL l = true := by
  intro l
  induction l with
  | nil => intro _; rfl
  | cons b l ih =>
   intro hh
   cases b with
   | h => simp only [njL, AV.nj, Bool.true_and]; exact ih hh.2
   | ptr => exact hh.elim
   | junk => exact hh.elim
   | ws => exact hh.elim
   | wu => exact hh.elim
   | wp => exact hh.elim
   | int => simp only [njL, AV.nj, Bool.true_and]; exact ih hh
   | bool => simp only [njL, AV.nj, Bool.true_and]; exact ih hh
   | flt => simp only [njL, AV.nj, Bool.true_and]; exact ih hh
   | str => simp only [njL, AV.nj, Bool.true_and]; exact ih hh
   | nilp => simp only [njL, AV.nj, Bool.true_and]; exact ih hh
   | nils => simp only [njL, AV.nj, Bool.true_and]; exact ih hh
   | sl => simp only [njL, AV.nj, Bool.true_and]; exact ih hh
   | rp => simp only [njL, AV.nj, Bool.true_and]; exact ih hh
 exact this _ hf
theorem fld_ok (t : TypeId) (f : Nat) {p r : RV} {u : Value} (hp : ConR M σ.H w p u) (h : fldV P t f p = some r) : ∃ z, ConR M σ.H w r z ∧ ∀ w', (Instr.field t u f).run P w' = .ok z w' := by
 unfold fldV at h
 split at h
 ·rename_i l
  obtain ⟨vs, rfl, hc⟩ := hp
  split at h
  ·rename_i fs hu
   split at h
   ·rename_i fd hf
    have key : ∀ d, P.underlying fd.type = some d → (match d with | .struct _ | .array _ _ => False | _ => True) → (if fd.offset < l.length then some (RV.c (nth l fd.offset)) else none) = some r → ∃ z, ConR M σ.H w r z ∧ ∀ w', (Instr.field t (.agg vs.toArray) f).run P w' = .ok z w' := fun d hd hk h => by
     split at h <;> cases h
     rename_i h0
     have hl := hc.len
     obtain ⟨z, hz⟩ : ∃ z, vs[fd.offset]? = some z := ⟨_, List.getElem?_eq_getElem (by omega)⟩
     refine ⟨z, hc.get _ _ hz, fun w' => ?_⟩
     have ha : (isAgg fd.type).run P w' = .ok false w' := by
      simp only [isAgg, Sem.run_bind, run_underlying hd, Result.andThen]
      cases d <;> first | exact hk.elim | rfl
     simp [Instr.field, asAgg, run_underlying hu, hf, part, ha, hz]
    split at h
    ·cases h
    ·cases h
    ·rename_i d n1 n2 hd
     exact key d hd (by cases d <;> first | trivial | exact n1 _ rfl | exact n2 _ _ rfl) h
    ·cases h
   ·cases h
  ·cases h
 ·cases h
theorem eff_ok [Pan] (hT : TyOk P ty) (h : St E nt M σ a w) {pu : Pu} {o : Oper} (hd : ∀ t, o.dst = some t → t < nt) (hgs : gOk true (opGs σ.rd o.op)) {K : AS → Prop} (he : eff P ty pu σ.tm σ.rd σ.H o K) {next : Act → World → Prop} {Q : Exit → Act → World → Prop}
  (hn : ∀ M' σ' a' w', St E nt M' σ' a' w' → (∀ g, pu = some g → OldD (g.map M.phi) w w') → Stp M σ a w M' σ' a' w' (fun t => o.dst = some t) → K σ' → next a' w') (hP : ∀ ch w', PanS E M σ.H w ch w' → Q (.panic ch) a w') : o.wp P a w next Q := by
 obtain ⟨dst, op, type, pos, after, guard⟩ := o
 unfold eff at he
 simp only at he hd
 have hz : ∀ {t : TypeId}, 0 < (ty t).sz → (match (ty t).k with | .no => False | _ => True) → (sizeOf t).run P w = .ok (ty t).sz w := fun _ hk => info_sz hT hk w
 cases op <;> simp only at he <;> try exact he.elim
 case alloc t =>
  obtain ⟨⟨h0, hk⟩, he⟩ := he
  obtain ⟨i, z, hi, hzz, hs, -, hzs, hzl, hzc⟩ := zero_con (M := M) (σ := σ) (w := w) (P := P) hT (t := t) hk
  have hl : (ty t).zero.length = (ty t).sz := by have := zvL_len hzl; simp at this; omega
  obtain ⟨r1, r2⟩ := box_ok h.rel (vs := z.cells) t hzc (fun v hv => by
   obtain ⟨j, hj, rfl⟩ := List.getElem_of_mem hv
   exact zvB_one (zvL_get hzl j _ (List.getElem?_eq_getElem hj))) (by omega)
  rw [hl] at r1 r2
  unfold Oper.wp
  have hrun : (execOp a.eval ⟨dst, .alloc t, type, pos, after, guard⟩).run P w = .ok (.value (.pointer (some ⟨w.heap.size, 0, none⟩))) (w.alloc (.cells z.cells t)) := by
   refine run_lift (x := Instr.alloc t true (.tuple #[])) ?_
   simp [Instr.alloc, zeroValue, typeInfo, hi, hzz, newVar, newRow]
  rw [hrun]
  exact hn _ _ _ _ (h.put (r := .c (.ptr σ.H.length 1 0 0)) r1 r2 hd (con_new (w' := w))) (fun _ _ => OldD.below ((Below.refl _ _).alloc (Nat.le_refl _) _)) ⟨by simp, r2, put_tm _ _ _⟩ he
 case box t x =>
  obtain ⟨⟨h1, h0, hnj⟩, he⟩ := he
  simp only [opGs, gOk] at hgs
  have hx := cellsR_ok hnj (by omega) (h.rd (hgs.1 trivial))
  obtain ⟨r1, r2⟩ := box_ok h.rel (vs := (a.eval x).cells) t hx (oneL_box hnj hx) (by omega)
  rw [h1] at r1 r2
  unfold Oper.wp
  have hrun : (execOp a.eval ⟨dst, .box t x, type, pos, after, guard⟩).run P w = .ok (.value (.pointer (some ⟨w.heap.size, 0, none⟩))) (w.alloc (.cells (a.eval x).cells t)) := by
   refine run_lift (x := Instr.box t (a.eval x)) ?_
   simp [Instr.box, newVar, newRow]
  rw [hrun]
  exact hn _ _ _ _ (h.put (r := .c (.ptr σ.H.length 1 0 0)) r1 r2 hd (con_new (w' := w))) (fun _ _ => OldD.below ((Below.refl _ _).alloc (Nat.le_refl _) _)) ⟨by simp, r2, put_tm _ _ _⟩ he
 case buildSlice t n ps =>
  split at he
  ·rename_i e hk
   split at he
   ·obtain ⟨h1, h2, h3, ⟨h4, h5⟩, he⟩ := he
    obtain ⟨hu, hke⟩ : P.underlying t = some (.slice e) ∧ _ := kOk_of hT hk
    obtain ⟨out, o1, o2, o3⟩ := buildSlice_ok hT h t e hk n ps hgs h1 h4 h5
    have hlen := o1.len
    obtain ⟨M', r1, r2, r3⟩ := lit_ok (k := (ty e).k) (n := n) (sz := (ty e).sz) h.rel e o1 h2 h3 h4 (by simp at hlen; omega) (by unfold maxLen; have := Nat.le_mul_of_pos_right n h4; omega)
    unfold Oper.wp
    rw [show (execOp a.eval ⟨dst, .buildSlice t n ps, type, pos, after, guard⟩).run P w = _ from run_lift (o3 w)]
    exact hn _ _ _ _ (h.put (r := .c (.h σ.H.length 0 n)) r1 r2 hd r3) (fun _ _ => OldD.below ((Below.refl _ _).alloc (Nat.le_refl _) _)) ⟨by simp [frzH_len], r2, put_tm _ _ _⟩ he
   ·obtain ⟨h1, h2, ⟨h4, h5⟩, he⟩ := he
    obtain ⟨out, o1, o2, o3⟩ := buildSlice_ok hT h t e hk n ps hgs h1 h4 h5
    have hlen := o1.len
    obtain ⟨M', r1, r2, r3⟩ := litO_ok (n := n) (sz := (ty e).sz) h.rel e o1 h2 h4 (by simp at hlen; omega) (by unfold maxLen; have := Nat.le_mul_of_pos_right n h4; omega)
    unfold Oper.wp
    rw [show (execOp a.eval ⟨dst, .buildSlice t n ps, type, pos, after, guard⟩).run P w = _ from run_lift (o3 w)]
    exact hn _ _ _ _ (h.put (r := .c (.h σ.H.length 0 n)) r1 r2 hd r3) (fun _ _ => OldD.below ((Below.refl _ _).alloc (Nat.le_refl _) _)) ⟨by simp, r2, put_tm _ _ _⟩ he
   ·rename_i ck0 cks hw
    obtain ⟨h1, ⟨rfl, h2, h4, h5, h6⟩, he⟩ := he
    obtain ⟨out, o1, o2, o3⟩ := buildSlice_ok hT h t e hk 1 ps hgs h1 h4 (by omega)
    obtain ⟨M', r1, r2, r3⟩ := weakLit_ok h.rel e o1 h2 (by omega)
    unfold Oper.wp
    rw [show (execOp a.eval ⟨dst, .buildSlice t 1 ps, type, pos, after, guard⟩).run P w = _ from run_lift (o3 w)]
    exact hn _ _ _ _ (h.put (r := .c (.ws e (ck0 :: cks) 1)) r1 r2 hd r3) (fun _ _ => OldD.below ((Below.refl _ _).alloc (Nat.le_refl _) _)) ⟨Nat.le_refl _, r2, put_tm _ _ _⟩ he
  ·exact he.elim
 case field t x f =>
  simp only [opGs, gOk] at hgs
  unfold fldK at he
  split at he
  ·rename_i r hr
   obtain ⟨z, h1, h2⟩ := fld_ok t f (h.rd (hgs.1 trivial)) hr
   unfold Oper.wp
   rw [show (execOp a.eval ⟨dst, .field t x f, type, pos, after, guard⟩).run P w = _ from run_lift (x := Instr.field t (a.eval x) f) (h2 w)]
   exact hn M _ _ _ (h.putV hd (fun _ => h1) (fun e => by cases e)) (fun _ _ => ⟨Nat.le_refl _, fun _ _ _ => rfl⟩) ⟨Nat.le_refl _, Kp.refl _ _ _, put_tm _ _ _⟩ he
  ·exact he.elim
 case store t p v =>
  obtain ⟨hpu, he⟩ := he
  simp only [opGs, gOk] at hgs
  have hp := h.rd (hgs.1 trivial)
  have hv := h.rd (hgs.2.1 trivial)
  unfold stoT at he
  split at he
  ·rename_i t' ck o hpe
   rw [hpe] at hp
   obtain ⟨⟨h1, h0, hk, h2, h3⟩, he⟩ := he
   have hc := cellsR_ok (ckE_nj h3) (by omega) hv
   rw [← h1] at h2 h3
   obtain ⟨ad, w', q1, q2, q3, q4⟩ := weakStore_ok (P := P) h.rel hp hc h3 h2
   unfold Oper.wp
   have hlen : (a.eval v).cells.size = (ty t).sz := by have := hc.len; rw [← h1]; simpa using this
   have hrun : (execOp a.eval ⟨dst, .store t p v, type, pos, after, guard⟩).run P w = .ok .skip w' := by
    refine run_liftU (x := Instr.storeAt t (a.eval p) (a.eval v)) ?_
    have hzt := info_sz hT hk w
    rw [q1]
    simp [Instr.storeAt, Instr.sureAddr, storeVar, hzt, hlen, q2]
   rw [hrun]
   exact hn _ _ _ _ (h.put (r := .c .junk) q3 q4 hd trivial) (fun _ e => by rw [e] at hpu; exact hpu.elim) ⟨Nat.le_refl _, q4, put_tm _ _ _⟩ he
  rename_i hnw
  unfold storeV at he
  split at he
  ·rename_i id n i o hpe
   rw [hpe] at hp
   split at he
   ·rename_i fz t2 sz r hr
    obtain ⟨rfl, ⟨h1, h2, h3, h4, h5, hk⟩, he⟩ := he
    have hpv := (hp.2 _ _ _ _ hr).2 h2
    have hlen : ∀ {l : List AV}, ConL M σ.H w l (a.eval v).cells.toList → (a.eval v).cells.size = l.length := fun hc => by have := hc.len; simpa using this
    have hsto : ∀ w', (storeCells ⟨M.phi id, M.off id + i * sz + o, none⟩ (a.eval v).cells.toList 0).run P w = .ok () w' → (a.eval v).cells.size = (ty t).sz → (execOp a.eval ⟨dst, .store t p v, type, pos, after, guard⟩).run P w = .ok .skip w' := fun w' h1 h2 => by
     refine run_liftU (x := Instr.storeAt t (a.eval p) (a.eval v)) ?_
     have hzt := hz (t := t) (by omega) hk
     rw [hpv]
     simp [Instr.storeAt, Instr.sureAddr, storeVar, hzt, h2, h1]
    split at he
    ·rename_i hb
     obtain ⟨hnj, he⟩ := he
     have hc := cellsR_ok hnj (by omega) hv
     have hput : (r.put sz i o (cellsR (σ.rd v).2)).1 := by
      cases r with
      | box => trivial
      | own => trivial
      | _ => cases hb
     obtain ⟨w', r1, r2, r3⟩ := store_ok (P := P) h.rel hr (i := i) (o := o) (by omega) (by omega) (oneL_box hnj hc) hc.len (fun j u hj => by unfold RCon; rw [if_pos hb]; exact hc.get j u hj) hput
     unfold Oper.wp
     rw [hsto w' r3 (by rw [hlen hc]; exact h1)]
     exact hn _ _ _ _ (h.put (r := .c .junk) r1 r2 hd trivial) (fun _ e => by rw [e] at hpu; exact hpu.elim) ⟨by simp [setRoot_len], r2, put_tm _ _ _⟩ he
    ·rename_i hb
     obtain ⟨hf, hr2, hput, he⟩ := he
     obtain ⟨M1, e1, e2, q1, q2, q3⟩ := frz_ok _ h.rel hf
     have hc := frz_cells hf (by omega) hv
     have hc0 := q3 _ hc
     obtain ⟨w', r1, r2, r3⟩ := store_ok (P := P) q1 hr2 (i := i) (o := o) (cs := frzL σ.H (cellsR (σ.rd v).2)) (vs := (a.eval v).cells.toList) (by omega) (by rw [frzL_len]; omega) (frz_njL hf hc0) hc0.len (fun j u hj => by unfold RCon; rw [if_neg hb]; exact hc0.get j u hj) hput
     unfold Oper.wp
     rw [e1.1, e1.2] at r3
     rw [hsto w' r3 (by rw [hlen hc]; exact h1)]
     exact hn _ _ _ _ (h.put (r := .c .junk) r1 (q2.trans r2) hd trivial) (fun _ e => by rw [e] at hpu; exact hpu.elim) ⟨by simp [setRoot_len, frzH_len], q2.trans r2, put_tm _ _ _⟩ he
   ·exact he.elim
  ·exact he.elim
 case makeSlice t x y =>
  simp only [opGs, gOk] at hgs
  have hx := h.rd (hgs.1 trivial)
  have hy := h.rd (hgs.2.1 trivial)
  unfold makeV at he
  split at he
  ·rename_i e hk
   split at he
   ·rename_i k1 n k2 c hx1 hy1
    rw [hx1] at hx
    rw [hy1] at hy
    obtain ⟨⟨h1, h2, rfl, h3, h4, h5⟩, he⟩ := he
    obtain ⟨M', w', v, r0, rb, r1, r2, r3⟩ := make_ok hT h.rel t e hk k1 k2 c h1 h2 h3 h4 h5
    unfold Oper.wp
    have hrun : (execOp a.eval ⟨dst, .makeSlice t x y, type, pos, after, guard⟩).run P w = .ok (.value v) w' := by
     refine run_lift (x := Instr.makeSlice t (a.eval x) (a.eval y)) ?_
     rw [show a.eval x = .int k1 c from hx, show a.eval y = .int k2 c from hy]
     exact r0
    rw [hrun]
    exact hn _ _ _ _ (h.put (r := .c (.h σ.H.length 0 c.toNat)) r1 r2 hd r3) (fun _ _ => OldD.below rb) ⟨by simp, r2, put_tm _ _ _⟩ he
   ·exact he.elim
  ·exact he.elim
 case call c =>
  obtain ⟨callee, args, ats⟩ := c
  simp only at he
  cases callee with
  | invoke r m => exact he.elim
  | value f =>
   simp only [opGs, gOk] at hgs
   simp only at he
   split at he
   ·rename_i f' caps hf
    have hfv := h.rd (hgs.1 trivial)
    rw [hf] at hfv
    obtain ⟨cs, hfe, hcs⟩ := hfv
    obtain ⟨henter, hcall⟩ := he
    have hargs := rds_ok h args.toList hgs.2
    have hc := hcall E M w _ h.rel (conRL_app hargs (conRL_map hcs))
    unfold Oper.wp
    have hrun : (execOp a.eval ⟨dst, .call ⟨.value f, args, ats⟩, type, pos, after, guard⟩).run P w = .ok (.enter f' (args.toList.map a.eval ++ cs).toArray) w := by
     have e1 : args.map a.eval ++ cs.toArray = (args.toList.map a.eval ++ cs).toArray := by
      apply Array.toList_inj.1; simp
     simp [execOp, resolve, hfe, Deferred.ofValue, invoke, henter.run, ← e1]
    rw [hrun, Oper.upon_enter]
    refine hc.mono ?_
    rintro e w' (⟨M', H', r, v, rfl, q1, q2, q3, q4, q5, q6⟩ | ⟨ch, rfl, hp⟩)
    ·exact hn _ _ _ _ (h.put q1 q2 hd q3) q4 ⟨q5, q2, put_tm _ _ _⟩ q6
    ·exact hP _ _ hp
   ·exact he.elim
  | builtin b =>
   cases b <;> simp only at he <;> try exact he.elim
   case append =>
    split at he
    ·rename_i s x hsx
     obtain ⟨hpu, he⟩ := he
     obtain ⟨args⟩ := args
     simp only at hsx
     subst hsx
     obtain ⟨ats⟩ := ats
     simp only [opGs, rgs, gOk] at hgs
     have hs := h.rd (hgs.1 trivial)
     have hx := h.rd (hgs.2.1 trivial)
     rcases apK_cases he with ⟨b, hb, ⟨hats, htx⟩, he⟩ | ⟨hats, he⟩
     ·rw [hb] at hx
      have hxv : a.eval x = .string b := hx
      obtain ⟨t, tx, rfl⟩ : ∃ t tx, ats = [t, tx] := ⟨_, _, hats⟩
      have htt : (List.toArray [t, tx]).getD 0 0 = t := rfl
      have htt2 : (List.toArray [t, tx]).getD 1 0 = tx := rfl
      rw [htt] at he
      rw [htt2] at htx
      have hex : ∀ {v : Value} {w' : World}, (Builtin.append_ #[t, tx] type #[a.eval s, a.eval x]).run P w = .ok v w' → (execOp a.eval ⟨dst, .call ⟨.builtin .append, [s, x].toArray, [t, tx].toArray⟩, type, pos, after, guard⟩).run P w = .ok (.value v) w' := fun {v w'} h1 => by
       have := run_lift (x := Builtin.append_ #[t, tx] type #[a.eval s, a.eval x]) h1
       simpa [execOp, resolve, invoke, builtin] using this
      unfold appS at he
      split at he
      ·rename_i e hk
       obtain ⟨hke, he⟩ := he
       have hux : P.underlying tx = some .string := kOk_of hT htx
       split at he
       ·rename_i hs1
        rw [hs1] at hs
        have hsv : a.eval s = .slice none 0 0 := hs
        obtain ⟨h1, he⟩ := he
        obtain ⟨M', w', v', r0, r1, r2, r3⟩ := appNilS_ok hT h.rel t tx e type hk htx hke h1
        unfold Oper.wp
        rw [hex (by rw [hsv, hxv]; exact r0)]
        exact hn _ _ _ _ (h.put (r := .c (.h _ 0 _)) r1 r2 hd r3) (fun _ e => by rw [e] at hpu; exact hpu.elim) ⟨by simp, r2, put_tm _ _ _⟩ he
       ·rename_i id st len hs1
        rw [hs1] at hs
        split at he
        ·rename_i fz t2 sz r hr
         obtain ⟨⟨rfl, rfl, h1, rfl, rfl, h2⟩, happ, he⟩ := he
         obtain ⟨hS, hC⟩ := srcS_ok (P := P) (M := M) (H := σ.H) (w := w) hux b
         have hlb : (Row.ints .u8 (byI b)).len = b.size := byI_len b
         obtain ⟨M', w', v', r0, r1, r2, r3⟩ := appGen_ok hT h.rel t tx t2 type hk (by rw [hke.2.1]; exact Nat.one_pos) (by rw [hke.2.2]; decide) (by rw [hke.2.1]; exact hS) (by rw [hke.2.1]; exact hC) (by rw [hke.2.1]; exact hr) h1 hs (by rw [hlb]; exact h2) happ
         rw [hke.2.1, hlb] at *
         unfold Oper.wp
         rw [hex (by rw [hxv]; exact r0)]
         exact hn _ _ _ _ (h.put (r := .c (.h _ 0 _)) r1 r2 hd r3) (fun _ e => by rw [e] at hpu; exact hpu.elim) ⟨by simp [setRoot_len], r2, put_tm _ _ _⟩ he
        ·exact he.elim
       ·exact he.elim
      ·exact he.elim
     obtain ⟨t, rfl⟩ : ∃ t, ats = [t, t] := ⟨_, hats⟩
     have htt : (List.toArray [t, t]).getD 0 0 = t := rfl
     rw [htt] at he
     have hex : ∀ {v : Value} {w' : World}, (Builtin.append_ #[t, t] type #[a.eval s, a.eval x]).run P w = .ok v w' → (execOp a.eval ⟨dst, .call ⟨.builtin .append, [s, x].toArray, [t, t].toArray⟩, type, pos, after, guard⟩).run P w = .ok (.value v) w' := fun {v w'} h1 => by
      have := run_lift (x := Builtin.append_ #[t, t] type #[a.eval s, a.eval x]) h1
      simpa [execOp, resolve, invoke, builtin] using this
     have hwk : (∃ e ck, (ty t).k = .sl e ∧ appW ty e ck (σ.rd s).2 (σ.rd x).2 (fun r => K ⟨putT σ.tm true dst r, σ.H⟩)) ∨ appV ty (ty t).k σ.H (σ.rd s).2 (σ.rd x).2 (fun r H => K ⟨putT σ.tm true dst r, H⟩) := by
      unfold appT at he
      split at he
      ·rename_i e hk
       split at he
       ·exact .inr he
       ·exact .inr he
       ·rename_i c cs _; exact .inl ⟨e, c :: cs, hk, he⟩
      ·exact he.elim
     clear he
     rcases hwk with ⟨e, ck, hk, he⟩ | he
     ·unfold appW at he
      split at he
      ·rename_i t' ck' m hxe
       rw [hxe] at hx
       obtain ⟨⟨⟨rfl, rfl, k1, k2⟩, k3, k4, k5, k6⟩, he⟩ := he
       have fin : ∀ (n : Nat) (r : RV), WSl M w t' ck' n (a.eval s) → n + m ≤ 1099511627776 → (∀ M' w' v', WSl M' w' t' ck' (n + m) v' → ConR M' σ.H w' r v') → K ⟨putT σ.tm true dst r, σ.H⟩ → Oper.wp P ⟨dst, .call ⟨.builtin .append, [s, x].toArray, [t, t].toArray⟩, type, pos, after, guard⟩ a w next Q := fun n r hw hm hr hK => by
        obtain ⟨M', w', v', r0, r1, r2, r3⟩ := weakApp_ok hT h.rel t t' type hk k3 k4 k5 k6 hw hx k1 hm
        unfold Oper.wp
        rw [hex r0]
        exact hn _ _ _ _ (h.put (r := r) r1 r2 hd (hr _ _ _ r3)) (fun _ e => by rw [e] at hpu; exact hpu.elim) ⟨Nat.le_refl _, r2, put_tm _ _ _⟩ hK
       split at he
       ·rename_i hse
        rw [hse] at hs
        have hs : a.eval s = .slice none 0 0 := hs
        exact fin 0 (.c (.ws _ _ m)) (by rw [hs]; exact WSl.nil _ _) (by omega) (fun M' w' v' h => by rw [Nat.zero_add] at h; exact h) he
       ·rename_i t2 ck2 n hse
        rw [hse] at hs
        obtain ⟨⟨rfl, rfl, j1⟩, he⟩ := he
        exact fin n (.c (.ws _ _ (n + m))) hs j1 (fun M' w' v' h => h) he
       ·rename_i t2 ck2 b hse
        rw [hse] at hs
        obtain ⟨⟨rfl, rfl, j1⟩, he⟩ := he
        obtain ⟨n, hnb, hs⟩ := hs
        exact fin n (.c (.wu _ _ (b + m))) hs (by omega) (fun M' w' v' h => ⟨n + m, by omega, h⟩) he
       ·exact he.elim
      ·exact he.elim
     unfold appV at he
     split at he
     ·rename_i e hk
      obtain ⟨s1, s2, s3, s4, he⟩ := he
      obtain ⟨ad, c, news, hsrc⟩ := src_ok h.rel hx s1
      rw [s2] at hsrc
      have hbx : (appSrc σ.H (σ.rd x).2).2.1.one = false := by
       unfold appSrc at s1 ⊢
       split at s1
       ·exact (slRow_get _ _ _).2.1
       ·split at s1
        ·exact (drop_get s1.2 _).1.1
        ·exact s1.elim
       ·exact s1.elim
      split at he
      ·rename_i hs1
       rw [hs1] at hs
       have hsv : a.eval s = .slice none 0 0 := hs
       obtain ⟨h1, he⟩ := he
       obtain ⟨M', w', v', r0, r1, r2, r3⟩ := appNil_ok hT h.rel t e type hk s3 s4 hsrc hbx h1
       unfold Oper.wp
       rw [hex (by rw [hsv]; exact r0)]
       exact hn _ _ _ _ (h.put (r := .c (.h _ 0 _)) r1 r2 hd r3) (fun _ e => by rw [e] at hpu; exact hpu.elim) ⟨by simp, r2, put_tm _ _ _⟩ he
      ·rename_i id st len hs1
       rw [hs1] at hs
       split at he
       ·rename_i fz t2 sz r hr
        obtain ⟨⟨rfl, rfl, h1, rfl, rfl, h2⟩, happ, he⟩ := he
        obtain ⟨M', w', v', r0, r1, r2, r3⟩ := appOwn_ok hT h.rel t t2 type hk s3 s4 hsrc hr h1 hs h2 happ
        unfold Oper.wp
        rw [hex r0]
        exact hn _ _ _ _ (h.put (r := .c (.h _ 0 _)) r1 r2 hd r3) (fun _ e => by rw [e] at hpu; exact hpu.elim) ⟨by simp [setRoot_len], r2, put_tm _ _ _⟩ he
       ·exact he.elim
      ·exact he.elim
     ·exact he.elim
    ·exact he.elim
end
section
variable {P : Program} {ty : Ty} {E : Env} {nt : Nat} {M M' : Mp} {σ σ' : AS} {a a' : Act} {w w' : World}
theorem Stp.refl (M : Mp) (σ : AS) (a : Act) (w : World) (ds : Nat → Prop) : Stp M σ a w M σ a w ds := ⟨Nat.le_refl _, Kp.refl _ _ _, fun _ _ => rfl⟩
theorem Stp.trans {ds ds1 ds2 : Nat → Prop} {M2 : Mp} {σ2 : AS} {a2 : Act} {w2 : World} (h : Stp M σ a w M' σ' a' w' ds1) (k : Stp M' σ' a' w' M2 σ2 a2 w2 ds2) (h1 : ∀ t, ds1 t → ds t) (h2 : ∀ t, ds2 t → ds t) : Stp M σ a w M2 σ2 a2 w2 ds :=
 ⟨Nat.le_trans h.len k.len, h.kp.trans k.kp, fun t ht => (k.tm t (fun h => ht (h2 t h))).trans (h.tm t (fun h => ht (h1 t h)))⟩
theorem Stp.mono {ds ds1 : Nat → Prop} (h : Stp M σ a w M' σ' a' w' ds1) (h1 : ∀ t, ds1 t → ds t) : Stp M σ a w M' σ' a' w' ds := ⟨h.len, h.kp, fun t ht => h.tm t fun h => ht (h1 t h)⟩
def dstL (l : List Oper) (t : Nat) : Prop := ∃ o ∈ l, o.dst = some t
theorem val_stp {o : Oper} {v : Value} (h : σ'.H = σ.H) : Stp M σ a w M σ' (a.put o.dst v) w (fun t => o.dst = some t) :=
 ⟨by rw [h]; exact Nat.le_refl _, by rw [h]; exact Kp.refl _ _ _, put_tm _ _ _⟩
def After (E : Env) (nt : Nat) (M : Mp) (σ : AS) (a : Act) (w : World) (ds : Nat → Prop) (K : AS → Prop) (a' : Act) (w' : World) : Prop := ∃ M' σ', St E nt M' σ' a' w' ∧ Stp M σ a w M' σ' a' w' ds ∧ K σ'
theorem After.step {ds ds1 : Nat → Prop} {K : AS → Prop} {a2 : Act} {w2 : World} (h : Stp M σ a w M' σ' a' w' ds1) (k : After E nt M' σ' a' w' ds K a2 w2) (h1 : ∀ t, ds1 t → ds t) : After E nt M σ a w ds K a2 w2 := by
 obtain ⟨M2, σ2, q1, q2, q3⟩ := k
 exact ⟨M2, σ2, q1, h.trans q2 h1 (fun _ h => h), q3⟩
theorem OldD.refl (g : Option Nat) (w : World) : OldD g w w := ⟨Nat.le_refl _, fun _ _ _ => rfl⟩
theorem OldD.step {g : Option Nat} {w w' w'' : World} (h : OldD g w w') (k : OldD g w' w'') : OldD g w w'' := ⟨Nat.le_trans h.1 k.1, fun b hb hne => (k.2 b (Nat.lt_of_lt_of_le hb h.1) hne).trans (h.2 b hb hne)⟩
instance (g : Option Nat) (w : World) : Nonempty (At (OldD g w)) := ⟨⟨w, OldD.refl g w⟩⟩
theorem PanS.step [Pan] {H H1 : List Root} {w1 : World} {ch : List PanicEntry} (h1 : Kp M H w M' H1 w1) (h2 : H.length ≤ H1.length) (h : PanS E M' H1 w1 ch w') : PanS E M H w ch w' := by
 obtain ⟨M2, H2, r, v, e, k1, k2, k3, k4, k5⟩ := h
 exact ⟨M2, H2, r, v, e, k1, h1.trans k2, Nat.le_trans h2 k3, k4, k5⟩
theorem noPan_elim {H : List Root} {ch : List PanicEntry} (h : PanS E M H w ch w') : False := by
 obtain ⟨M2, H2, r, v, e, k1, k2, k3, k4, k5⟩ := h
 exact k5
theorem op_ok [Pan] (hT : TyOk P ty) (h : St E nt M σ a w) {pu : Pu} {dd : Option Nat} {ops : Array Oper} {o : Oper} (hd : ∀ t, o.dst = some t → t < nt) {K : AS → Prop} (hw : awpO P ty pu dd ops σ o K) {next : Act → World → Prop} {Q : Exit → Act → World → Prop}
  (hn : ∀ M' σ' a' w', St E nt M' σ' a' w' → (∀ g, pu = some g → OldD (g.map M.phi) w w') → Stp M σ a w M' σ' a' w' (fun t => o.dst = some t) → K σ' → next a' w') (hP : ∀ ch w', PanS E M σ.H w ch w' → Q (.panic ch) a w') : if Region.wanted o (yielded ops a.tmps) then o.wp P a w next Q else next (a.put o.dst undef) w := by
 unfold awpO at hw
 split at hw
 ·rename_i hv
  obtain ⟨σ', v, k1, k2, k3, k4, k5⟩ := val_ok hT h hv hd hw
  have hnx := hn M σ' (a.put o.dst v) w k3 (fun _ _ => OldD.refl _ _) (val_stp k2) k1
  cases hwt : Region.wanted o (yielded ops a.tmps) with
  | true =>
   rw [if_pos rfl]
   unfold Oper.wp
   rw [k4 hwt w Same.refl]
   exact hnx
  | false =>
   rw [if_neg (by simp)]
   rw [k5 hwt] at hnx
   exact hnx
 ·have hw := hw.2
  unfold awpE at hw
  split at hw
  ·exact hw.elim
  ·rename_i g hg
   obtain ⟨h2, h3, h4⟩ := hw
   rw [guard_ok h hg rfl]
   cases g with
   | true => exact eff_ok hT h hd h2 (h3 rfl) hn hP
   | false => exact hn M _ (a.put o.dst undef) w (h.putV hd (fun e => by cases e) (fun _ => rfl)) (fun _ _ => OldD.refl _ _) (val_stp rfl) (h4 rfl)
theorem awpL_ok [Pan] (hT : TyOk P ty) {nf : Nat} {dd : Option Nat} {ops : Array Oper} {K : AS → Prop} {Q : Exit → Act → World → Prop} : ∀ (l : List Oper) {M : Mp} {σ : AS} {a : Act} {w : World}, St E nt M σ a w → (∀ o ∈ l, ∀ t, o.dst = some t → t < nt) → awpL P ty nf dd ops l K σ →
  (∀ a' w', After E nt M σ a w (dstL l) K a' w' → Q .normal a' w') → (∀ a' ch w', a'.defers = E.df → PanS E M σ.H w ch w' → Q (.panic ch) a' w') → wpList P ops Q l a w
 | [], M, σ, a, w, h, _, hw, hQ, _ => hQ a w ⟨M, σ, h, Stp.refl _ _ _ _ _, hw⟩
 | o :: l, M, σ, a, w, h, hd, hw, hQ, hP => by
  have := op_ok (Q := Q) (next := wpList P ops Q l) hT h (hd o (List.mem_cons_self ..)) hw (fun M' σ' a' w' q1 _ q3 q4 =>
   awpL_ok hT l q1 (fun o ho => hd o (List.mem_cons_of_mem _ ho)) q4 (fun a2 w2 hA => hQ a2 w2 (by
    obtain ⟨M2, σ2, r1, r2, r3⟩ := hA
    exact ⟨M2, σ2, r1, q3.trans r2 (fun t ht => ⟨o, List.mem_cons_self .., ht⟩) (fun t ⟨o2, ho, ht⟩ => ⟨o2, List.mem_cons_of_mem _ ho, ht⟩), r3⟩)) (fun a2 ch w2 hd hp => hP a2 ch w2 hd (hp.step q3.kp q3.len)))
   (fun ch w' => hP a ch w' h.df)
  unfold wpList
  split
  ·rename_i hwt; rw [if_pos hwt] at this; exact .inl this
  ·rename_i hwt; rw [if_neg hwt] at this; exact this
end
section draw
variable {P : Program} {ops : Array Oper} {Q : Exit → Act → World → Prop} {md : Region.Mode}
def wpMixO (P : Program) (ops : Array Oper) (Q : Exit → Act → World → Prop) (g : Option Nat) : List (List Oper × Oper × Bool) → Act → World → Prop
 | [], a, w => Q .normal a w
 | (lq, o, f) :: rest, a, w => wpQuiet P ops (fun w' => ∃ e : At (OldD g w), w' = e.val) (fun a' => wpList P ops (Exit.then (fun a'' w'' => (f = true ∨ OldD g w w'') ∧ wpMixO P ops Q g rest a'' w'') Q) [o] a' w) lq a
theorem wpAnyF_mono {S S' : World → Prop} {fins : List Nat} (hS : ∀ w, S w → S' w) : ∀ (fuel : Nat) (listed : Array Bool) (a : Act) (w : World), wpAnyF P md ops Q S fins fuel listed a w → wpAnyF P md ops Q S' fins fuel listed a w
 | 0, _, _, _, h => h
 | fuel + 1, _, _, _, h => ⟨h.1, fun i hi => wpOp_mono (fun a' w' h' => h'.imp id fun h => ⟨hS _ h.1, wpAnyF_mono hS fuel _ a' w' h.2⟩) (h.2 i hi)⟩
theorem one_run {S : World → Prop} {fins : List Nat} {i : Nat} (hi : i < ops.size) {fuel : Nat} {listed : Array Bool} (hr : Region.ready md ops listed = [i]) {K : Act → World → Prop} {a : Act} {w : World} (hl : wpList P ops (Exit.then K Q) [ops.getD i default] a w)
  (hK : ∀ a'' w'', K a'' w'' → (i ∈ fins ∨ S w'') ∧ wpAnyF P md ops Q S fins fuel (listed.setIfInBounds i true) a'' w'') : wpAnyF P md ops Q S fins (fuel + 1) listed a w := by
 have ho : ops[i]? = some (ops.getD i default) := by simp [Array.getD, hi]
 refine ⟨fun h0 => (by rw [hr] at h0; cases h0), fun j hj => ?_⟩
 rw [hr, List.mem_singleton] at hj
 subst hj
 exact wpOp_mono (fun a'' w'' hk => orF (hK a'' w'' hk)) (wpOp_of_list ho hl)
theorem fin_run {S : World → Prop} {g : Option Nat} {fins : List Nat} : ∀ (l : List (List Nat × Nat × Bool)) (listed : Array Bool) (a : Act) (w : World), l.all (fun x => x.2.2 && x.1.isEmpty) = true → mixB md ops fins l listed = true →
  wpMixO P ops Q g (mixOf ops l) a w → wpAnyF P md ops Q S fins (mixFuel l) listed a w
 | [], listed, a, w, _, hB, h => ⟨by simpa [mixB] using hB, h⟩
 | (lq, i, f) :: rest, listed, a, w, ha, hB, h => by
  simp only [List.all_cons, Bool.and_eq_true, List.isEmpty_iff] at ha
  obtain ⟨⟨rfl, rfl⟩, ha⟩ := ha
  simp only [mixB, quietB] at hB
  simp only [Bool.and_eq_true, decide_eq_true_eq, beq_iff_eq] at hB
  obtain ⟨⟨⟨⟨h1, h2⟩, h3⟩, h4⟩, h5⟩ := hB
  simp only [mixOf, List.map_cons, List.map_nil, wpMixO, wpQuiet] at h
  have hif : i ∈ fins := by simpa using h2.symm
  rw [show mixFuel (([], i, true) :: rest) = mixFuel rest + 1 by simp [mixFuel]; omega]
  exact one_run h4 h1 h fun a'' w'' hk => ⟨.inl hif, fin_run rest _ a'' w'' ha h5 hk.2⟩
theorem mix_runO {fins : List Nat} {g : Option Nat} (hs : Region.noSelect ops = true) (hQ : ∀ c a d v w, Q (.panic c) (Act.put a d v) w → Q (.panic c) a w) :
  ∀ (l : List (List Nat × Nat × Bool)) (listed : Array Bool) (a : Act) (w : World), Closed md ops listed → mixB md ops fins l listed = true → wpMixO P ops Q g (mixOf ops l) a w → wpAnyF P md ops Q (OldD g w) fins (mixFuel l) listed a w
 | [], listed, a, w, _, hB, h => ⟨by simpa [mixB] using hB, h⟩
 | (lq, i, f) :: rest, listed, a, w, hcl, hB, h => by
  cases f with
  | true =>
   have hB2 := hB
   simp only [mixB] at hB2
   split at hB2
   ·cases hB2
   ·simp only [Bool.not_true, Bool.false_or, Bool.and_eq_true] at hB2
    exact fin_run _ _ _ _ (by simp only [List.all_cons, Bool.and_eq_true]; exact ⟨⟨trivial, hB2.1.1.2.1⟩, hB2.1.1.2.2⟩) hB h
  | false =>
   simp only [mixB] at hB
   split at hB
   case h_1 => cases hB
   rename_i listed' hq
   simp only [Bool.and_eq_true, decide_eq_true_eq, beq_iff_eq] at hB
   obtain ⟨⟨⟨⟨h1, h2⟩, h3⟩, h4⟩, h5⟩ := hB
   rw [show mixFuel ((lq, i, false) :: rest) = lq.length + (mixFuel rest + 1) by simp only [mixFuel]; omega]
   simp only [mixOf, List.map_cons, wpMixO] at h
   exact quiet_run hs hQ (OldD.refl _ _) lq listed listed' a hcl hq h fun a' hcl' hl => one_run h4 h1 hl fun a'' w'' ⟨ho, hm⟩ =>
    have ho : OldD g w w'' := ho.resolve_left (by simp)
    ⟨.inr ho, wpAnyF_mono (fun w3 h3 => OldD.step ho h3) _ _ _ _ (mix_runO hs hQ rest _ a'' w'' (hcl'.set (by rw [h1]; exact List.mem_singleton.2 rfl)) h5 hm)⟩
end draw
section
variable {P : Program} {ty : Ty} {E : Env} {nt : Nat} {M M' : Mp} {σ σ' : AS} {a a' : Act} {w w' : World}
theorem Same.old (h : Rel E M σ.H w) (ho : OldD none w w') : Same M σ.H w w' := by
 rintro b (hb | ⟨id, fz, t, sz, r, hr, rfl⟩ | ⟨q, hq⟩)
 ·exact ho.2 b (h.rlt b hb) (by simp)
 ·exact ho.2 _ (h.lt hr) (by simp)
 ·exact ho.2 b (h.tau.lt hq) (by simp)
theorem rootAt_dead (H : List Root) (k : Nat) : rootAt (setRoot H k .dead) k = .dead := by
 by_cases hk : k < H.length
 ·rw [rootAt_set, if_pos ⟨rfl, hk⟩]
 ·exact rootAt_big (by rw [setRoot_len]; omega)
theorem rootAt_kill {H : List Root} {k i : Nat} {fz : Bool} {t : TypeId} {sz : Nat} {r : Row} (h : rootAt (setRoot H k .dead) i = .live fz t sz r) : i ≠ k ∧ rootAt H i = .live fz t sz r := by
 by_cases e : i = k
 ·subst e; rw [rootAt_dead] at h; cases h
 ·refine ⟨e, ?_⟩
  rw [rootAt_set, if_neg (fun hh => e hh.1)] at h
  exact h
theorem Con.kill {x : AV} {v : Value} (k : Nat) (h : Con M σ.H w x v) : Con M (setRoot σ.H k .dead) w x v := by
 cases x with
 | ptr id n i o => exact ⟨⟨by rw [setRoot_len]; exact h.1.1, h.1.2⟩, fun fz t sz r hr => h.2 fz t sz r (rootAt_kill hr).2⟩
 | h id st len => exact ⟨⟨by rw [setRoot_len]; exact h.1.1, h.1.2⟩, fun fz t sz r hr => h.2 fz t sz r (rootAt_kill hr).2⟩
 | _ => exact h
theorem Rel.kill (k : Nat) (h : Rel E M σ.H w) : Rel E M (setRoot σ.H k .dead) w := by
 refine ⟨h.bel, fun id fz t sz r hr => h.low id fz t sz r (rootAt_kill hr).2, fun id fz t sz r hr => ?_, fun id t sz r hr => h.froz id t sz r (rootAt_kill hr).2, fun id t sz r hr => h.thaw id t sz r (rootAt_kill hr).2,
  fun i j t s r t' s' r' h1 h2 => h.inj i j t s r t' s' r' (rootAt_kill h1).2 (rootAt_kill h2).2, h.rlt, h.src, h.tau.keep rfl (fun _ _ _ => rfl) (fun b q hq => (h.tau.new b q hq).2) fun b q j fz t s r hq hj => h.tau.row _ _ _ _ _ _ _ hq (rootAt_kill hj).2⟩
 obtain ⟨cur, k1, k2, k3, k4, k5, k6⟩ := h.row id fz t sz r (rootAt_kill hr).2
 refine ⟨cur, k1, k2, k3, k4, k5, fun i hi o ho => ?_⟩
 obtain ⟨v, g1, g2, g3⟩ := k6 i hi o ho
 refine ⟨v, g1, g2, ?_⟩
 unfold RCon at g3 ⊢
 split
 ·rename_i hb; rw [if_pos hb] at g3; exact g3.kill k
 ·rename_i hb; rw [if_neg hb] at g3; exact g3
theorem St.kill (k : Nat) (h : St E nt M σ a w) : St E nt M ⟨σ.tm, setRoot σ.H k .dead⟩ a w :=
 ⟨h.rel.kill k, fun t ht => Kp.R (fun _ _ hc => Con.kill k hc) (h.tms t ht), h.off, h.sz, h.df⟩
theorem Same.oldK {k : Nat} (h : Rel E M σ.H w) (hv : vldW σ.H k) (ho : OldD (some (M.phi k)) w w') : Same M (setRoot σ.H k .dead) w w' := by
 unfold vldW at hv
 split at hv
 ·rename_i fz t sz r hr
  obtain ⟨rfl, -⟩ := hv
  rintro b (hb | ⟨id, fz, t', sz', r', hr', rfl⟩ | ⟨q, hq⟩)
  ·refine ho.2 b (h.rlt b hb) fun e => ?_
   cases e
   exact h.thaw _ _ _ _ hr hb
  ·obtain ⟨h1, h2⟩ := rootAt_kill hr'
   refine ho.2 _ (h.lt h2) fun e => ?_
   have e : M.phi id = M.phi k := Option.some.inj e
   cases fz with
   | false => exact h1 (h.inj _ _ _ _ _ _ _ _ h2 hr e)
   | true => exact h.thaw _ _ _ _ hr (e ▸ h.froz _ _ _ _ h2)
  ·refine ho.2 b (h.tau.lt hq) fun e => ?_
   cases e
   exact h.tau.row _ _ _ _ _ _ _ hq hr rfl
 ·exact hv.elim
theorem val_okD (hT : TyOk P ty) (h : St E nt M σ a w) {ops : Array Oper} {o : Oper} (hv : isV o.op = true) (hd : ∀ t, o.dst = some t → t < nt) {K : AS → Prop} {dd : Option Nat} (hw : awpV ty (guardOf σ.tm ops o.guard) dd σ o K) :
  ∃ σ' v, K σ' ∧ σ'.H = σ.H ∧ St E nt M σ' (a.put o.dst v) w ∧ (Region.wanted o (yielded ops a.tmps) = true → ∀ w', OldD (dd.map M.phi) w w' → (execOp a.eval o).run P w' = .ok (.value v) w') ∧ (Region.wanted o (yielded ops a.tmps) = false → v = undef) := by
 obtain ⟨σ', v, k1, k2, k3, k4, k5⟩ := val_ok hT h hv hd hw
 refine ⟨σ', v, k1, k2, k3, fun hwt w' ho => ?_, k5⟩
 cases dd with
 | none => exact k4 hwt w' (Same.old h.rel ho)
 | some k =>
  unfold awpV at hw
  split at hw
  ·exact hw.elim
  ·rename_i g hg
   obtain ⟨h1, ⟨h2, h3⟩, h4, h5⟩ := hw
   rw [guard_ok h hg rfl] at hwt
   subst hwt
   obtain ⟨v', -, v2⟩ := opV_ok hT (h.kill k) hv rfl h1 (h3 rfl)
   have e1 := k4 (guard_ok h hg rfl) w Same.refl
   have e2 := v2 w Same.refl
   rw [e1] at e2
   cases e2
   exact v2 w' (Same.oldK h.rel h2 ho)
theorem phi_keep {w' : World} {H H' : List Root} {k : Nat} (hk : Kp M H w M' H' w') (h1 : vldW H k) (h2 : vldW H' k) : M'.phi k = M.phi k := by
 unfold vldW at h1 h2
 split at h1
 ·rename_i fz t sz r hr
  split at h2
  ·rename_i fz' t' sz' r' hr'
   have hc := hk (.ptr k 1 0 0) (.pointer (some ⟨M.phi k, M.off k + 0 * sz + 0, none⟩)) ⟨⟨rootAt_lt hr, rfl⟩, fun fz2 t2 sz2 r2 hr2 => by
    rw [hr] at hr2; cases hr2
    exact ⟨by omega, fun _ => rfl⟩⟩
   have := (hc.2 _ _ _ _ hr').2 (by omega)
   simp only [Value.pointer.injEq, Option.some.injEq, Addr.mk.injEq] at this
   exact this.1.symm
  ·exact h2.elim
 ·exact h1.elim
theorem awpO_w [Pan] {pu : Pu} {dd : Option Nat} {ops : Array Oper} {o : Oper} {K : AS → Prop} (hw : awpO P ty pu dd ops σ o K) : stb dd (vldW σ.H) := by
 unfold awpO at hw
 split at hw
 ·unfold awpV at hw
  split at hw
  ·exact hw.elim
  ·cases dd with
   | none => trivial
   | some k => exact hw.2.1.1
 ·exact hw.1
theorem pick_len (ops : Array Oper) : ∀ l : List Nat, (pick ops l).length = l.length
 | [] => rfl
 | _ :: l => by simp [pick, pick_len ops l]
theorem mixO_of [Pan] (hT : TyOk P ty) {nf : Nat} {dd g0 : Option Nat} {ops : Array Oper} {K : AS → Prop} {Q : Exit → Act → World → Prop} : ∀ (l : List Nat) {M : Mp} {σ : AS} {a : Act} {w : World}, St E nt M σ a w → (l ≠ [] → dd.map M.phi = g0) → (∀ o ∈ pick ops l, ∀ t, o.dst = some t → t < nt) → awpL P ty nf dd ops (pick ops l) K σ →
  (∀ a' w', After E nt M σ a w (dstL (pick ops l)) K a' w' → Q .normal a' w') → (∀ a' ch w', a'.defers = E.df → PanS E M σ.H w ch w' → Q (.panic ch) a' w') → wpMixO P ops Q g0 (mixOf ops (planO ops nf l)) a w
 | [], M, σ, a, w, h, _, _, hw, hQ, _ => hQ a w ⟨M, σ, h, Stp.refl _ _ _ _ _, hw⟩
 | i :: l, M, σ, a, w, h, hg0, hd, hw, hQ, hP => by
  have hg1 := hg0 (by simp)
  have hd0 := hd _ (List.mem_cons_self ..)
  have hdl : ∀ o ∈ pick ops l, ∀ t, o.dst = some t → t < nt := fun o ho => hd o (List.mem_cons_of_mem _ ho)
  have cont : ∀ {M' σ' a' w'}, Stp M σ a w M' σ' a' w' (fun t => (ops.getD i default).dst = some t) → ∀ a2 w2, After E nt M' σ' a' w' (dstL (pick ops l)) K a2 w2 → Q .normal a2 w2 := fun q3 a2 w2 ⟨M2, σ2, r1, r2, r3⟩ =>
   hQ a2 w2 ⟨M2, σ2, r1, q3.trans r2 (fun t ht => ⟨_, List.mem_cons_self .., ht⟩) (fun t ⟨o2, ho, ht⟩ => ⟨o2, List.mem_cons_of_mem _ ho, ht⟩), r3⟩
  simp only [planO]
  split
  ·rename_i q j r hc hp
   simp only [Bool.and_eq_true] at hc
   obtain ⟨hv, -⟩ := hc
   have hw' : awpV ty (guardOf σ.tm ops (ops.getD i default).guard) dd σ (ops.getD i default) (awpL P ty nf dd ops (pick ops l) K) := by
    have : awpO P ty _ dd ops σ (ops.getD i default) _ := hw
    unfold awpO at this
    rw [if_pos hv] at this
    exact this
   obtain ⟨σ', v, k1, k2, k3, k4, k5⟩ := val_okD hT h hv hd0 hw'
   have ih := mixO_of hT l k3 (fun _ => hg1) hdl k1 (cont (val_stp k2)) (fun a2 ch w2 hd hp => hP a2 ch w2 hd (by rw [k2] at hp; exact hp))
   rw [hp] at ih
   simp only [mixOf, List.map_cons, wpMixO] at ih ⊢
   unfold wpQuiet
   split
   ·rename_i hwt
    refine ⟨v, ?_, ih⟩
    rintro w1 ⟨e, rfl⟩
    unfold Oper.quietAt
    rw [k4 hwt e.val (hg1 ▸ e.ok)]
    exact ⟨rfl, rfl⟩
   ·rename_i hwt
    rw [k5 (by simpa using hwt)] at ih
    exact ih
  ·have hw' : awpO P ty (puOf nf l.length dd) dd ops σ (ops.getD i default) (awpL P ty nf dd ops (pick ops l) K) := by
    have : awpO P ty (puOf nf (pick ops l).length dd) dd ops σ (ops.getD i default) (awpL P ty nf dd ops (pick ops l) K) := hw
    rwa [pick_len] at this
   have hvw := awpO_w hw'
   have := op_ok (Q := Exit.then (fun a'' w'' => (decide (l.length < nf) = true ∨ OldD g0 w w'') ∧ wpMixO P ops Q g0 (mixOf ops (planO ops nf l)) a'' w'') Q)
    (next := wpList P ops (Exit.then (fun a'' w'' => (decide (l.length < nf) = true ∨ OldD g0 w w'') ∧ wpMixO P ops Q g0 (mixOf ops (planO ops nf l)) a'' w'') Q) []) hT h hd0 hw' (fun M' σ' a' w' q1 q2 q3 q4 =>
     ⟨by
      by_cases hf : l.length < nf
      ·exact .inl (decide_eq_true hf)
      ·exact .inr (hg1 ▸ q2 dd (by unfold puOf; rw [if_pos (by omega)])), mixO_of hT l q1 (fun hl => by
       cases dd with
       | none => exact hg1
       | some k =>
        obtain ⟨j, l', rfl⟩ := List.exists_cons_of_ne_nil hl
        have hv2 : vldW σ'.H k := awpO_w q4
        rw [← hg1]
        exact congrArg some (phi_keep q3.kp hvw hv2)) hdl q4 (cont q3) (fun a2 ch w2 hd hp => hP a2 ch w2 hd (hp.step q3.kp q3.len))⟩) (fun ch w' => hP a ch w' h.df)
   simp only [mixOf, List.map_cons, List.map_nil, wpMixO, wpQuiet]
   unfold wpList
   split
   ·rename_i hwt; rw [if_pos hwt] at this; exact .inl this
   ·rename_i hwt; rw [if_neg hwt] at this; exact this
def ordL (ops : Array Oper) (q : List Nat × Nat × Option Nat) : List Nat := if q.1.isEmpty then List.range ops.size else q.1
def drawOk (ops : Array Oper) (q : List Nat × Nat × Option Nat) : Bool :=
 Region.noSelect ops && mixB .any ops ((ordL ops q).drop ((ordL ops q).length - q.2.1)) (planO ops q.2.1 (ordL ops q)) (Array.replicate ops.size false) && decide (mixFuel (planO ops q.2.1 (ordL ops q)) = ops.size) && (ordL ops q).all (fun i => decide (i < ops.size))
def dstOk (nt : Nat) (ops : Array Oper) : Bool := ops.toList.all fun o => match o.dst with
 | some t => decide (t < nt)
 | none => true
theorem dstOk_spec {ops : Array Oper} (h : dstOk nt ops = true) : ∀ o ∈ ops.toList, ∀ t, o.dst = some t → t < nt := by
 intro o ho t ht
 have := List.all_eq_true.1 h o ho
 rw [ht] at this
 simpa using this
theorem pick_mem {ops : Array Oper} : ∀ {l : List Nat}, (∀ i ∈ l, i < ops.size) → ∀ o ∈ pick ops l, o ∈ ops.toList
 | [], _, o, h => by cases h
 | i :: l, hl, o, h => by
  rcases List.mem_cons.1 h with rfl | h
  ·have hi := hl i (List.mem_cons_self ..)
   simp [Array.getD, hi]
  ·exact pick_mem (fun j hj => hl j (List.mem_cons_of_mem _ hj)) o h
theorem pick_range (ops : Array Oper) : pick ops (List.range ops.size) = ops.toList := by
 have : ∀ l : List Nat, pick ops l = l.map fun i => ops.getD i default := by
  intro l
  induction l with
  | nil => rfl
  | cons i l ih => simp [pick, ih]
 rw [this]
 apply List.ext_getElem
 ·simp
 ·intro i h1 h2
  simp at h1 h2 ⊢
  simp [Array.getD, h1]
theorem region_ok [Pan] (hT : TyOk P ty) (hm : P.follows .mixedOrders = true) {id : Nat} {ops : Array Oper} {q : List Nat × Nat × Option Nat} (hB : drawOk ops q = true) (hd : dstOk nt ops = true) {K : AS → Prop} (h : St E nt M σ a w) (hw : awpR P ty ops q K σ) {Q : Exit → Act → World → Prop}
  (hQ : ∀ a' w', After E nt M σ a w (dstL ops.toList) K a' w' → Q .normal a' w') (hQp : ∀ c a d v w, Q (.panic c) (Act.put a d v) w → Q (.panic c) a w) (hP : ∀ a' ch w', a'.defers = E.df → PanS E M σ.H w ch w' → Q (.panic ch) a' w') : (Code.region id ops true).wp P Q a w := by
 unfold drawOk at hB
 simp only [Bool.and_eq_true, decide_eq_true_eq, List.all_eq_true] at hB
 obtain ⟨⟨⟨b1, b2⟩, b3⟩, b4⟩ := hB
 have hw2 : awpL P ty q.2.1 q.2.2 ops (pick ops (ordL ops q)) K σ := by
  obtain ⟨l, nf, dd⟩ := q
  cases l with
  | nil =>
   show awpL P ty nf dd ops (pick ops (List.range ops.size)) K σ
   rw [pick_range]; exact hw
  | cons i l => exact hw
 have hb : Below w.heap.size w w.drew := (Below.refl _ _).drew
 have h2 : St E nt M σ a w.drew := ⟨h.rel.below hb, fun t ht => (Kp.below h.rel hb).R (h.tms t ht), h.off, h.sz, h.df⟩
 have hmem : ∀ o ∈ pick ops (ordL ops q), o ∈ ops.toList := pick_mem b4
 have hmix := mixO_of (Q := Q) (g0 := q.2.2.map M.phi) hT (ordL ops q) h2 (fun _ => rfl) (fun o ho => dstOk_spec hd o (hmem o ho)) hw2 (fun a' w' ⟨M2, σ2, r1, r2, r3⟩ => hQ a' w' ⟨M2, σ2, r1, ⟨r2.len, (Kp.below h.rel hb).trans r2.kp, fun t ht => r2.tm t fun ⟨o, ho, e⟩ => ht ⟨o, hmem o ho, e⟩⟩, r3⟩) (fun a' ch w' hd hp => hP a' ch w' hd (hp.step (Kp.below h.rel hb) (Nat.le_refl _)))
 refine wp_region_any hm (wpAny_of_F (S := OldD (q.2.2.map M.phi) w.drew) (fins := (ordL ops q).drop ((ordL ops q).length - q.2.1)) _ _ _ _ ?_)
 rw [← b3]
 exact mix_runO b1 hQp _ _ a _ (fun j oj _ hl => by rw [getD_replicate_false] at hl; cases hl) (by rw [b3]; exact b2) hmix
end
theorem renT_lk (n : Nat) (ids : List Nat) : ∀ (tm : Tm) (t : Nat), lk (renT n ids tm) t = ((lk tm t).1, renR n ids (lk tm t).2)
 | [], _ => rfl
 | (k, g, v) :: l, t => by
  simp only [renT, lk]
  split
  ·rfl
  ·exact renT_lk n ids l t
theorem renT_gets (n : Nat) (ids : List Nat) (tm : Tm) : ∀ vy : List Nat, gets (renT n ids tm) vy = renG n ids (gets tm vy)
 | [] => rfl
 | t :: l => by simp only [gets, renG, renT_lk, renT_gets n ids tm l]
theorem renRs_len (n : Nat) (ids : List Nat) : ∀ l : List Root, (renRs n ids l).length = l.length
 | [] => rfl
 | _ :: l => by simp [renRs, renRs_len n ids l]
theorem pickR_len (n : Nat) (ids : List Nat) (H : List Root) : ∀ l : List Nat, (pickR n ids H l).length = l.length
 | [] => rfl
 | _ :: l => by simp [pickR, pickR_len n ids H l]
theorem renRs_at (n : Nat) (ids : List Nat) : ∀ (l : List Root) (j : Nat), rootAt (renRs n ids l) j = renRoot n ids (rootAt l j)
 | [], _ => rfl
 | _ :: _, 0 => rfl
 | _ :: l, j + 1 => by simp only [renRs, rootAt]; exact renRs_at n ids l j
theorem rootAt_append : ∀ (l m : List Root) (j : Nat), rootAt (l ++ m) j = if j < l.length then rootAt l j else rootAt m (j - l.length)
 | [], m, j => by simp
 | a :: l, m, 0 => by simp [rootAt]
 | a :: l, m, j + 1 => by
  simp only [List.cons_append, rootAt, List.length_cons, rootAt_append l m j, Nat.add_lt_add_iff_right]
  congr 2
  omega
theorem pickR_at (n : Nat) (ids : List Nat) (H : List Root) : ∀ (l : List Nat) (j : Nat), rootAt (pickR n ids H l) j = match l[j]? with
  | some i => renRoot n ids (rootAt H i)
  | none => .dead
 | [], j => by simp [pickR, rootAt]
 | _ :: _, 0 => by simp [pickR, rootAt]
 | _ :: l, j + 1 => by simp only [pickR, rootAt, List.getElem?_cons_succ]; exact pickR_at n ids H l j
def src (n : Nat) (ids : List Nat) (j : Nat) : Option Nat := if j < n then some j else ids[j - n]?
theorem renH_at {n : Nat} {ids : List Nat} {H : List Root} (hn : n ≤ H.length) (j : Nat) : rootAt (renH n ids H) j = match src n ids j with
  | some i => renRoot n ids (rootAt H i)
  | none => .dead := by
 have hl : (H.take n).length = n := by simp; omega
 unfold renH src
 rw [rootAt_append, renRs_len, hl, renRs_at, rootAt_take, pickR_at]
 by_cases h : j < n
 ·simp [h]
 ·simp [h]
theorem renH_len {n : Nat} {ids : List Nat} {H : List Root} (hn : n ≤ H.length) : (renH n ids H).length = n + ids.length := by
 unfold renH
 rw [List.length_append, renRs_len, pickR_len, List.length_take]
 omega
theorem pos_spec : ∀ (l : List Nat) (id k j : Nat), pos l id k = some j → k ≤ j ∧ l[j - k]? = some id
 | [], _, _, _, h => by cases h
 | a :: l, id, k, j, h => by
  simp only [pos] at h
  split at h
  ·rename_i e
   cases h
   exact ⟨Nat.le_refl _, by simp [e]⟩
  ·obtain ⟨h1, h2⟩ := pos_spec l id (k + 1) j h
   refine ⟨by omega, ?_⟩
   rw [show j - k = (j - (k + 1)) + 1 by omega, List.getElem?_cons_succ]
   exact h2
theorem renI_spec {n : Nat} {ids : List Nat} {id j : Nat} (h : renI n ids id = some j) : src n ids j = some id := by
 unfold renI at h
 unfold src
 split at h
 ·cases h; rename_i h; rw [if_pos h]
 ·obtain ⟨h1, h2⟩ := pos_spec _ _ _ _ h
  rw [if_neg (by omega), h2]
theorem src_lt {n : Nat} {ids : List Nat} {j i : Nat} (h : src n ids j = some i) : j < n + ids.length := by
 unfold src at h
 split at h
 ·omega
 ·have := (List.getElem?_eq_some_iff.1 h).1; omega
theorem renLL_len (n : Nat) (ids : List Nat) : ∀ l : List (List AV), (renLL n ids l).length = l.length
 | [] => rfl
 | _ :: l => by simp [renLL, renLL_len n ids l]
theorem renLL_get (n : Nat) (ids : List Nat) : ∀ (l : List (List AV)) (i : Nat), (renLL n ids l).getD i [] = renL n ids (l.getD i [])
 | [], _ => rfl
 | _ :: _, 0 => rfl
 | _ :: l, i + 1 => by simpa [renLL] using renLL_get n ids l i
theorem renRow_len (n : Nat) (ids : List Nat) (r : Row) : (renRow n ids r).len = r.len := by
 cases r with
 | own l => exact renLL_len n ids l
 | _ => rfl
theorem renRow_one (n : Nat) (ids : List Nat) (r : Row) : (renRow n ids r).one = r.one := by cases r <;> rfl
theorem renRow_box (n : Nat) (ids : List Nat) (r : Row) : (renRow n ids r).isBox = r.isBox := by cases r <;> rfl
theorem nth_ren (n : Nat) (ids : List Nat) : ∀ (l : List AV) (o : Nat), nth (renL n ids l) o = renA n ids (nth l o)
 | [], _ => rfl
 | _ :: _, 0 => rfl
 | _ :: l, o + 1 => by simp only [renL, nth]; exact nth_ren n ids l o
theorem okI_mem {n : Nat} : ∀ {l : List Nat}, okI n l = true → (∀ i ∈ l, n ≤ i) ∧ ∀ (j k i : Nat), l[j]? = some i → l[k]? = some i → j = k
 | [], _ => ⟨fun _ h => (by cases h), fun j k i h => by simp at h⟩
 | a :: l, h => by
  simp only [okI, Bool.and_eq_true, decide_eq_true_eq, Bool.not_eq_true', List.contains_eq_mem, decide_eq_false_iff_not] at h
  obtain ⟨⟨h1, h2⟩, h3⟩ := h
  obtain ⟨k1, k2⟩ := okI_mem h3
  refine ⟨fun i hi => ?_, fun j k i hj hk => ?_⟩
  ·rcases List.mem_cons.1 hi with rfl | hi
   ·exact h1
   ·exact k1 i hi
  ·cases j with
   | zero =>
    cases k with
    | zero => rfl
    | succ k =>
     simp at hj hk
     subst hj
     exact absurd (List.mem_of_getElem? hk) h2
   | succ j =>
    cases k with
    | zero =>
     simp at hj hk
     subst hk
     exact absurd (List.mem_of_getElem? hj) h2
    | succ k =>
     simp at hj hk
     rw [k2 j k i hj hk]
theorem src_inj {n : Nat} {ids : List Nat} (ho : okI n ids = true) {i j k : Nat} (h1 : src n ids i = some k) (h2 : src n ids j = some k) : i = j := by
 obtain ⟨k1, k2⟩ := okI_mem ho
 unfold src at h1 h2
 split at h1
 ·cases h1
  split at h2
  ·cases h2; rfl
  ·have := k1 _ (List.mem_of_getElem? h2); omega
 ·split at h2
  ·cases h2
   have := k1 _ (List.mem_of_getElem? h1); omega
  ·have := k2 _ _ _ h1 h2; omega
section
variable {E : Env} {nt : Nat} {M : Mp} {H : List Root} {σ : AS} {a : Act} {w : World} {n : Nat} {ids : List Nat}
def renM (n : Nat) (ids : List Nat) (M : Mp) : Mp := ⟨fun j => match src n ids j with
 | some i => M.phi i
 | none => 0, fun j => match src n ids j with
 | some i => M.off i
 | none => 0, M.rho, M.tau⟩
theorem renM_phi {j i : Nat} (h : src n ids j = some i) : (renM n ids M).phi j = M.phi i := by
 show (match src n ids j with | some i => M.phi i | none => 0) = _
 rw [h]
theorem renM_off {j i : Nat} (h : src n ids j = some i) : (renM n ids M).off j = M.off i := by
 show (match src n ids j with | some i => M.off i | none => 0) = _
 rw [h]
theorem ren_live (hn : n ≤ H.length) {j : Nat} {fz : Bool} {t : TypeId} {sz : Nat} {r : Row} (h : rootAt (renH n ids H) j = .live fz t sz r) : ∃ i r0, src n ids j = some i ∧ rootAt H i = .live fz t sz r0 ∧ r = renRow n ids r0 := by
 rw [renH_at hn] at h
 cases hs : src n ids j with
 | none => rw [hs] at h; cases h
 | some i =>
  rw [hs] at h
  simp only at h
  cases hr : rootAt H i with
  | dead => rw [hr] at h; cases h
  | live fz' t' sz' r' => rw [hr] at h; cases h; exact ⟨i, r', rfl, hr, rfl⟩
theorem Con.ren (hn : n ≤ H.length) {x : AV} {v : Value} (h : Con M H w x v) : Con (renM n ids M) (renH n ids H) w (renA n ids x) v := by
 cases x with
 | ptr id m i o =>
  simp only [renA]
  cases hs : renI n ids id with
  | none => trivial
  | some j =>
   have hsr := renI_spec hs
   refine ⟨⟨by rw [renH_len hn]; exact src_lt hsr, h.1.2⟩, fun fz t sz r hr => ?_⟩
   obtain ⟨i0, r0, k1, k2, rfl⟩ := ren_live hn hr
   rw [hsr] at k1
   cases k1
   rw [renRow_len, renM_phi hsr, renM_off hsr]
   exact h.2 _ _ _ _ k2
 | h id st len =>
  simp only [renA]
  cases hs : renI n ids id with
  | none => trivial
  | some j =>
   have hsr := renI_spec hs
   refine ⟨⟨by rw [renH_len hn]; exact src_lt hsr, h.1.2⟩, fun fz t sz r hr => ?_⟩
   obtain ⟨i0, r0, k1, k2, rfl⟩ := ren_live hn hr
   rw [hsr] at k1
   cases k1
   rw [renRow_len, renM_phi hsr, renM_off hsr]
   exact h.2 _ _ _ _ k2
 | junk => trivial
 | _ => exact h
theorem ConL.ren (hn : n ≤ H.length) : ∀ {l : List AV} {vs : List Value}, ConL M H w l vs → ConL (renM n ids M) (renH n ids H) w (renL n ids l) vs
 | [], _, h => h
 | _ :: _, _, ⟨v, r, e, h1, h2⟩ => ⟨v, r, e, h1.ren hn, ConL.ren hn h2⟩
mutual
theorem ConR.ren (hn : n ≤ H.length) : ∀ {x : RV} {v : Value}, ConR M H w x v → ConR (renM n ids M) (renH n ids H) w (renR n ids x) v
 | .c _, _, h => Con.ren hn h
 | .agg _, _, ⟨vs, e, h⟩ => ⟨vs, e, ConL.ren hn h⟩
 | .fn _ _, _, ⟨vs, e, h⟩ => ⟨vs, e, ConL.ren hn h⟩
 | .tup _, _, ⟨vs, e, h⟩ => ⟨vs, e, ConRL.ren hn h⟩
 | .ifc _ _, _, ⟨u, e, h⟩ => ⟨u, e, ConR.ren hn h⟩
theorem ConRL.ren (hn : n ≤ H.length) : ∀ {x : List RV} {vs : List Value}, ConRL M H w x vs → ConRL (renM n ids M) (renH n ids H) w (renRL n ids x) vs
 | [], _, h => h
 | _ :: _, _, ⟨v, r, e, h1, h2⟩ => ⟨v, r, e, ConR.ren hn h1, ConRL.ren hn h2⟩
end
theorem Rel.ren (h : Rel E M H w) (hn : n ≤ H.length) (ho : okI n ids = true) : Rel E (renM n ids M) (renH n ids H) w := by
 refine ⟨h.bel, fun id fz t sz r hr => ?_, fun id fz t sz r hr => ?_, fun id t sz r hr => ?_, fun id t sz r hr => ?_, fun i j t s r t' s' r' hi hj he => ?_, h.rlt, h.src, h.tau.keep rfl (fun _ _ _ => rfl) (fun b q hq => (h.tau.new b q hq).2) fun b q j fz t s r hq hj => (by
  obtain ⟨i, r0, k1, k2, rfl⟩ := ren_live hn hj
  rw [renM_phi k1]; exact h.tau.row _ _ _ _ _ _ _ hq k2)⟩
 ·obtain ⟨i, r0, k1, k2, rfl⟩ := ren_live hn hr
  rw [renM_phi k1]; exact h.low _ _ _ _ _ k2
 ·obtain ⟨i, r0, k1, k2, rfl⟩ := ren_live hn hr
  rw [renM_phi k1, renM_off k1]
  obtain ⟨cur, c1, c2, c3, c4, c5, c6⟩ := h.row _ _ _ _ _ k2
  refine ⟨cur, c1, c2, by rw [renRow_len]; exact c3, c4, by rw [renRow_one]; exact c5, fun i hi o ho2 => ?_⟩
  rw [renRow_len] at hi
  obtain ⟨v, q1, q2, q3⟩ := c6 i hi o ho2
  refine ⟨v, q1, q2, ?_⟩
  unfold RCon at q3 ⊢
  rw [renRow_box]
  cases r0 with
  | box l =>
   simp only [Row.isBox, if_true] at q3 ⊢
   show Con _ _ w (nth (renL n ids l) o) v
   rw [nth_ren]
   exact q3.ren hn
  | own l =>
   simp only [Row.isBox, if_true] at q3 ⊢
   show Con _ _ w (nth ((renLL n ids l).getD i []) o) v
   rw [renLL_get, nth_ren]
   exact q3.ren hn
  | _ => exact q3
 ·obtain ⟨i, r0, k1, k2, rfl⟩ := ren_live hn hr
  rw [renM_phi k1]; exact h.froz _ _ _ _ k2
 ·obtain ⟨i, r0, k1, k2, rfl⟩ := ren_live hn hr
  rw [renM_phi k1]; exact h.thaw _ _ _ _ k2
 ·obtain ⟨i0, r0, k1, k2, rfl⟩ := ren_live hn hi
  obtain ⟨j0, r1, k3, k4, rfl⟩ := ren_live hn hj
  rw [renM_phi k1, renM_phi k3] at he
  obtain rfl := h.inj _ _ _ _ _ _ _ _ k2 k4 he
  exact src_inj ho k1 k3
def renS (n : Nat) (ids : List Nat) (σ : AS) : AS := ⟨renT n ids σ.tm, renH n ids σ.H⟩
theorem St.ren (h : St E nt M σ a w) (hn : n ≤ σ.H.length) (ho : okI n ids = true) : St E nt (renM n ids M) (renS n ids σ) a w := by
 refine ⟨h.rel.ren hn ho, fun t ht => ?_, fun t ht => ?_, h.sz, h.df⟩
 ·have ht : (lk (renT n ids σ.tm) t).1 = true := ht
  show ConR _ _ w (lk (renT n ids σ.tm) t).2 _
  rw [renT_lk] at ht ⊢
  exact (h.tms t ht).ren hn
 ·have ht : (lk (renT n ids σ.tm) t).1 = false := ht
  rw [renT_lk] at ht
  exact h.off t ht
theorem ren_scp {x : AV} (hs : x.scp n = true) : renA n ids x = x := by
 cases x with
 | ptr id m i o =>
  have : id < n := by simpa [AV.scp] using hs
  simp only [renA, renI, if_pos this, mkPtr]
 | h id st len =>
  have : id < n := by simpa [AV.scp] using hs
  simp only [renA, renI, if_pos this, mkH]
 | _ => rfl
theorem dead_rep : ∀ d k : Nat, rootAt (List.replicate d .dead) k = .dead
 | 0, _ => rfl
 | _ + 1, 0 => rfl
 | d + 1, k + 1 => by simp only [List.replicate_succ, rootAt]; exact dead_rep d k
theorem dead_at (H : List Root) (d j : Nat) : rootAt (H ++ List.replicate d .dead) j = rootAt H j := by
 rw [rootAt_append]
 split
 ·rfl
 ·rename_i h
  rw [dead_rep, rootAt_big (H := H) (by omega)]
theorem Con.dead (d : Nat) {x : AV} {v : Value} (h : Con M H w x v) : Con M (H ++ List.replicate d .dead) w x v := by
 cases x with
 | ptr id m i o => exact ⟨⟨by rw [List.length_append]; have := h.1.1; omega, h.1.2⟩, fun fz t sz r hr => h.2 _ _ _ _ (by rw [dead_at] at hr; exact hr)⟩
 | h id st len => exact ⟨⟨by rw [List.length_append]; have := h.1.1; omega, h.1.2⟩, fun fz t sz r hr => h.2 _ _ _ _ (by rw [dead_at] at hr; exact hr)⟩
 | junk => trivial
 | _ => exact h
theorem ConL.dead (d : Nat) : ∀ {l : List AV} {vs : List Value}, ConL M H w l vs → ConL M (H ++ List.replicate d .dead) w l vs
 | [], _, h => h
 | _ :: _, _, ⟨v, r, e, h1, h2⟩ => ⟨v, r, e, h1.dead d, ConL.dead d h2⟩
mutual
theorem ConR.dead (d : Nat) : ∀ {x : RV} {v : Value}, ConR M H w x v → ConR M (H ++ List.replicate d .dead) w x v
 | .c _, _, h => Con.dead d h
 | .agg _, _, ⟨vs, e, h⟩ => ⟨vs, e, ConL.dead d h⟩
 | .fn _ _, _, ⟨vs, e, h⟩ => ⟨vs, e, ConL.dead d h⟩
 | .tup _, _, ⟨vs, e, h⟩ => ⟨vs, e, ConRL.dead d h⟩
 | .ifc _ _, _, ⟨u, e, h⟩ => ⟨u, e, ConR.dead d h⟩
theorem ConRL.dead (d : Nat) : ∀ {x : List RV} {vs : List Value}, ConRL M H w x vs → ConRL M (H ++ List.replicate d .dead) w x vs
 | [], _, h => h
 | _ :: _, _, ⟨v, r, e, h1, h2⟩ => ⟨v, r, e, ConR.dead d h1, ConRL.dead d h2⟩
end
theorem Rel.dead (d : Nat) (h : Rel E M H w) : Rel E M (H ++ List.replicate d .dead) w := by
 refine ⟨h.bel, fun id fz t sz r hr => ?_, fun id fz t sz r hr => ?_, fun id t sz r hr => ?_, fun id t sz r hr => ?_, fun i j t s r t' s' r' hi hj he => ?_, h.rlt, h.src, h.tau.keep rfl (fun _ _ _ => rfl) (fun b q hq => (h.tau.new b q hq).2) fun b q j fz t s r hq hj => (by rw [dead_at] at hj; exact h.tau.row _ _ _ _ _ _ _ hq hj)⟩
 ·rw [dead_at] at hr; exact h.low _ _ _ _ _ hr
 ·rw [dead_at] at hr
  obtain ⟨cur, c1, c2, c3, c4, c5, c6⟩ := h.row _ _ _ _ _ hr
  refine ⟨cur, c1, c2, c3, c4, c5, fun i hi o ho2 => ?_⟩
  obtain ⟨v, q1, q2, q3⟩ := c6 i hi o ho2
  refine ⟨v, q1, q2, ?_⟩
  unfold RCon at q3 ⊢
  split
  ·rename_i hb; rw [if_pos hb] at q3; exact q3.dead d
  ·rename_i hb; rw [if_neg hb] at q3; exact q3
 ·rw [dead_at] at hr; exact h.froz _ _ _ _ hr
 ·rw [dead_at] at hr; exact h.thaw _ _ _ _ hr
 ·rw [dead_at] at hi hj; exact h.inj _ _ _ _ _ _ _ _ hi hj he
end
section
variable {P : Program} {ty : Ty} {E : Env} {nt : Nat} {M M' : Mp} {σ σ' : AS} {a a' : Act} {w w' : World}
def okC (nt : Nat) (ord : Nat → List Nat × Nat × Option Nat) : Code → Bool
 | .region id ops dr => dstOk nt ops && (!dr || drawOk ops (ord id))
 | .seq a b => okC nt ord a && okC nt ord b
 | .cond _ a b => okC nt ord a && okC nt ord b
 | .block _ a => okC nt ord a
 | .loop a => okC nt ord a
 | _ => true
def asgP (c : Code) (t : Nat) : Prop := t ∈ asg c
theorem least (p : Nat → Prop) (h : ∃ n, p n) : ∃ n, p n ∧ ∀ m, p m → n ≤ m := by
 obtain ⟨n, hn⟩ := h
 induction n using Nat.strongRecOn with
 | _ n ih =>
  by_cases hc : ∃ m, m < n ∧ p m
  ·obtain ⟨m, hm, hp⟩ := hc; exact ih m hm hp
  ·exact ⟨n, hn, fun m hm => Nat.le_of_not_lt fun hlt => hc ⟨m, hlt, hm⟩⟩
theorem wp_loop_ghost {ι : Type} {c : Code} {Q : Exit → Act → World → Prop} (I : ι → Act → World → Prop) (μ : ι → Nat) (s0 : ι) {a : Act} {w : World} (h0 : I s0 a w)
  (round : ∀ s a w, I s a w → c.wp P (Exit.then (fun a' w' => ∃ s', I s' a' w' ∧ μ s' < μ s) Q) a w) : (Code.loop c).wp P Q a w := by
 classical
 have hl : ∀ (a : Act) (w : World), (∃ n, ∃ s, I s a w ∧ μ s = n) → ∃ n, (∃ s, I s a w ∧ μ s = n) ∧ ∀ m, (∃ s, I s a w ∧ μ s = m) → n ≤ m := fun a w h => least _ h
 let f : Act → World → Nat := fun a w => if h : ∃ n, ∃ s, I s a w ∧ μ s = n then Classical.choose (hl a w h) else 0
 have hf : ∀ a w s, I s a w → (∃ s', I s' a w ∧ μ s' = f a w) ∧ f a w ≤ μ s := by
  intro a w s hs
  have h : ∃ n, ∃ s, I s a w ∧ μ s = n := ⟨_, s, hs, rfl⟩
  have := Classical.choose_spec (hl a w h)
  have e : f a w = Classical.choose (hl a w h) := dif_pos h
  rw [e]
  exact ⟨this.1, this.2 _ ⟨s, hs, rfl⟩⟩
 refine wp_loop (fun a w => ∃ s, I s a w) f ⟨s0, h0⟩ fun a w ⟨s, hs⟩ => ?_
 obtain ⟨⟨s1, h1, h2⟩, -⟩ := hf a w s hs
 refine wp_mono (round s1 a w h1) fun e a' w' q => ?_
 cases e with
 | normal =>
  obtain ⟨s', q1, q2⟩ := q
  exact ⟨⟨s', q1⟩, by have := (hf a' w' s' q1).2; omega⟩
 | _ => exact q
theorem lk_setT : ∀ (vy : List Nat) (vs : List RV) (tm tm0 : Tm), gets tm0 vy = tvals vs → ∀ t, (t ∈ vy ∧ lk (setT vy vs tm) t = lk tm0 t) ∨ (t ∉ vy ∧ lk (setT vy vs tm) t = lk tm t)
 | [], vs, tm, tm0, _, t => .inr ⟨by simp, by cases vs <;> rfl⟩
 | v :: vy, [], tm, tm0, h, t => by simp [gets, tvals] at h
 | v :: vy, x :: vs, tm, tm0, h, t => by
  simp only [gets, tvals, List.cons.injEq] at h
  simp only [setT, lk]
  by_cases e : v = t
  ·subst e
   exact .inl ⟨List.mem_cons_self .., by rw [if_pos rfl, h.1]⟩
  ·rw [if_neg e]
   rcases lk_setT vy vs tm tm0 h.2 t with ⟨h1, h2⟩ | ⟨h1, h2⟩
   ·exact .inl ⟨List.mem_cons_of_mem _ h1, h2⟩
   ·exact .inr ⟨by simp only [List.mem_cons, not_or]; exact ⟨fun e2 => e e2.symm, h1⟩, h2⟩
theorem lk_fxT (tm : Tm) : ∀ (fx : List Nat) (t : Nat), (t ∈ fx ∧ lk (fxT tm fx) t = lk tm t) ∨ (t ∉ fx ∧ lk (fxT tm fx) t = (true, .c .junk))
 | [], t => .inr ⟨by simp, rfl⟩
 | x :: fx, t => by
  simp only [fxT, lk]
  by_cases e : x = t
  ·subst e; exact .inl ⟨List.mem_cons_self .., by rw [if_pos rfl]⟩
  ·rw [if_neg e]
   rcases lk_fxT tm fx t with ⟨h1, h2⟩ | ⟨h1, h2⟩
   ·exact .inl ⟨List.mem_cons_of_mem _ h1, h2⟩
   ·exact .inr ⟨by simp only [List.mem_cons, not_or]; exact ⟨fun e2 => e e2.symm, h1⟩, h2⟩
theorem noAsg_spec {c : Code} {fx : List Nat} (h : noAsg c fx = true) {t : Nat} (ht : t ∈ fx) : ¬ asgP c t := by
 have := List.all_eq_true.1 h t ht
 simpa [asgP] using this
theorem Con.take {H : List Root} {k : Nat} {x : AV} {v : Value} (hk : k ≤ H.length) (hs : x.scp k = true) (h : Con M H w x v) : Con M (H.take k) w x v := by
 have hlen : (H.take k).length = k := by simp; omega
 cases x with
 | ptr id n i o =>
  have hid : id < k := by simpa [AV.scp] using hs
  exact ⟨⟨by omega, h.1.2⟩, fun fz t sz r hr => by rw [rootAt_take, if_pos hid] at hr; exact h.2 _ _ _ _ hr⟩
 | h id st len =>
  have hid : id < k := by simpa [AV.scp] using hs
  exact ⟨⟨by omega, h.1.2⟩, fun fz t sz r hr => by rw [rootAt_take, if_pos hid] at hr; exact h.2 _ _ _ _ hr⟩
 | junk => trivial
 | _ => exact h
theorem ConL.take {H : List Root} {k : Nat} (hk : k ≤ H.length) : ∀ {l : List AV} {vs : List Value}, scpL k l = true → ConL M H w l vs → ConL M (H.take k) w l vs
 | [], _, _, h => h
 | x :: l, _, hs, ⟨v, r, e, h1, h2⟩ => by
  simp only [scpL, Bool.and_eq_true] at hs
  exact ⟨v, r, e, h1.take hk hs.1, ConL.take hk hs.2 h2⟩
mutual
theorem ConR.take {H : List Root} {k : Nat} (hk : k ≤ H.length) : ∀ {x : RV} {v : Value}, scpR k x = true → ConR M H w x v → ConR M (H.take k) w x v
 | .c _, _, hs, h => Con.take hk hs h
 | .agg _, _, hs, ⟨vs, e, h⟩ => ⟨vs, e, ConL.take hk hs h⟩
 | .fn _ _, _, hs, ⟨vs, e, h⟩ => ⟨vs, e, ConL.take hk hs h⟩
 | .tup _, _, hs, ⟨vs, e, h⟩ => ⟨vs, e, ConRL.take hk hs h⟩
 | .ifc _ _, _, hs, ⟨u, e, h⟩ => ⟨u, e, ConR.take hk hs h⟩
theorem ConRL.take {H : List Root} {k : Nat} (hk : k ≤ H.length) : ∀ {x : List RV} {vs : List Value}, scpRL k x = true → ConRL M H w x vs → ConRL M (H.take k) w x vs
 | [], _, _, h => h
 | x :: l, _, hs, ⟨v, r, e, h1, h2⟩ => by
  simp only [scpRL, Bool.and_eq_true] at hs
  exact ⟨v, r, e, ConR.take hk hs.1 h1, ConRL.take hk hs.2 h2⟩
end
theorem scp_of {H : List Root} {x : AV} {v : Value} (h : Con M H w x v) : x.scp H.length = true := by
 cases x with
 | ptr => simpa [AV.scp] using h.1.1
 | h => simpa [AV.scp] using h.1.1
 | _ => rfl
theorem scpH_at {k : Nat} : ∀ {H : List Root}, scpH k H = true → ∀ {id : Nat} {fz : Bool} {t : TypeId} {sz : Nat} {l : List AV}, rootAt H id = .live fz t sz (.box l) → scpL k l = true
 | [], _, _, _, _, _, _, h => by cases h
 | .live fz t sz (.box l) :: H, hs, 0, _, _, _, _, h => by
  simp only [scpH, Bool.and_eq_true] at hs
  cases h; exact hs.1
 | .live _ _ _ (.box _) :: H, hs, id + 1, _, _, _, _, h => by
  simp only [scpH, Bool.and_eq_true] at hs
  exact scpH_at hs.2 h
 | .dead :: H, hs, 0, _, _, _, _, h => by cases h
 | .live _ _ _ (.ints ..) :: H, hs, 0, _, _, _, _, h => by cases h
 | .live _ _ _ (.bools ..) :: H, hs, 0, _, _, _, _, h => by cases h
 | .live _ _ _ (.gen ..) :: H, hs, 0, _, _, _, _, h => by cases h
 | .live _ _ _ (.own ..) :: H, hs, 0, _, _, _, _, h => by cases h
 | .dead :: H, hs, id + 1, _, _, _, _, h => scpH_at (H := H) hs h
 | .live _ _ _ (.ints ..) :: H, hs, id + 1, _, _, _, _, h => scpH_at (H := H) hs h
 | .live _ _ _ (.bools ..) :: H, hs, id + 1, _, _, _, _, h => scpH_at (H := H) hs h
 | .live _ _ _ (.gen ..) :: H, hs, id + 1, _, _, _, _, h => scpH_at (H := H) hs h
 | .live _ _ _ (.own _) :: H, hs, id + 1, _, _, _, _, h => by
  simp only [scpH, Bool.and_eq_true] at hs
  exact scpH_at hs.2 h
theorem scpLL_at {k : Nat} : ∀ {l : List (List AV)}, scpLL k l = true → ∀ i, scpL k (l.getD i []) = true
 | [], _, _ => rfl
 | _ :: _, h, 0 => by simp only [scpLL, Bool.and_eq_true] at h; exact h.1
 | _ :: l, h, i + 1 => by simp only [scpLL, Bool.and_eq_true] at h; exact scpLL_at (l := l) h.2 i
theorem scpH_ow {k : Nat} : ∀ {H : List Root}, scpH k H = true → ∀ {id : Nat} {fz : Bool} {t : TypeId} {sz : Nat} {l : List (List AV)}, rootAt H id = .live fz t sz (.own l) → scpLL k l = true
 | [], _, _, _, _, _, _, h => by cases h
 | .live fz t sz (.own l) :: H, hs, 0, _, _, _, _, h => by
  simp only [scpH, Bool.and_eq_true] at hs
  cases h; exact hs.1
 | .live _ _ _ (.own _) :: H, hs, id + 1, _, _, _, _, h => by
  simp only [scpH, Bool.and_eq_true] at hs
  exact scpH_ow hs.2 h
 | .live _ _ _ (.box _) :: H, hs, id + 1, _, _, _, _, h => by
  simp only [scpH, Bool.and_eq_true] at hs
  exact scpH_ow hs.2 h
 | .dead :: H, hs, 0, _, _, _, _, h => by cases h
 | .live _ _ _ (.box ..) :: H, hs, 0, _, _, _, _, h => by cases h
 | .live _ _ _ (.ints ..) :: H, hs, 0, _, _, _, _, h => by cases h
 | .live _ _ _ (.bools ..) :: H, hs, 0, _, _, _, _, h => by cases h
 | .live _ _ _ (.gen ..) :: H, hs, 0, _, _, _, _, h => by cases h
 | .dead :: H, hs, id + 1, _, _, _, _, h => scpH_ow (H := H) hs h
 | .live _ _ _ (.ints ..) :: H, hs, id + 1, _, _, _, _, h => scpH_ow (H := H) hs h
 | .live _ _ _ (.bools ..) :: H, hs, id + 1, _, _, _, _, h => scpH_ow (H := H) hs h
 | .live _ _ _ (.gen ..) :: H, hs, id + 1, _, _, _, _, h => scpH_ow (H := H) hs h
theorem nth_scp {k : Nat} : ∀ {l : List AV}, scpL k l = true → ∀ j, (nth l j).scp k = true
 | [], _, _ => rfl
 | x :: l, hs, 0 => by simp only [scpL, Bool.and_eq_true] at hs; exact hs.1
 | x :: l, hs, j + 1 => by simp only [scpL, Bool.and_eq_true] at hs; exact nth_scp hs.2 j
theorem Rel.take {H : List Root} {k : Nat} (h : Rel E M H w) (hk : k ≤ H.length) (hs : scpH k (H.take k) = true) : Rel E M (H.take k) w := by
 have lift : ∀ {id : Nat} {fz : Bool} {t : TypeId} {sz : Nat} {r : Row}, rootAt (H.take k) id = .live fz t sz r → rootAt H id = .live fz t sz r := fun {id fz t sz r} hr => by
  rw [rootAt_take] at hr
  split at hr
  ·exact hr
  ·cases hr
 refine ⟨h.bel, fun id fz t sz r hr => h.low _ _ _ _ _ (lift hr), fun id fz t sz r hr => ?_, fun id t sz r hr => h.froz _ _ _ _ (lift hr), fun id t sz r hr => h.thaw _ _ _ _ (lift hr), fun i j t s r t' s' r' hi hj => h.inj _ _ _ _ _ _ _ _ (lift hi) (lift hj), h.rlt, h.src, h.tau.keep rfl (fun _ _ _ => rfl) (fun b q hq => (h.tau.new b q hq).2) fun b q j fz t s r hq hj => h.tau.row _ _ _ _ _ _ _ hq (lift hj)⟩
 obtain ⟨cur, h1, h2, h3, h4, h5, h6⟩ := h.row _ _ _ _ _ (lift hr)
 refine ⟨cur, h1, h2, h3, h4, h5, fun i hi o ho => ?_⟩
 obtain ⟨v, k1, k2, k3⟩ := h6 i hi o ho
 refine ⟨v, k1, k2, ?_⟩
 unfold RCon at k3 ⊢
 cases r with
 | box l =>
  simp only [Row.isBox, if_true] at k3 ⊢
  exact k3.take hk (nth_scp (scpH_at hs hr) o)
 | own l =>
  simp only [Row.isBox, if_true] at k3 ⊢
  exact k3.take hk (nth_scp (scpLL_at (scpH_ow hs hr) i) o)
 | _ => exact k3
def headS (σ : AS) (fx vy : List Nat) (vs : List RV) (H : List Root) : AS := ⟨setT vy vs (fxT σ.tm fx), H⟩
theorem setT_scp {k : Nat} {vy : List Nat} {vs : List RV} {tm : Tm} (hs : scpRL k vs = true) : ∀ t, t ∈ vy → vs.length = vy.length → ∃ x, lk (setT vy vs tm) t = (true, x) ∧ scpR k x = true := by
 induction vy generalizing vs with
 | nil => intro t ht; cases ht
 | cons v vy ih =>
  intro t ht hl
  cases vs with
  | nil => simp at hl
  | cons x vs =>
   simp only [scpRL, Bool.and_eq_true] at hs
   simp only [setT, lk]
   by_cases e : v = t
   ·rw [if_pos e]; exact ⟨x, rfl, hs.1⟩
   ·rw [if_neg e]
    rcases List.mem_cons.1 ht with rfl | ht
    ·exact absurd rfl e
    ·exact ih hs.2 t ht (by simpa using hl)
theorem rounds_mono {c : Code} {Q R : Exit → Act → World → Prop} (hq : ∀ e a w, Q e a w → R e a w) : ∀ {n : Nat} {a : Act} {w : World}, Code.rounds P c Q n a w → Code.rounds P c R n a w
 | 0, _, _, h => h
 | n + 1, _, _, h => by
  rw [rounds_succ] at h ⊢
  refine wp_mono h fun e a w q => ?_
  cases e with
  | normal => exact rounds_mono hq q
  | _ => exact hq _ _ _ q
def AftP [Pan] (E : Env) (nt : Nat) (M : Mp) (σ : AS) (a : Act) (w : World) (ds : Nat → Prop) (Q : Exit → AS → Prop) (e : Exit) (a' : Act) (w' : World) : Prop :=
 ((∀ ch, e ≠ .panic ch) ∧ After E nt M σ a w ds (Q e) a' w') ∨ ∃ ch, e = .panic ch ∧ a'.defers = E.df ∧ PanS E M σ.H w ch w'
theorem AftP.mono [Pan] {ds ds1 : Nat → Prop} {Q : Exit → AS → Prop} {e : Exit} (h : AftP E nt M σ a w ds1 Q e a' w') (h1 : ∀ t, ds1 t → ds t) : AftP E nt M σ a w ds Q e a' w' := by
 rcases h with ⟨hp, M1, σ1, q1, q2, q3⟩ | ⟨ch, rfl, hdf, hP⟩
 ·exact .inl ⟨hp, M1, σ1, q1, q2.mono h1, q3⟩
 ·exact .inr ⟨ch, rfl, hdf, hP⟩
theorem awp_ok [Pan] (hT : TyOk P ty) (hm : P.follows .mixedOrders = true) {ord : Nat → List Nat × Nat × Option Nat} : ∀ (c : Code), okC nt ord c = true → ∀ {Q : Exit → AS → Prop} {M : Mp} {σ : AS} {a : Act} {w : World}, St E nt M σ a w → awp P ty ord c Q σ →
  c.wp P (AftP E nt M σ a w (asgP c) Q) a w
 | .skip, _, Q, M, σ, a, w, h, hw => wp_skip (.inl ⟨fun _ e => (by cases e), M, σ, h, Stp.refl _ _ _ _ _, hw⟩)
 | .exit id, _, Q, M, σ, a, w, h, hw => wp_exit (.inl ⟨fun _ e => (by cases e), M, σ, h, Stp.refl _ _ _ _ _, hw⟩)
 | .ret, _, Q, M, σ, a, w, h, hw => wp_ret (.inl ⟨fun _ e => (by cases e), M, σ, h, Stp.refl _ _ _ _ _, hw⟩)
 | .region id ops dr, hc, Q, M, σ, a, w, h, hw => by
  simp only [okC, Bool.and_eq_true] at hc
  have hds : ∀ t, dstL ops.toList t → asgP (.region id ops dr) t := fun t ⟨o, ho, e⟩ => List.mem_filterMap.2 ⟨o, ho, e⟩
  cases dr with
  | true =>
   simp only [awp, if_true] at hw
   exact region_ok hT hm (by simpa using hc.2) hc.1 h hw (fun a' w' ⟨M2, σ2, r1, r2, r3⟩ => .inl ⟨fun _ e => (by cases e), M2, σ2, r1, r2.mono hds, r3⟩) (fun c a d v w hh => hh.elim (fun hh => absurd rfl (hh.1 c)) fun ⟨ch, e, hd, hp⟩ => .inr ⟨ch, e, (by cases d <;> exact hd), hp⟩) fun a' ch w' hd hp => .inr ⟨ch, rfl, hd, hp⟩
  | false =>
   simp only [awp, Bool.false_eq_true, if_false] at hw
   exact wp_region_list (awpL_ok hT ops.toList h (dstOk_spec hc.1) hw (fun a' w' ⟨M2, σ2, r1, r2, r3⟩ => .inl ⟨fun _ e => (by cases e), M2, σ2, r1, r2.mono hds, r3⟩) fun a' ch w' hd hp => .inr ⟨ch, rfl, hd, hp⟩)
 | .seq x y, hc, Q, M, σ, a, w, h, hw => by
  simp only [okC, Bool.and_eq_true] at hc
  refine wp_seq (wp_mono (awp_ok hT hm x hc.1 h (Q := thenK (awp P ty ord y Q) Q) hw) fun e a1 w1 hA => ?_)
  rcases hA with ⟨hp, M1, σ1, q1, q2, q3⟩ | ⟨ch, rfl, hdf, hP⟩
  case inr => exact .inr ⟨ch, rfl, hdf, hP⟩
  cases e with
  | normal =>
   refine wp_mono (awp_ok hT hm y hc.2 q1 q3) fun e a2 w2 hB => ?_
   rcases hB with ⟨hp2, M2, σ2, r1, r2, r3⟩ | ⟨ch, rfl, hdf, hP⟩
   ·exact .inl ⟨hp2, M2, σ2, r1, q2.trans r2 (fun t ht => List.mem_append_left _ ht) (fun t ht => List.mem_append_right _ ht), r3⟩
   ·exact .inr ⟨ch, rfl, hdf, hP.step q2.kp q2.len⟩
  | panic ch => exact absurd rfl (hp ch)
  | exit id => exact .inl ⟨hp, M1, σ1, q1, q2.mono fun t ht => List.mem_append_left _ ht, q3⟩
  | goto l => exact .inl ⟨hp, M1, σ1, q1, q2.mono fun t ht => List.mem_append_left _ ht, q3⟩
  | ret => exact .inl ⟨hp, M1, σ1, q1, q2.mono fun t ht => List.mem_append_left _ ht, q3⟩
  | outgrown => exact .inl ⟨hp, M1, σ1, q1, q2.mono fun t ht => List.mem_append_left _ ht, q3⟩
 | .cond x y z, hc, Q, M, σ, a, w, h, hw => by
  simp only [okC, Bool.and_eq_true] at hc
  have hw' : condK (σ.rd x) (awp P ty ord y Q σ) (awp P ty ord z Q σ) := hw
  unfold condK at hw'
  split at hw'
  ·rename_i b hb
   have hv := h.rd (x := x) (by rw [hb])
   rw [hb] at hv
   have hv' : a.eval x = .bool b := hv
   refine wp_cond hv' ?_
   cases b with
   | true => exact wp_mono (awp_ok hT hm y hc.1 h (hw'.1 rfl)) fun e a1 w1 hA => hA.mono fun t ht => List.mem_append_left _ ht
   | false => exact wp_mono (awp_ok hT hm z hc.2 h (hw'.2 rfl)) fun e a1 w1 hA => hA.mono fun t ht => List.mem_append_right _ ht
  ·exact hw'.elim
 | .block id x, hc, Q, M, σ, a, w, h, hw => by
  refine wp_block (wp_mono (awp_ok hT hm x hc h (Q := inB id Q) hw) fun e a1 w1 hA => ?_)
  rcases hA with ⟨hp, M1, σ1, q1, q2, q3⟩ | ⟨ch, rfl, hdf, hP⟩
  case inr => exact .inr ⟨ch, rfl, hdf, hP⟩
  cases e with
  | exit j =>
   simp only [Exit.inBlock]
   simp only [inB] at q3
   split
   ·rename_i e; rw [if_pos e] at q3; exact .inl ⟨fun _ e => (by cases e), M1, σ1, q1, q2, q3⟩
   ·rename_i e; rw [if_neg e] at q3; exact .inl ⟨hp, M1, σ1, q1, q2, q3⟩
  | normal => exact .inl ⟨hp, M1, σ1, q1, q2, q3⟩
  | panic ch => exact absurd rfl (hp ch)
  | goto l => exact .inl ⟨hp, M1, σ1, q1, q2, q3⟩
  | ret => exact .inl ⟨hp, M1, σ1, q1, q2, q3⟩
  | outgrown => exact .inl ⟨hp, M1, σ1, q1, q2, q3⟩
 | .loop x, hc, Q, M, σ, a, w, h, hw => by
  rcases (show loopK (awp P ty ord x) x Q σ ∨ loopK2 (awp P ty ord x) x Q σ ∨ ∃ l : List Unit, roundsK (awp P ty ord x) l Q σ from hw) with hw | hw | ⟨l, hw⟩
  case inr.inr =>
   have go : ∀ (l : List Unit) {M : Mp} {σ : AS} {a : Act} {w : World}, St E nt M σ a w → roundsK (awp P ty ord x) l Q σ → Code.rounds P x (AftP E nt M σ a w (asgP x) Q) l.length a w := by
    intro l
    induction l with
    | nil => intro M σ a w _ h; exact h.elim
    | cons u l ih =>
     intro M σ a w h hw
     show Code.rounds P x _ (l.length + 1) a w
     rw [rounds_succ]
     refine wp_mono (awp_ok hT hm x hc h (Q := thenK (roundsK (awp P ty ord x) l Q) Q) hw) fun e a1 w1 hA => ?_
     rcases hA with ⟨hp, M1, σ1, q1, q2, q3⟩ | ⟨ch, rfl, hdf, hP⟩
     case inr => exact .inr ⟨ch, rfl, hdf, hP⟩
     cases e with
     | normal =>
      refine rounds_mono (fun e a2 w2 hB => ?_) (ih q1 q3)
      rcases hB with ⟨hp2, M2, σ2, r1, r2, r3⟩ | ⟨ch, rfl, hdf, hP⟩
      ·exact .inl ⟨hp2, M2, σ2, r1, q2.trans r2 (fun _ h => h) (fun _ h => h), r3⟩
      ·exact .inr ⟨ch, rfl, hdf, hP.step q2.kp q2.len⟩
     | panic ch => exact absurd rfl (hp ch)
     | exit id => exact .inl ⟨hp, M1, σ1, q1, q2, q3⟩
     | goto l => exact .inl ⟨hp, M1, σ1, q1, q2, q3⟩
     | ret => exact .inl ⟨hp, M1, σ1, q1, q2, q3⟩
     | outgrown => exact .inl ⟨hp, M1, σ1, q1, q2, q3⟩
   exact wp_loop_rounds _ (go l h hw)
  case inr.inl =>
   obtain ⟨ι, d, fx, vy, inv, vals, H, μ, hfx, ⟨s0, i0, g0, e0⟩, hsc, round⟩ := hw
   have mk : ∀ {M1 σ1 a1 w1 s}, inv s → St E nt M1 σ1 a1 w1 → Stp M σ a w M1 σ1 a1 w1 (asgP x) → gets σ1.tm vy = tvals (vals s) → σ1.H = H s → St E nt M1 (headS σ fx vy (vals s) (H s)) a1 w1 ∧ Stp M σ a w M1 (headS σ fx vy (vals s) (H s)) a1 w1 (asgP x) := by
    intro M1 σ1 a1 w1 s hs q1 q2 hg hH
    have s1 := hsc s hs
    have hkp : Kp M σ.H w M1 (H s) w1 := fun x v c => by
     rw [← hH]
     exact q2.kp x v c
    refine ⟨⟨?_, fun t ht => ?_, fun t ht => ?_, q1.sz, q1.df⟩, ⟨by show σ.H.length ≤ (H s).length; omega, hkp, q2.tm⟩⟩
    ·show Rel E M1 (H s) w1
     rw [← hH]
     exact q1.rel
    ·show ConR M1 (H s) w1 (lk (setT vy (vals s) (fxT σ.tm fx)) t).2 _
     have ht' : (lk (setT vy (vals s) (fxT σ.tm fx)) t).1 = true := ht
     rcases lk_setT vy (vals s) (fxT σ.tm fx) σ1.tm hg t with ⟨m1, m2⟩ | ⟨m1, m2⟩
     ·rw [m2] at ht' ⊢
      rw [← hH]
      exact q1.tms t ht'
     ·rw [m2] at ht' ⊢
      rcases lk_fxT σ.tm fx t with ⟨f1, f2⟩ | ⟨f1, f2⟩
      ·rw [f2] at ht' ⊢
       rw [q2.tm t (noAsg_spec hfx f1)]
       exact hkp.R (h.tms t ht')
      ·rw [f2]; trivial
    ·have ht' : (lk (setT vy (vals s) (fxT σ.tm fx)) t).1 = false := ht
     rcases lk_setT vy (vals s) (fxT σ.tm fx) σ1.tm hg t with ⟨m1, m2⟩ | ⟨m1, m2⟩
     ·rw [m2] at ht'
      exact q1.off t ht'
     ·rw [m2] at ht'
      rcases lk_fxT σ.tm fx t with ⟨f1, f2⟩ | ⟨f1, f2⟩
      ·rw [f2] at ht'
       rw [q2.tm t (noAsg_spec hfx f1)]
       exact h.off t ht'
      ·rw [f2] at ht'; cases ht'
   have hd : St E nt M ⟨σ.tm, σ.H ++ List.replicate d .dead⟩ a w := ⟨h.rel.dead d, fun t ht => (h.tms t ht).dead d, h.off, h.sz, h.df⟩
   have hstart := mk i0 hd ⟨by simp, fun x v c => c.dead d, fun _ _ => rfl⟩ g0 e0
   refine wp_loop_ghost (fun s a1 w1 => ∃ M1, inv s ∧ St E nt M1 (headS σ fx vy (vals s) (H s)) a1 w1 ∧ Stp M σ a w M1 (headS σ fx vy (vals s) (H s)) a1 w1 (asgP x)) μ s0 ⟨M, i0, hstart⟩ ?_
   rintro s a1 w1 ⟨M1, hs, q1, q2⟩
   refine wp_mono (awp_ok hT hm x hc q1 (round s hs)) fun e a2 w2 hA => ?_
   rcases hA with ⟨hp, M2, σ2, r1, r2, r3⟩ | ⟨ch, rfl, hdf, hP⟩
   case inr => exact .inr ⟨ch, rfl, hdf, hP.step q2.kp q2.len⟩
   have r4 := q2.trans r2 (fun _ h => h) (fun _ h => h)
   cases e with
   | normal =>
    obtain ⟨s', ids, t1, ⟨o1, o2⟩, t2, t3, t4⟩ := r3
    have st := r1.ren r4.len o2
    refine ⟨s', ⟨renM σ.H.length ids M2, t1, mk t1 st ⟨?_, fun x v c => ?_, r4.tm⟩ ?_ t3⟩, t4⟩
    ·show σ.H.length ≤ (renH σ.H.length ids σ2.H).length
     rw [renH_len r4.len]; omega
    ·have := (r4.kp x v c).ren (ids := ids) r4.len
     rw [ren_scp (scp_of c)] at this
     exact this
    ·show gets (renT σ.H.length ids σ2.tm) vy = _
     rw [renT_gets]; exact t2
   | panic ch => exact absurd rfl (hp ch)
   | exit id => exact .inl ⟨hp, M2, σ2, r1, r4, r3⟩
   | goto l => exact .inl ⟨hp, M2, σ2, r1, r4, r3⟩
   | ret => exact .inl ⟨hp, M2, σ2, r1, r4, r3⟩
   | outgrown => exact .inl ⟨hp, M2, σ2, r1, r4, r3⟩
  obtain ⟨ι, fx, vy, inv, vals, H, μ, hfx, ⟨s0, i0, g0, e0⟩, hsc, round⟩ := hw
  have mk : ∀ {M1 σ1 a1 w1 s}, inv s → St E nt M1 σ1 a1 w1 → Stp M σ a w M1 σ1 a1 w1 (asgP x) → gets σ1.tm vy = tvals (vals s) → σ1.H.take σ.H.length = H s → St E nt M1 (headS σ fx vy (vals s) (H s)) a1 w1 ∧ Stp M σ a w M1 (headS σ fx vy (vals s) (H s)) a1 w1 (asgP x) := by
   intro M1 σ1 a1 w1 s hs q1 q2 hg hH
   obtain ⟨s1, s2, s3, s4⟩ := hsc s hs
   have hkp : Kp M σ.H w M1 (H s) w1 := fun x v c => by
    rw [← hH]
    exact (q2.kp x v c).take q2.len (scp_of c)
   refine ⟨⟨?_, fun t ht => ?_, fun t ht => ?_, q1.sz, q1.df⟩, ⟨by show σ.H.length ≤ (H s).length; omega, hkp, q2.tm⟩⟩
   ·show Rel E M1 (H s) w1
    rw [← hH]
    exact q1.rel.take q2.len (by rw [hH]; exact s3)
   ·show ConR M1 (H s) w1 (lk (setT vy (vals s) (fxT σ.tm fx)) t).2 _
    have ht' : (lk (setT vy (vals s) (fxT σ.tm fx)) t).1 = true := ht
    rcases lk_setT vy (vals s) (fxT σ.tm fx) σ1.tm hg t with ⟨m1, m2⟩ | ⟨m1, m2⟩
    ·obtain ⟨y, y1, y2⟩ := setT_scp (tm := fxT σ.tm fx) s2 t m1 s4
     rw [m2] at ht' ⊢
     rw [m2] at y1
     have := q1.tms t ht'
     rw [y1] at this ⊢
     rw [← hH]
     exact ConR.take q2.len y2 this
    ·rw [m2] at ht' ⊢
     rcases lk_fxT σ.tm fx t with ⟨f1, f2⟩ | ⟨f1, f2⟩
     ·rw [f2] at ht' ⊢
      rw [q2.tm t (noAsg_spec hfx f1)]
      exact hkp.R (h.tms t ht')
     ·rw [f2]; trivial
   ·have ht' : (lk (setT vy (vals s) (fxT σ.tm fx)) t).1 = false := ht
    rcases lk_setT vy (vals s) (fxT σ.tm fx) σ1.tm hg t with ⟨m1, m2⟩ | ⟨m1, m2⟩
    ·obtain ⟨y, y1, y2⟩ := setT_scp (tm := fxT σ.tm fx) s2 t m1 s4
     rw [y1] at ht'; cases ht'
    ·rw [m2] at ht'
     rcases lk_fxT σ.tm fx t with ⟨f1, f2⟩ | ⟨f1, f2⟩
     ·rw [f2] at ht'
      rw [q2.tm t (noAsg_spec hfx f1)]
      exact h.off t ht'
     ·rw [f2] at ht'; cases ht'
  have hstart := mk i0 h (Stp.refl _ _ _ _ _) g0 (by rw [List.take_length]; exact e0)
  refine wp_loop_ghost (fun s a1 w1 => ∃ M1, inv s ∧ St E nt M1 (headS σ fx vy (vals s) (H s)) a1 w1 ∧ Stp M σ a w M1 (headS σ fx vy (vals s) (H s)) a1 w1 (asgP x)) μ s0 ⟨M, i0, hstart⟩ ?_
  rintro s a1 w1 ⟨M1, hs, q1, q2⟩
  refine wp_mono (awp_ok hT hm x hc q1 (round s hs)) fun e a2 w2 hA => ?_
  rcases hA with ⟨hp, M2, σ2, r1, r2, r3⟩ | ⟨ch, rfl, hdf, hP⟩
  case inr => exact .inr ⟨ch, rfl, hdf, hP.step q2.kp q2.len⟩
  have r4 := q2.trans r2 (fun _ h => h) (fun _ h => h)
  cases e with
  | normal =>
   obtain ⟨s', t1, t2, t3, t4⟩ := r3
   exact ⟨s', ⟨M2, t1, mk t1 r1 r4 t2 t3⟩, t4⟩
  | panic ch => exact absurd rfl (hp ch)
  | exit id => exact .inl ⟨hp, M2, σ2, r1, r4, r3⟩
  | goto l => exact .inl ⟨hp, M2, σ2, r1, r4, r3⟩
  | ret => exact .inl ⟨hp, M2, σ2, r1, r4, r3⟩
  | outgrown => exact .inl ⟨hp, M2, σ2, r1, r4, r3⟩
 | .label l, _, Q, M, σ, a, w, h, hw => (by cases hw)
 | .goto l, _, Q, M, σ, a, w, h, hw => (by cases hw)
 | .scope b, _, Q, M, σ, a, w, h, hw => (by cases hw)
 | .rangeFunc .., _, Q, M, σ, a, w, h, hw => (by cases hw)
 | .refuse y, _, Q, M, σ, a, w, h, hw => (by cases hw)
end
end Go.Proofs.YtabadfkikdefeaaGreat.Ab
