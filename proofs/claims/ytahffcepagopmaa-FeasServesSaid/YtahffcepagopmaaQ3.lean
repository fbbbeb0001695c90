/- Texts of the proof, joined: A6, A7, AR, A8, A9. -/
import Derived.Test.YtahffcepagopmaaR1
set_option linter.all false
set_option maxRecDepth 100000
set_option maxHeartbeats 6400000
namespace Go.Proofs.Ytahffcepagopmaa.Ab
open Go.RowKit
section
variable {P:Program} {ty:Ty} {E:Env} {nt:Nat} {M M':Mp} {H H':List Root} {σ:AS} {a:Act} {w w':World}
theorem gj7.below {g:Option Nat} (h:Below w.heap.size w w'):gj7 g w w':=⟨h.size,fun b hb _=>h.block b hb⟩
theorem ggb7 (tm:Tm) (g:Bool) (d t:Nat) (v:RV):lk (vl7 tm g (some d) v) t = if d = t then (g,v) else lk tm t:=rfl
theorem mt7 (a:Act) (d t:Nat) (v:Value) (hd:d < a.tmps.size):(a.put (some d) v).tmps.getD t undef = if d = t then v else a.tmps.getD t undef:=by
 simp only [Act.put,Array.getD_eq_getD_getElem?,Array.getElem?_setIfInBounds]
 by_cases e:d = t
 ·subst e; simp [hd]
 ·simp [e]
theorem St.put (h:St E nt M σ a w) (hr:Rel E M' H' w') (hk:Kp M σ.H w M' H' w') {d:Option Nat} (hd:∀ t,d = some t → t < nt) {r:RV} {v:Value} (hv:ke7 M' H' w' r v):St E nt M' ⟨vl7 σ.tm true d r,H'⟩ (a.put d v) w':=by
 cases d with
 | none=>exact ⟨hr,fun t ht=>hk.R (h.tms t ht),h.off,h.sz,h.df⟩
 | some d =>
  have hd':d < a.tmps.size:=by rw [h.sz]; exact hd d rfl
  refine ⟨hr,fun t ht => ?_,fun t ht => ?_,by simp [Act.put,h.sz],h.df⟩
  ·show ke7 M' H' w' (lk (vl7 σ.tm true (some d) r) t).2 _
   have ht':(lk (vl7 σ.tm true (some d) r) t).1 = true:=ht
   rw [mt7 _ _ _ _ hd',ggb7] at *
   by_cases e:d = t
   ·rw [if_pos e,if_pos e]; exact hv
   ·rw [if_neg e] at ht' ⊢
    rw [if_neg e]
    exact hk.R (h.tms t ht')
  ·have ht':(lk (vl7 σ.tm true (some d) r) t).1 = false:=ht
   rw [ggb7] at ht'
   rw [mt7 _ _ _ _ hd']
   by_cases e:d = t
   ·rw [if_pos e] at ht'; cases ht'
   ·rw [if_neg e] at ht' ⊢
    exact h.off t ht'
theorem St.putV (h:St E nt M σ a w) {d:Option Nat} (hd:∀ t,d = some t → t < nt) {g:Bool} {r:RV} {v:Value} (hv:g = true → ke7 M σ.H w r v) (hn:g = false → v = undef):St E nt M ⟨vl7 σ.tm g d r,σ.H⟩ (a.put d v) w:=by
 cases g with
 | true=>exact h.put h.rel (Kp.refl _ _ _) hd (hv rfl)
 | false =>
  obtain rfl:=hn rfl
  cases d with
  | none=>exact ⟨h.rel,h.tms,h.off,h.sz,h.df⟩
  | some d =>
   have hd':d < a.tmps.size:=by rw [h.sz]; exact hd d rfl
   refine ⟨h.rel,fun t ht => ?_,fun t ht => ?_,by simp [Act.put,h.sz],h.df⟩
   ·have ht':(lk (vl7 σ.tm false (some d) r) t).1 = true:=ht
    show ke7 M σ.H w (lk (vl7 σ.tm false (some d) r) t).2 _
    rw [mt7 _ _ _ _ hd',ggb7] at *
    by_cases e:d = t
    ·rw [if_pos e] at ht'; cases ht'
    ·rw [if_neg e] at ht' ⊢
     rw [if_neg e]
     exact h.tms t ht'
   ·have ht':(lk (vl7 σ.tm false (some d) r) t).1 = false:=ht
    rw [ggb7] at ht'
    rw [mt7 _ _ _ _ hd']
    by_cases e:d = t
    ·rw [if_pos e]
    ·rw [if_neg e] at ht' ⊢
     exact h.off t ht'
theorem plb7:∀ (l:List Oper) (j:Nat),nxb7 l j = l[j]?
 | [],_=>rfl
 | _ :: _,0=>rfl
 | _ :: l,j + 1=>by simp only [nxb7,List.getElem?_cons_succ]; exact plb7 l j
theorem jt7 (h:St E nt M σ a w) {ops:Array Oper} {gd:Option (Nat × Bool)} {g:Bool} (hg:guardOf σ.tm ops gd = some g) {o:Oper} (ho:o.guard = gd):Region.wanted o (yielded ops a.tmps) = g:=by
 unfold Region.wanted
 rw [ho]
 unfold guardOf at hg
 split at hg
 ·cases hg; rfl
 ·rename_i j want
  split at hg
  ·rename_i o2 ho2
   rw [plb7,Array.getElem?_toList] at ho2
   split at hg
   ·rename_i d hd
    split at hg
    ·rename_i g2 b hlk
     simp only [Option.some.injEq] at hg
     subst hg
     cases g2 with
     | true =>
      have hc:=h.tms d (by rw [hlk])
      rw [hlk] at hc
      have hv:a.tmps.getD d undef = .bool b:=hc
      have hq:a.tmps[d]? = some (.bool b):=by
       rw [Array.getD_eq_getD_getElem?] at hv
       cases hh:a.tmps[d]? with
       | none=>rw [hh] at hv; simp [undef] at hv
       | some u=>rw [hh] at hv; simpa using hv
      simp only [yielded,ho2,Option.bind_some,hd,hq]
      cases b <;> cases want <;> rfl
     | false =>
      have hv:=h.off d (by rw [hlk])
      have:yielded ops a.tmps j = none:=by
       simp only [yielded,ho2,Option.bind_some,hd]
       rw [Array.getD_eq_getD_getElem?] at hv
       cases hh:a.tmps[d]? with
       | none=>rfl
       | some u =>
             rw [hh] at hv; have hv':u = undef:=by simpa using hv
             subst hv'; rfl
      simp [this]
    ·cases hg
   ·cases hg
  ·cases hg
theorem val_ok (hT:lj7 P ty) (h:St E nt M σ a w) {ops:Array Oper} {o:Oper} (hv:isV o.op = true) (hd:∀ t,o.dst = some t → t < nt) {K:AS → Prop} {dd:Option Nat} (hw:gpb7 ty (guardOf σ.tm ops o.guard) dd σ o K) :
  ∃ σ' v,K σ' ∧ σ'.H = σ.H ∧ St E nt M σ' (a.put o.dst v) w ∧ (Region.wanted o (yielded ops a.tmps) = true → ∀ w',Same M σ.H w w' → (execOp a.eval o).run P w' = .ok (.value v) w') ∧ (Region.wanted o (yielded ops a.tmps) = false → v = undef):=by
 unfold gpb7 at hw
 split at hw
 ·exact hw.elim
 ·rename_i g hg
  obtain ⟨h1, -,h2,h3⟩:=hw
  have hwt:=jt7 h hg rfl
  rw [hwt]
  cases g with
  | true =>
   obtain ⟨v,v1,v2⟩:=xsb7 hT h hv rfl h1 (h2 rfl)
   exact ⟨_,v,h3,rfl,h.putV hd (fun _=>v1) (fun e=>by cases e),fun _=>v2,(fun e=>by cases e)⟩
  | false=>exact ⟨_,undef,h3,rfl,h.putV hd (fun e=>by cases e) (fun _=>rfl),(fun e=>by cases e),fun _=>rfl⟩
theorem Same.refl:Same M H w w:=fun _ _=>rfl
structure Stp (M:Mp) (σ:AS) (a:Act) (w:World) (M':Mp) (σ':AS) (a':Act) (w':World) (ds:Nat → Prop):Prop where
 len:σ.H.length ≤ σ'.H.length
 kp:Kp M σ.H w M' σ'.H w'
 tm:∀ t, ¬ ds t → a'.tmps.getD t undef = a.tmps.getD t undef
theorem rj7 (a:Act) (d:Option Nat) (v:Value) (t:Nat) (h : ¬ d = some t):(a.put d v).tmps.getD t undef = a.tmps.getD t undef:=by
 cases d with
 | none=>rfl
 | some d =>
  have hne : ¬ d = t:=fun e=>h (by rw [e])
  simp only [Act.put,Array.getD_eq_getD_getElem?,Array.getElem?_setIfInBounds,if_neg hne]
theorem dcb7:∀ {l:List RV} {vs:List Value} {m:List RV} {us:List Value},ve7 M H w l vs → ve7 M H w m us → ve7 M H w (l ++ m) (vs ++ us)
 | [],_,_,_,h,k=>by cases h; exact k
 | x :: l,_,_,_,⟨v,r,e,h1,h2⟩,k=>by subst e; exact ⟨v,r ++ _,rfl,h1,dcb7 h2 k⟩
theorem yab7:∀ {l:List AV} {vs:List Value},ag7 M H w l vs → ve7 M H w (l.map .c) vs
 | [],_,h=>h
 | _ :: _,_,⟨v,r,e,h1,h2⟩=>⟨v,r,e,h1,yab7 h2⟩
theorem osb7 (h:St E nt M σ a w):∀ (l:List Operand),gOk true (rgs σ.rd l) → ve7 M σ.H w (rds σ.rd l) (l.map a.eval)
 | [],_=>rfl
 | x :: l,hg=>⟨_,_,rfl,h.rd (hg.1 rfl),osb7 h l hg.2⟩
theorem ln7 {x:Sem Value} {v:Value} {w w':World} (h:x.run P w = .ok v w'):((do pure (Next.value (← x))):Sem Next).run P w = .ok (.value v) w':=by
 rw [Sem.run_bind,h]; rfl
theorem xcb7 {x:Sem Unit} {w w':World} (h:x.run P w = .ok () w'):((do x; pure Next.skip):Sem Next).run P w = .ok .skip w':=by
 rw [Sem.run_bind,h]; rfl
theorem jz7:∀ {l:List AV} {vs:List Value},njL l = true → ag7 M H w l vs → ∀ v ∈ vs,v.oneCell' = true
 | [],_,_,h,v,hv=>by cases h; cases hv
 | x :: l,_,hn,⟨u,r,e,h1,h2⟩,v,hv=>by
  subst e
  simp only [njL,Bool.and_eq_true] at hn
  rcases List.mem_cons.1 hv with rfl | hv
  ·exact (Con.one (σ:=⟨[],H⟩) hn.1 h1).1
  ·exact jz7 hn.2 h2 v hv
theorem Enters.run {f:FuncId} (h:Enters P f) (args:Array Value) (w:World):(callFunc f args).run P w = .ok (.enter f args) w:=by
 obtain ⟨fn,c,h1,h2,h3⟩:=h
 have h4 : fn.name ≠ "runtime.NumGoroutine" := by simpa using h2
 simp [callFunc,h1,h4,h3]
theorem lub7:∀ {l:List AV},lh7 H l → ∀ {vs:List Value} {rho:Nat → Prop},ue7 rho w (ss7 H l) vs → ∀ v ∈ vs,v.oneCell' = true:=by
 intro l hf vs rho hc v hv
 obtain ⟨j,hj,rfl⟩:=List.getElem_of_mem hv
 have hl:=hc.len
 rw [ct7] at hl
 exact (hc.get j _ (List.getElem?_eq_getElem hj)).one (ng7 hf j (by omega))
theorem glb7 {x:RV} {v:Value} (hf:lh7 H (bd7 x)) (h0:(bd7 x).length ≠ 0) (h:ke7 M H w x v):ag7 M H w (bd7 x) v.cells.toList:=by
 refine mm7 (σ:=⟨[],H⟩) ?_ h0 h
 have:∀ l:List AV,lh7 H l → njL l = true:=by
  intro l
  induction l with
  | nil=>intro _; rfl
  | cons b l ih =>
   intro hh
   cases b with
   | h=>simp only [njL,AV.nj,Bool.true_and]; exact ih hh.2
   | ptr=>exact hh.elim
   | junk=>exact hh.elim
   | ws=>exact hh.elim
   | wu=>exact hh.elim
   | wp=>exact hh.elim
   | int=>simp only [njL,AV.nj,Bool.true_and]; exact ih hh
   | bool=>simp only [njL,AV.nj,Bool.true_and]; exact ih hh
   | flt=>simp only [njL,AV.nj,Bool.true_and]; exact ih hh
   | str=>simp only [njL,AV.nj,Bool.true_and]; exact ih hh
   | nilp=>simp only [njL,AV.nj,Bool.true_and]; exact ih hh
   | nils=>simp only [njL,AV.nj,Bool.true_and]; exact ih hh
   | sl=>simp only [njL,AV.nj,Bool.true_and]; exact ih hh
   | rp=>simp only [njL,AV.nj,Bool.true_and]; exact ih hh
 exact this _ hf
theorem wzb7 (hT:lj7 P ty) (h:St E nt M σ a w) {pu:Pu} {o:Oper} (hd:∀ t,o.dst = some t → t < nt) (hgs:gOk true (hib7 σ.rd o.op)) {K:AS → Prop} (he:eff P ty pu σ.tm σ.rd σ.H o K) {next:Act → World → Prop} {Q:Exit → Act → World → Prop}
  (hn:∀ M' σ' a' w',St E nt M' σ' a' w' → (∀ g,pu = some g → gj7 (g.map M.phi) w w') → Stp M σ a w M' σ' a' w' (fun t=>o.dst = some t) → K σ' → next a' w'):o.wp P a w next Q:=by
 obtain ⟨dst,op,type,pos,after,guard⟩:=o
 unfold eff at he
 simp only at he hd
 have hz:∀ {t:TypeId},0 < (ty t).sz → (match (ty t).k with | .no=>False | _=>True) → (sizeOf t).run P w = .ok (ty t).sz w:=fun _ hk=>dl7 hT hk w
 cases op <;> simp only at he <;> try exact he.elim
 case alloc t =>
  obtain ⟨⟨h0,hk⟩,he⟩:=he
  obtain ⟨i,z,hi,hzz,hs, -,hzs,hzl,hzc⟩:=tk7 (M:=M) (σ:=σ) (w:=w) (P:=P) hT (t:=t) hk
  have hl:(ty t).zero.length = (ty t).sz:=by have:=iz7 hzl; simp at this; omega
  obtain ⟨r1,r2⟩:=qsb7 h.rel (vs:=z.cells) t hzc (fun v hv=>by
   obtain ⟨j,hj,rfl⟩:=List.getElem_of_mem hv
   exact qjb7 (sz7 hzl j _ (List.getElem?_eq_getElem hj))) (by omega)
  rw [hl] at r1 r2
  unfold Oper.wp
  have hrun:(execOp a.eval ⟨dst, .alloc t,type,pos,after,guard⟩).run P w = .ok (.value (.pointer (some ⟨w.heap.size,0,none⟩))) (w.alloc (.cells z.cells t)):=by
   refine ln7 (x:=Instr.alloc t true (.tuple #[])) ?_
   simp [Instr.alloc,zeroValue,typeInfo,hi,hzz,newVar,newRow]
  rw [hrun]
  exact hn _ _ _ _ (h.put (r := .c (.ptr σ.H.length 1 0 0)) r1 r2 hd (mlb7 (w':=w))) (fun _ _=>gj7.below ((Below.refl _ _).alloc (Nat.le_refl _) _)) ⟨by simp,r2,rj7 _ _ _⟩ he
 case box t x =>
  obtain ⟨⟨h1,h0,hnj⟩,he⟩:=he
  simp only [hib7,gOk] at hgs
  have hx:=mm7 hnj (by omega) (h.rd (hgs.1 trivial))
  obtain ⟨r1,r2⟩:=qsb7 h.rel (vs:=(a.eval x).cells) t hx (jz7 hnj hx) (by omega)
  rw [h1] at r1 r2
  unfold Oper.wp
  have hrun:(execOp a.eval ⟨dst, .box t x,type,pos,after,guard⟩).run P w = .ok (.value (.pointer (some ⟨w.heap.size,0,none⟩))) (w.alloc (.cells (a.eval x).cells t)):=by
   refine ln7 (x:=Instr.box t (a.eval x)) ?_
   simp [Instr.box,newVar,newRow]
  rw [hrun]
  exact hn _ _ _ _ (h.put (r := .c (.ptr σ.H.length 1 0 0)) r1 r2 hd (mlb7 (w':=w))) (fun _ _=>gj7.below ((Below.refl _ _).alloc (Nat.le_refl _) _)) ⟨by simp,r2,rj7 _ _ _⟩ he
 case buildSlice t n ps =>
  split at he
  ·rename_i e hk
   split at he
   ·obtain ⟨h1,h2,h3,⟨h4,h5⟩,he⟩:=he
    obtain ⟨hu,hke⟩:P.underlying t = some (.slice e) ∧ _:=vg7 hT hk
    obtain ⟨out,o1,o2,o3⟩:=rq7 hT h t e hk n ps hgs h1 h4 h5
    have hlen:=o1.len
    obtain ⟨M',r1,r2,r3⟩:=uxb7 (k:=(ty e).k) (n:=n) (sz:=(ty e).sz) h.rel e o1 h2 h3 h4 (by simp at hlen; omega) (by unfold maxLen; have:=Nat.le_mul_of_pos_right n h4; omega)
    unfold Oper.wp
    rw [show (execOp a.eval ⟨dst, .buildSlice t n ps,type,pos,after,guard⟩).run P w = _ from ln7 (o3 w)]
    exact hn _ _ _ _ (h.put (r := .c (.h σ.H.length 0 n)) r1 r2 hd r3) (fun _ _=>gj7.below ((Below.refl _ _).alloc (Nat.le_refl _) _)) ⟨by simp [bn7],r2,rj7 _ _ _⟩ he
   ·rename_i ck hw
    obtain ⟨h1,⟨rfl,h2,h4,h5,h6⟩,he⟩:=he
    obtain ⟨out,o1,o2,o3⟩:=rq7 hT h t e hk 1 ps hgs h1 h4 (by omega)
    obtain ⟨M',r1,r2,r3⟩:=dib7 h.rel e o1 h2 (by omega)
    unfold Oper.wp
    rw [show (execOp a.eval ⟨dst, .buildSlice t 1 ps,type,pos,after,guard⟩).run P w = _ from ln7 (o3 w)]
    exact hn _ _ _ _ (h.put (r := .c (.ws e ck 1)) r1 r2 hd r3) (fun _ _=>gj7.below ((Below.refl _ _).alloc (Nat.le_refl _) _)) ⟨Nat.le_refl _,r2,rj7 _ _ _⟩ he
  ·exact he.elim
 case store t p v =>
  obtain ⟨hpu,he⟩:=he
  simp only [hib7,gOk] at hgs
  have hp:=h.rd (hgs.1 trivial)
  have hv:=h.rd (hgs.2.1 trivial)
  unfold cbc7 at he
  split at he
  ·rename_i t' ck o hpe
   rw [hpe] at hp
   obtain ⟨⟨h1,h0,hk,h2,h3⟩,he⟩:=he
   have hc:=mm7 (rbb7 h3) (by omega) hv
   rw [← h1] at h2 h3
   obtain ⟨ad,w',q1,q2,q3,q4⟩:=vdb7 (P:=P) h.rel hp hc h3 h2
   unfold Oper.wp
   have hlen:(a.eval v).cells.size = (ty t).sz:=by have:=hc.len; rw [← h1]; simpa using this
   have hrun:(execOp a.eval ⟨dst, .store t p v,type,pos,after,guard⟩).run P w = .ok .skip w':=by
    refine xcb7 (x:=Instr.storeAt t (a.eval p) (a.eval v)) ?_
    have hzt:=dl7 hT hk w
    rw [q1]
    simp [Instr.storeAt,Instr.sureAddr,storeVar,hzt,hlen,q2]
   rw [hrun]
   exact hn _ _ _ _ (h.put (r := .c .junk) q3 q4 hd trivial) (fun _ e=>by rw [e] at hpu; exact hpu.elim) ⟨Nat.le_refl _,q4,rj7 _ _ _⟩ he
  rename_i hnw
  unfold qmb7 at he
  split at he
  ·rename_i id n i o hpe
   rw [hpe] at hp
   split at he
   ·rename_i fz t2 sz r hr
    obtain ⟨rfl,⟨h1,h2,h3,h4,h5,hk⟩,he⟩:=he
    have hpv:=(hp.2 _ _ _ _ hr).2 h2
    have hlen:∀ {l:List AV},ag7 M σ.H w l (a.eval v).cells.toList → (a.eval v).cells.size = l.length:=fun hc=>by have:=hc.len; simpa using this
    have hsto:∀ w',(storeCells ⟨M.phi id,i * sz + o,none⟩ (a.eval v).cells.toList 0).run P w = .ok () w' → (a.eval v).cells.size = (ty t).sz → (execOp a.eval ⟨dst, .store t p v,type,pos,after,guard⟩).run P w = .ok .skip w':=fun w' h1 h2=>by
     refine xcb7 (x:=Instr.storeAt t (a.eval p) (a.eval v)) ?_
     have hzt:=hz (t:=t) (by omega) hk
     rw [hpv]
     simp [Instr.storeAt,Instr.sureAddr,storeVar,hzt,h2,h1]
    split at he
    ·rename_i hb
     obtain ⟨hnj,he⟩:=he
     have hc:=mm7 hnj (by omega) hv
     have hput:(r.put sz i o (bd7 (σ.rd v).2)).1:=by
      cases r with
      | box=>trivial
      | _=>cases hb
     obtain ⟨w',r1,r2,r3⟩:=xz7 (P:=P) h.rel hr (i:=i) (o:=o) (by omega) (by omega) (jz7 hnj hc) hc.len (fun j u hj=>by unfold jw7; rw [if_pos hb]; exact hc.get j u hj) hput
     unfold Oper.wp
     rw [hsto w' r3 (by rw [hlen hc]; exact h1)]
     exact hn _ _ _ _ (h.put (r := .c .junk) r1 r2 hd trivial) (fun _ e=>by rw [e] at hpu; exact hpu.elim) ⟨by simp [ic7],r2,rj7 _ _ _⟩ he
    ·rename_i hb
     obtain ⟨hf,hr2,hput,he⟩:=he
     obtain ⟨M1,e1,e2,q1,q2,q3⟩:=dv7 _ h.rel hf
     have hc:=glb7 hf (by omega) hv
     have hc0:=q3 _ hc
     obtain ⟨w',r1,r2,r3⟩:=xz7 (P:=P) q1 hr2 (i:=i) (o:=o) (cs:=ss7 σ.H (bd7 (σ.rd v).2)) (vs:=(a.eval v).cells.toList) (by omega) (by rw [ct7]; omega) (lub7 hf hc0) hc0.len (fun j u hj=>by unfold jw7; rw [if_neg hb]; exact hc0.get j u hj) hput
     unfold Oper.wp
     rw [e1] at r3
     rw [hsto w' r3 (by rw [hlen hc]; exact h1)]
     exact hn _ _ _ _ (h.put (r := .c .junk) r1 (q2.trans r2) hd trivial) (fun _ e=>by rw [e] at hpu; exact hpu.elim) ⟨by simp [ic7,bn7],q2.trans r2,rj7 _ _ _⟩ he
   ·exact he.elim
  ·exact he.elim
 case makeSlice t x y =>
  simp only [hib7,gOk] at hgs
  have hx:=h.rd (hgs.1 trivial)
  have hy:=h.rd (hgs.2.1 trivial)
  unfold xrb7 at he
  split at he
  ·rename_i e hk
   split at he
   ·rename_i k1 n k2 c hx1 hy1
    rw [hx1] at hx
    rw [hy1] at hy
    obtain ⟨⟨h1,h2,rfl,h3,h4,h5⟩,he⟩:=he
    obtain ⟨M',w',v,r0,rb,r1,r2,r3⟩:=rvb7 hT h.rel t e hk k1 k2 c h1 h2 h3 h4 h5
    unfold Oper.wp
    have hrun:(execOp a.eval ⟨dst, .makeSlice t x y,type,pos,after,guard⟩).run P w = .ok (.value v) w':=by
     refine ln7 (x:=Instr.makeSlice t (a.eval x) (a.eval y)) ?_
     rw [show a.eval x = .int k1 c from hx,show a.eval y = .int k2 c from hy]
     exact r0
    rw [hrun]
    exact hn _ _ _ _ (h.put (r := .c (.h σ.H.length 0 c.toNat)) r1 r2 hd r3) (fun _ _=>gj7.below rb) ⟨by simp,r2,rj7 _ _ _⟩ he
   ·exact he.elim
  ·exact he.elim
 case call c =>
  obtain ⟨callee,args,ats⟩:=c
  simp only at he
  cases callee with
  | invoke r m=>exact he.elim
  | value f =>
   simp only [hib7,gOk] at hgs
   simp only at he
   split at he
   ·rename_i f' caps hf
    have hfv:=h.rd (hgs.1 trivial)
    rw [hf] at hfv
    obtain ⟨cs,hfe,hcs⟩:=hfv
    obtain ⟨henter,hcall⟩:=he
    have hargs:=osb7 h args.toList hgs.2
    have hc:=hcall E M w _ h.rel (dcb7 hargs (yab7 hcs))
    unfold Oper.wp
    have hrun:(execOp a.eval ⟨dst, .call ⟨.value f,args,ats⟩,type,pos,after,guard⟩).run P w = .ok (.enter f' (args.toList.map a.eval ++ cs).toArray) w:=by
     have e1:args.map a.eval ++ cs.toArray = (args.toList.map a.eval ++ cs).toArray:=by
      apply Array.toList_inj.1; simp
     simp [execOp,resolve,hfe,Deferred.ofValue,invoke,henter.run, ← e1]
    rw [hrun,Oper.upon_enter]
    refine hc.mono ?_
    rintro e w' ⟨M',H',r,v,rfl,q1,q2,q3,q4,q5,q6⟩
    exact hn _ _ _ _ (h.put q1 q2 hd q3) q4 ⟨q5,q2,rj7 _ _ _⟩ q6
   ·exact he.elim
  | builtin b =>
   cases b <;> simp only at he <;> try exact he.elim
   case append =>
    split at he
    ·rename_i s x hsx
     obtain ⟨hpu,hats,he⟩:=he
     obtain ⟨args⟩:=args
     simp only at hsx
     subst hsx
     obtain ⟨ats⟩:=ats
     simp only [hib7,rgs,gOk] at hgs
     have hs:=h.rd (hgs.1 trivial)
     have hx:=h.rd (hgs.2.1 trivial)
     obtain ⟨t,rfl⟩:∃ t,ats = [t,t]:=⟨_,hats⟩
     have htt:(List.toArray [t,t]).getD 0 0 = t:=rfl
     rw [htt] at he
     have hex:∀ {v:Value} {w':World},(Builtin.append_ #[t,t] type #[a.eval s,a.eval x]).run P w = .ok v w' → (execOp a.eval ⟨dst, .call ⟨.builtin .append,[s,x].toArray,[t,t].toArray⟩,type,pos,after,guard⟩).run P w = .ok (.value v) w':=fun {v w'} h1=>by
      have:=ln7 (x:=Builtin.append_ #[t,t] type #[a.eval s,a.eval x]) h1
      simpa [execOp,resolve,invoke,builtin] using this
     have hwk:(∃ e ck,(ty t).k = .sl e ∧ appW ty e ck (σ.rd s).2 (σ.rd x).2 (fun r=>K ⟨vl7 σ.tm true dst r,σ.H⟩)) ∨ iwb7 ty (ty t).k σ.H (σ.rd s).2 (σ.rd x).2 (fun r H=>K ⟨vl7 σ.tm true dst r,H⟩):=by
      unfold bbc7 at he
      split at he
      ·rename_i e hk
       split at he
       ·exact .inr he
       ·rename_i ck _; exact .inl ⟨e,ck,hk,he⟩
      ·exact he.elim
     clear he
     rcases hwk with ⟨e,ck,hk,he⟩ | he
     ·unfold appW at he
      split at he
      ·rename_i t' ck' m hxe
       rw [hxe] at hx
       obtain ⟨⟨⟨rfl,rfl,k1,k2⟩,k3,k4,k5,k6⟩,he⟩:=he
       have fin:∀ (n:Nat) (r:RV),WSl M w t' ck' n (a.eval s) → n + m ≤ 1099511627776 → (∀ M' w' v',WSl M' w' t' ck' (n + m) v' → ke7 M' σ.H w' r v') → K ⟨vl7 σ.tm true dst r,σ.H⟩ → Oper.wp P ⟨dst, .call ⟨.builtin .append,[s,x].toArray,[t,t].toArray⟩,type,pos,after,guard⟩ a w next Q:=fun n r hw hm hr hK=>by
        obtain ⟨M',w',v',r0,r1,r2,r3⟩:=lib7 hT h.rel t t' type hk k3 k4 k5 k6 hw hx k1 hm
        unfold Oper.wp
        rw [hex r0]
        exact hn _ _ _ _ (h.put (r:=r) r1 r2 hd (hr _ _ _ r3)) (fun _ e=>by rw [e] at hpu; exact hpu.elim) ⟨Nat.le_refl _,r2,rj7 _ _ _⟩ hK
       split at he
       ·rename_i hse
        rw [hse] at hs
        have hs:a.eval s = .slice none 0 0:=hs
        exact fin 0 (.c (.ws _ _ m)) (by rw [hs]; exact WSl.nil _ _) (by omega) (fun M' w' v' h=>by rw [Nat.zero_add] at h; exact h) he
       ·rename_i t2 ck2 n hse
        rw [hse] at hs
        obtain ⟨⟨rfl,rfl,j1⟩,he⟩:=he
        exact fin n (.c (.ws _ _ (n + m))) hs j1 (fun M' w' v' h=>h) he
       ·rename_i t2 ck2 b hse
        rw [hse] at hs
        obtain ⟨⟨rfl,rfl,j1⟩,he⟩:=he
        obtain ⟨n,hnb,hs⟩:=hs
        exact fin n (.c (.wu _ _ (b + m))) hs (by omega) (fun M' w' v' h=>⟨n + m,by omega,h⟩) he
       ·exact he.elim
      ·exact he.elim
     unfold iwb7 at he
     split at he
     ·rename_i e hk
      obtain ⟨s1,s2,s3,s4,he⟩:=he
      obtain ⟨ad,c,news,hsrc⟩:=src_ok h.rel hx s1
      rw [s2] at hsrc
      have hbx:(wh7 σ.H (σ.rd x).2).2.1.isBox = false:=by
       unfold wh7 at s1 ⊢
       split at s1
       ·split at s1
        ·exact (zgb7 s1.2 _).1
        ·exact s1.elim
       ·exact s1.elim
      split at he
      ·rename_i hs1
       rw [hs1] at hs
       have hsv:a.eval s = .slice none 0 0:=hs
       obtain ⟨h1,he⟩:=he
       obtain ⟨M',w',v',r0,r1,r2,r3⟩:=lmb7 hT h.rel t e type hk s3 s4 hsrc hbx h1
       unfold Oper.wp
       rw [hex (by rw [hsv]; exact r0)]
       exact hn _ _ _ _ (h.put (r := .c (.h _ 0 _)) r1 r2 hd r3) (fun _ e=>by rw [e] at hpu; exact hpu.elim) ⟨by simp,r2,rj7 _ _ _⟩ he
      ·rename_i id st len hs1
       rw [hs1] at hs
       split at he
       ·rename_i fz t2 sz r hr
        obtain ⟨⟨rfl,rfl,h1,rfl,rfl,h2⟩,happ,he⟩:=he
        obtain ⟨M',w',v',r0,r1,r2,r3⟩:=anb7 hT h.rel t t2 type hk s3 s4 hsrc hr h1 hs h2 happ
        unfold Oper.wp
        rw [hex r0]
        exact hn _ _ _ _ (h.put (r := .c (.h _ 0 _)) r1 r2 hd r3) (fun _ e=>by rw [e] at hpu; exact hpu.elim) ⟨by simp [ic7],r2,rj7 _ _ _⟩ he
       ·exact he.elim
      ·exact he.elim
     ·exact he.elim
    ·exact he.elim
end
section
variable {P:Program} {ty:Ty} {E:Env} {nt:Nat} {M M':Mp} {σ σ':AS} {a a':Act} {w w':World}
theorem Stp.refl (M:Mp) (σ:AS) (a:Act) (w:World) (ds:Nat → Prop):Stp M σ a w M σ a w ds:=⟨Nat.le_refl _,Kp.refl _ _ _,fun _ _=>rfl⟩
theorem Stp.trans {ds ds1 ds2:Nat → Prop} {M2:Mp} {σ2:AS} {a2:Act} {w2:World} (h:Stp M σ a w M' σ' a' w' ds1) (k:Stp M' σ' a' w' M2 σ2 a2 w2 ds2) (h1:∀ t,ds1 t → ds t) (h2:∀ t,ds2 t → ds t):Stp M σ a w M2 σ2 a2 w2 ds :=
 ⟨Nat.le_trans h.len k.len,h.kp.trans k.kp,fun t ht=>(k.tm t (fun h=>ht (h2 t h))).trans (h.tm t (fun h=>ht (h1 t h)))⟩
theorem Stp.mono {ds ds1:Nat → Prop} (h:Stp M σ a w M' σ' a' w' ds1) (h1:∀ t,ds1 t → ds t):Stp M σ a w M' σ' a' w' ds:=⟨h.len,h.kp,fun t ht=>h.tm t fun h=>ht (h1 t h)⟩
def oxb7 (l:List Oper) (t:Nat):Prop := ∃ o ∈ l,o.dst = some t
theorem deb7 {o:Oper} {v:Value} (h:σ'.H = σ.H):Stp M σ a w M σ' (a.put o.dst v) w (fun t=>o.dst = some t) :=
 ⟨by rw [h]; exact Nat.le_refl _,by rw [h]; exact Kp.refl _ _ _,rj7 _ _ _⟩
def After (E:Env) (nt:Nat) (M:Mp) (σ:AS) (a:Act) (w:World) (ds:Nat → Prop) (K:AS → Prop) (a':Act) (w':World):Prop := ∃ M' σ',St E nt M' σ' a' w' ∧ Stp M σ a w M' σ' a' w' ds ∧ K σ'
theorem After.step {ds ds1:Nat → Prop} {K:AS → Prop} {a2:Act} {w2:World} (h:Stp M σ a w M' σ' a' w' ds1) (k:After E nt M' σ' a' w' ds K a2 w2) (h1:∀ t,ds1 t → ds t):After E nt M σ a w ds K a2 w2:=by
 obtain ⟨M2,σ2,q1,q2,q3⟩:=k
 exact ⟨M2,σ2,q1,h.trans q2 h1 (fun _ h=>h),q3⟩
theorem gj7.refl (g:Option Nat) (w:World):gj7 g w w:=⟨Nat.le_refl _,fun _ _ _=>rfl⟩
theorem gj7.step {g:Option Nat} {w w' w'':World} (h:gj7 g w w') (k:gj7 g w' w''):gj7 g w w'':=⟨Nat.le_trans h.1 k.1,fun b hb hne=>(k.2 b (Nat.lt_of_lt_of_le hb h.1) hne).trans (h.2 b hb hne)⟩
instance (g:Option Nat) (w:World):Nonempty (At (gj7 g w)):=⟨⟨w,gj7.refl g w⟩⟩
theorem vmb7 (hT:lj7 P ty) (h:St E nt M σ a w) {pu:Pu} {dd:Option Nat} {ops:Array Oper} {o:Oper} (hd:∀ t,o.dst = some t → t < nt) {K:AS → Prop} (hw:bab7 P ty pu dd ops σ o K) {next:Act → World → Prop} {Q:Exit → Act → World → Prop}
  (hn:∀ M' σ' a' w',St E nt M' σ' a' w' → (∀ g,pu = some g → gj7 (g.map M.phi) w w') → Stp M σ a w M' σ' a' w' (fun t=>o.dst = some t) → K σ' → next a' w'):if Region.wanted o (yielded ops a.tmps) then o.wp P a w next Q else next (a.put o.dst undef) w:=by
 unfold bab7 at hw
 split at hw
 ·rename_i hv
  obtain ⟨σ',v,k1,k2,k3,k4,k5⟩:=val_ok hT h hv hd hw
  have hnx:=hn M σ' (a.put o.dst v) w k3 (fun _ _=>gj7.refl _ _) (deb7 k2) k1
  cases hwt:Region.wanted o (yielded ops a.tmps) with
  | true =>
   rw [if_pos rfl]
   unfold Oper.wp
   rw [k4 hwt w Same.refl]
   exact hnx
  | false =>
   rw [if_neg (by simp)]
   rw [k5 hwt] at hnx
   exact hnx
 ·have hw:=hw.2
  unfold xac7 at hw
  split at hw
  ·exact hw.elim
  ·rename_i g hg
   obtain ⟨h2,h3,h4⟩:=hw
   rw [jt7 h hg rfl]
   cases g with
   | true=>exact wzb7 hT h hd h2 (h3 rfl) hn
   | false=>exact hn M _ (a.put o.dst undef) w (h.putV hd (fun e=>by cases e) (fun _=>rfl)) (fun _ _=>gj7.refl _ _) (deb7 rfl) (h4 rfl)
theorem ymb7 (hT:lj7 P ty) {nf:Nat} {dd:Option Nat} {ops:Array Oper} {K:AS → Prop} {Q:Exit → Act → World → Prop}:∀ (l:List Oper) {M:Mp} {σ:AS} {a:Act} {w:World},St E nt M σ a w → (∀ o ∈ l, ∀ t,o.dst = some t → t < nt) → mw7 P ty nf dd ops l K σ →
  (∀ a' w',After E nt M σ a w (oxb7 l) K a' w' → Q .normal a' w') → wpList P ops Q l a w
 | [],M,σ,a,w,h,_,hw,hQ=>hQ a w ⟨M,σ,h,Stp.refl _ _ _ _ _,hw⟩
 | o :: l,M,σ,a,w,h,hd,hw,hQ=>by
  have:=vmb7 (Q:=Q) (next:=wpList P ops Q l) hT h (hd o (List.mem_cons_self ..)) hw fun M' σ' a' w' q1 _ q3 q4 =>
   ymb7 hT l q1 (fun o ho=>hd o (List.mem_cons_of_mem _ ho)) q4 fun a2 w2 hA=>hQ a2 w2 (by
    obtain ⟨M2,σ2,r1,r2,r3⟩:=hA
    exact ⟨M2,σ2,r1,q3.trans r2 (fun t ht=>⟨o,List.mem_cons_self ..,ht⟩) (fun t ⟨o2,ho,ht⟩=>⟨o2,List.mem_cons_of_mem _ ho,ht⟩),r3⟩)
  unfold wpList
  split
  ·rename_i hwt; rw [if_pos hwt] at this; exact .inl this
  ·rename_i hwt; rw [if_neg hwt] at this; exact this
end
section draw
variable {P:Program} {ops:Array Oper} {Q:Exit → Act → World → Prop} {md:Region.Mode}
def vn7 (P:Program) (ops:Array Oper) (Q:Exit → Act → World → Prop) (g:Option Nat):List (List Oper × Oper × Bool) → Act → World → Prop
 | [],a,w=>Q .normal a w
 | (lq,o,f) :: rest,a,w=>wpQuiet P ops (fun w' => ∃ e:At (gj7 g w),w' = e.val) (fun a'=>wpList P ops (Exit.then (fun a'' w''=>(f = true ∨ gj7 g w w'') ∧ vn7 P ops Q g rest a'' w'') Q) [o] a' w) lq a
theorem lv7 {S S':World → Prop} {fins:List Nat} (hS:∀ w,S w → S' w):∀ (fuel:Nat) (listed:Array Bool) (a:Act) (w:World),ch7 P md ops Q S fins fuel listed a w → ch7 P md ops Q S' fins fuel listed a w
 | 0,_,_,_,h=>h
 | fuel + 1,_,_,_,h=>⟨h.1,fun i hi=>wpOp_mono (fun a' w' h'=>h'.imp id fun h=>⟨hS _ h.1,lv7 hS fuel _ a' w' h.2⟩) (h.2 i hi)⟩
theorem lkb7 {S:World → Prop} {fins:List Nat} {i:Nat} (hi:i < ops.size) {fuel:Nat} {listed:Array Bool} (hr:Region.ready md ops listed = [i]) {K:Act → World → Prop} {a:Act} {w:World} (hl:wpList P ops (Exit.then K Q) [ops.getD i default] a w)
  (hK:∀ a'' w'',K a'' w'' → (i ∈ fins ∨ S w'') ∧ ch7 P md ops Q S fins fuel (listed.setIfInBounds i true) a'' w''):ch7 P md ops Q S fins (fuel + 1) listed a w:=by
 have ho:ops[i]? = some (ops.getD i default):=by simp [Array.getD,hi]
 refine ⟨fun h0=>(by rw [hr] at h0; cases h0),fun j hj => ?_⟩
 rw [hr,List.mem_singleton] at hj
 subst hj
 exact wpOp_mono (fun a'' w'' hk=>orF (hK a'' w'' hk)) (bm7 ho hl)
theorem xkb7 {S:World → Prop} {g:Option Nat} {fins:List Nat}:∀ (l:List (List Nat × Nat × Bool)) (listed:Array Bool) (a:Act) (w:World),l.all (fun x=>x.2.2 && x.1.isEmpty) = true → kjb7 md ops fins l listed = true →
  vn7 P ops Q g (nc7 ops l) a w → ch7 P md ops Q S fins (xc7 l) listed a w
 | [],listed,a,w,_,hB,h=>⟨by simpa [kjb7] using hB,h⟩
 | (lq,i,f) :: rest,listed,a,w,ha,hB,h=>by
  simp only [List.all_cons,Bool.and_eq_true,List.isEmpty_iff] at ha
  obtain ⟨⟨rfl,rfl⟩,ha⟩:=ha
  simp only [kjb7,ds7] at hB
  simp only [Bool.and_eq_true,decide_eq_true_eq,beq_iff_eq] at hB
  obtain ⟨⟨⟨⟨h1,h2⟩,h3⟩,h4⟩,h5⟩:=hB
  simp only [nc7,List.map_cons,List.map_nil,vn7,wpQuiet] at h
  have hif:i ∈ fins:=by simpa using h2.symm
  rw [show xc7 (([],i,true) :: rest) = xc7 rest + 1 by simp [xc7]; omega]
  exact lkb7 h4 h1 h fun a'' w'' hk=>⟨.inl hif,xkb7 rest _ a'' w'' ha h5 hk.2⟩
theorem hhb7 {fins:List Nat} {g:Option Nat} (hs:Region.noSelect ops = true) (hQ:∀ c a d v w,Q (.panic c) (Act.put a d v) w → Q (.panic c) a w) :
  ∀ (l:List (List Nat × Nat × Bool)) (listed:Array Bool) (a:Act) (w:World),Closed md ops listed → kjb7 md ops fins l listed = true → vn7 P ops Q g (nc7 ops l) a w → ch7 P md ops Q (gj7 g w) fins (xc7 l) listed a w
 | [],listed,a,w,_,hB,h=>⟨by simpa [kjb7] using hB,h⟩
 | (lq,i,f) :: rest,listed,a,w,hcl,hB,h=>by
  cases f with
  | true =>
   have hB2:=hB
   simp only [kjb7] at hB2
   split at hB2
   ·cases hB2
   ·simp only [Bool.not_true,Bool.false_or,Bool.and_eq_true] at hB2
    exact xkb7 _ _ _ _ (by simp only [List.all_cons,Bool.and_eq_true]; exact ⟨⟨trivial,hB2.1.1.2.1⟩,hB2.1.1.2.2⟩) hB h
  | false =>
   simp only [kjb7] at hB
   split at hB
   case h_1=>cases hB
   rename_i listed' hq
   simp only [Bool.and_eq_true,decide_eq_true_eq,beq_iff_eq] at hB
   obtain ⟨⟨⟨⟨h1,h2⟩,h3⟩,h4⟩,h5⟩:=hB
   rw [show xc7 ((lq,i,false) :: rest) = lq.length + (xc7 rest + 1) by simp only [xc7]; omega]
   simp only [nc7,List.map_cons,vn7] at h
   exact km7 hs hQ (gj7.refl _ _) lq listed listed' a hcl hq h fun a' hcl' hl=>lkb7 h4 h1 hl fun a'' w'' ⟨ho,hm⟩ =>
    have ho:gj7 g w w'':=ho.resolve_left (by simp)
    ⟨.inr ho,lv7 (fun w3 h3=>gj7.step ho h3) _ _ _ _ (hhb7 hs hQ rest _ a'' w'' (hcl'.set (by rw [h1]; exact List.mem_singleton.2 rfl)) h5 hm)⟩
end draw
section
variable {P:Program} {ty:Ty} {E:Env} {nt:Nat} {M M':Mp} {σ σ':AS} {a a':Act} {w w':World}
theorem Same.old (h:Rel E M σ.H w) (ho:gj7 none w w'):Same M σ.H w w':=by
 rintro b (hb | ⟨id,fz,t,sz,r,hr,rfl⟩ | ⟨q,hq⟩)
 ·exact ho.2 b (h.rlt b hb) (by simp)
 ·exact ho.2 _ (h.lt hr) (by simp)
 ·exact ho.2 b (h.tau.lt hq) (by simp)
theorem cgb7 (H:List Root) (k:Nat):ea7 (eb7 H k .dead) k = .dead:=by
 by_cases hk:k < H.length
 ·rw [bg7,if_pos ⟨rfl,hk⟩]
 ·exact mn7 (by rw [ic7]; omega)
theorem sd7 {H:List Root} {k i:Nat} {fz:Bool} {t:TypeId} {sz:Nat} {r:Row} (h:ea7 (eb7 H k .dead) i = .live fz t sz r):i ≠ k ∧ ea7 H i = .live fz t sz r:=by
 by_cases e:i = k
 ·subst e; rw [cgb7] at h; cases h
 ·refine ⟨e, ?_⟩
  rw [bg7,if_neg (fun hh=>e hh.1)] at h
  exact h
theorem Con.kill {x:AV} {v:Value} (k:Nat) (h:Con M σ.H w x v):Con M (eb7 σ.H k .dead) w x v:=by
 cases x with
 | ptr id n i o=>exact ⟨⟨by rw [ic7]; exact h.1.1,h.1.2⟩,fun fz t sz r hr=>h.2 fz t sz r (sd7 hr).2⟩
 | h id st len=>exact ⟨⟨by rw [ic7]; exact h.1.1,h.1.2⟩,fun fz t sz r hr=>h.2 fz t sz r (sd7 hr).2⟩
 | _=>exact h
theorem Rel.kill (k:Nat) (h:Rel E M σ.H w):Rel E M (eb7 σ.H k .dead) w:=by
 refine ⟨h.bel,fun id fz t sz r hr=>h.low id fz t sz r (sd7 hr).2,fun id fz t sz r hr => ?_,fun id t sz r hr=>h.froz id t sz r (sd7 hr).2,fun id t sz r hr=>h.thaw id t sz r (sd7 hr).2,
  fun i j t s r t' s' r' h1 h2=>h.inj i j t s r t' s' r' (sd7 h1).2 (sd7 h2).2,h.rlt,h.src,h.tau.keep rfl (fun _ _ _=>rfl) (fun b q hq=>(h.tau.new b q hq).2) fun b q j fz t s r hq hj=>h.tau.row _ _ _ _ _ _ _ hq (sd7 hj).2⟩
 obtain ⟨cur,k1,k2,k3,k4,k5,k6⟩:=h.row id fz t sz r (sd7 hr).2
 refine ⟨cur,k1,k2,k3,k4,k5,fun i hi o ho => ?_⟩
 obtain ⟨v,g1,g2,g3⟩:=k6 i hi o ho
 refine ⟨v,g1,g2, ?_⟩
 unfold jw7 at g3 ⊢
 split
 ·rename_i hb; rw [if_pos hb] at g3; exact g3.kill k
 ·rename_i hb; rw [if_neg hb] at g3; exact g3
theorem St.kill (k:Nat) (h:St E nt M σ a w):St E nt M ⟨σ.tm,eb7 σ.H k .dead⟩ a w :=
 ⟨h.rel.kill k,fun t ht=>Kp.R (fun _ _ hc=>Con.kill k hc) (h.tms t ht),h.off,h.sz,h.df⟩
theorem Same.oldK {k:Nat} (h:Rel E M σ.H w) (hv:ljb7 σ.H k) (ho:gj7 (some (M.phi k)) w w'):Same M (eb7 σ.H k .dead) w w':=by
 unfold ljb7 at hv
 split at hv
 ·rename_i fz t sz r hr
  obtain ⟨rfl, -⟩:=hv
  rintro b (hb | ⟨id,fz,t',sz',r',hr',rfl⟩ | ⟨q,hq⟩)
  ·refine ho.2 b (h.rlt b hb) fun e => ?_
   cases e
   exact h.thaw _ _ _ _ hr hb
  ·obtain ⟨h1,h2⟩:=sd7 hr'
   refine ho.2 _ (h.lt h2) fun e => ?_
   have e:M.phi id = M.phi k:=Option.some.inj e
   cases fz with
   | false=>exact h1 (h.inj _ _ _ _ _ _ _ _ h2 hr e)
   | true=>exact h.thaw _ _ _ _ hr (e ▸ h.froz _ _ _ _ h2)
  ·refine ho.2 b (h.tau.lt hq) fun e => ?_
   cases e
   exact h.tau.row _ _ _ _ _ _ _ hq hr rfl
 ·exact hv.elim
theorem dob7 (hT:lj7 P ty) (h:St E nt M σ a w) {ops:Array Oper} {o:Oper} (hv:isV o.op = true) (hd:∀ t,o.dst = some t → t < nt) {K:AS → Prop} {dd:Option Nat} (hw:gpb7 ty (guardOf σ.tm ops o.guard) dd σ o K) :
  ∃ σ' v,K σ' ∧ σ'.H = σ.H ∧ St E nt M σ' (a.put o.dst v) w ∧ (Region.wanted o (yielded ops a.tmps) = true → ∀ w',gj7 (dd.map M.phi) w w' → (execOp a.eval o).run P w' = .ok (.value v) w') ∧ (Region.wanted o (yielded ops a.tmps) = false → v = undef):=by
 obtain ⟨σ',v,k1,k2,k3,k4,k5⟩:=val_ok hT h hv hd hw
 refine ⟨σ',v,k1,k2,k3,fun hwt w' ho => ?_,k5⟩
 cases dd with
 | none=>exact k4 hwt w' (Same.old h.rel ho)
 | some k =>
  unfold gpb7 at hw
  split at hw
  ·exact hw.elim
  ·rename_i g hg
   obtain ⟨h1,⟨h2,h3⟩,h4,h5⟩:=hw
   rw [jt7 h hg rfl] at hwt
   subst hwt
   obtain ⟨v', -,v2⟩:=xsb7 hT (h.kill k) hv rfl h1 (h3 rfl)
   have e1:=k4 (jt7 h hg rfl) w Same.refl
   have e2:=v2 w Same.refl
   rw [e1] at e2
   cases e2
   exact v2 w' (Same.oldK h.rel h2 ho)
theorem jqb7 {w':World} {H H':List Root} {k:Nat} (hk:Kp M H w M' H' w') (h1:ljb7 H k) (h2:ljb7 H' k):M'.phi k = M.phi k:=by
 unfold ljb7 at h1 h2
 split at h1
 ·rename_i fz t sz r hr
  split at h2
  ·rename_i fz' t' sz' r' hr'
   have hc:=hk (.ptr k 1 0 0) (.pointer (some ⟨M.phi k,0 * sz + 0,none⟩)) ⟨⟨cq7 hr,rfl⟩,fun fz2 t2 sz2 r2 hr2=>by
    rw [hr] at hr2; cases hr2
    exact ⟨by omega,fun _=>rfl⟩⟩
   have:=(hc.2 _ _ _ _ hr').2 (by omega)
   simp only [Value.pointer.injEq,Option.some.injEq,Addr.mk.injEq] at this
   exact this.1.symm
  ·exact h2.elim
 ·exact h1.elim
theorem ysb7 {pu:Pu} {dd:Option Nat} {ops:Array Oper} {o:Oper} {K:AS → Prop} (hw:bab7 P ty pu dd ops σ o K):stb dd (ljb7 σ.H):=by
 unfold bab7 at hw
 split at hw
 ·unfold gpb7 at hw
  split at hw
  ·exact hw.elim
  ·cases dd with
   | none=>trivial
   | some k=>exact hw.2.1.1
 ·exact hw.1
theorem mhb7 (ops:Array Oper):∀ l:List Nat,(pick ops l).length = l.length
 | []=>rfl
 | _ :: l=>by simp [pick,mhb7 ops l]
theorem ofb7 (hT:lj7 P ty) {nf:Nat} {dd g0:Option Nat} {ops:Array Oper} {K:AS → Prop} {Q:Exit → Act → World → Prop}:∀ (l:List Nat) {M:Mp} {σ:AS} {a:Act} {w:World},St E nt M σ a w → (l ≠ [] → dd.map M.phi = g0) → (∀ o ∈ pick ops l, ∀ t,o.dst = some t → t < nt) → mw7 P ty nf dd ops (pick ops l) K σ →
  (∀ a' w',After E nt M σ a w (oxb7 (pick ops l)) K a' w' → Q .normal a' w') → vn7 P ops Q g0 (nc7 ops (tfb7 ops nf l)) a w
 | [],M,σ,a,w,h,_,_,hw,hQ=>hQ a w ⟨M,σ,h,Stp.refl _ _ _ _ _,hw⟩
 | i :: l,M,σ,a,w,h,hg0,hd,hw,hQ=>by
  have hg1:=hg0 (by simp)
  have hd0:=hd _ (List.mem_cons_self ..)
  have hdl:∀ o ∈ pick ops l, ∀ t,o.dst = some t → t < nt:=fun o ho=>hd o (List.mem_cons_of_mem _ ho)
  have cont:∀ {M' σ' a' w'},Stp M σ a w M' σ' a' w' (fun t=>(ops.getD i default).dst = some t) → ∀ a2 w2,After E nt M' σ' a' w' (oxb7 (pick ops l)) K a2 w2 → Q .normal a2 w2:=fun q3 a2 w2 ⟨M2,σ2,r1,r2,r3⟩ =>
   hQ a2 w2 ⟨M2,σ2,r1,q3.trans r2 (fun t ht=>⟨_,List.mem_cons_self ..,ht⟩) (fun t ⟨o2,ho,ht⟩=>⟨o2,List.mem_cons_of_mem _ ho,ht⟩),r3⟩
  simp only [tfb7]
  split
  ·rename_i q j r hc hp
   simp only [Bool.and_eq_true] at hc
   obtain ⟨hv, -⟩:=hc
   have hw':gpb7 ty (guardOf σ.tm ops (ops.getD i default).guard) dd σ (ops.getD i default) (mw7 P ty nf dd ops (pick ops l) K):=by
    have:bab7 P ty _ dd ops σ (ops.getD i default) _:=hw
    unfold bab7 at this
    rw [if_pos hv] at this
    exact this
   obtain ⟨σ',v,k1,k2,k3,k4,k5⟩:=dob7 hT h hv hd0 hw'
   have ih:=ofb7 hT l k3 (fun _=>hg1) hdl k1 (cont (deb7 k2))
   rw [hp] at ih
   simp only [nc7,List.map_cons,vn7] at ih ⊢
   unfold wpQuiet
   split
   ·rename_i hwt
    refine ⟨v, ?_,ih⟩
    rintro w1 ⟨e,rfl⟩
    unfold Oper.quietAt
    rw [k4 hwt e.val (hg1 ▸ e.ok)]
    exact ⟨rfl,rfl⟩
   ·rename_i hwt
    rw [k5 (by simpa using hwt)] at ih
    exact ih
  ·have hw':bab7 P ty (nub7 nf l.length dd) dd ops σ (ops.getD i default) (mw7 P ty nf dd ops (pick ops l) K):=by
    have:bab7 P ty (nub7 nf (pick ops l).length dd) dd ops σ (ops.getD i default) (mw7 P ty nf dd ops (pick ops l) K):=hw
    rwa [mhb7] at this
   have hvw:=ysb7 hw'
   have:=vmb7 (Q:=Exit.then (fun a'' w''=>(decide (l.length < nf) = true ∨ gj7 g0 w w'') ∧ vn7 P ops Q g0 (nc7 ops (tfb7 ops nf l)) a'' w'') Q)
    (next:=wpList P ops (Exit.then (fun a'' w''=>(decide (l.length < nf) = true ∨ gj7 g0 w w'') ∧ vn7 P ops Q g0 (nc7 ops (tfb7 ops nf l)) a'' w'') Q) []) hT h hd0 hw' fun M' σ' a' w' q1 q2 q3 q4 =>
     ⟨by
      by_cases hf:l.length < nf
      ·exact .inl (decide_eq_true hf)
      ·exact .inr (hg1 ▸ q2 dd (by unfold nub7; rw [if_pos (by omega)])),ofb7 hT l q1 (fun hl=>by
       cases dd with
       | none=>exact hg1
       | some k =>
        obtain ⟨j,l',rfl⟩:=List.exists_cons_of_ne_nil hl
        have hv2:ljb7 σ'.H k:=ysb7 q4
        rw [← hg1]
        exact congrArg some (jqb7 q3.kp hvw hv2)) hdl q4 (cont q3)⟩
   simp only [nc7,List.map_cons,List.map_nil,vn7,wpQuiet]
   unfold wpList
   split
   ·rename_i hwt; rw [if_pos hwt] at this; exact .inl this
   ·rename_i hwt; rw [if_neg hwt] at this; exact this
def fpb7 (ops:Array Oper) (q:List Nat × Nat × Option Nat):List Nat:=if q.1.isEmpty then List.range ops.size else q.1
def dlb7 (ops:Array Oper) (q:List Nat × Nat × Option Nat):Bool :=
 Region.noSelect ops && kjb7 .any ops ((fpb7 ops q).drop ((fpb7 ops q).length - q.2.1)) (tfb7 ops q.2.1 (fpb7 ops q)) (Array.replicate ops.size false) && decide (xc7 (tfb7 ops q.2.1 (fpb7 ops q)) = ops.size) && (fpb7 ops q).all (fun i=>decide (i < ops.size))
def xab7 (nt:Nat) (ops:Array Oper):Bool:=ops.toList.all fun o=>match o.dst with
 | some t=>decide (t < nt)
 | none=>true
theorem dr7 {ops:Array Oper} (h:xab7 nt ops = true):∀ o ∈ ops.toList, ∀ t,o.dst = some t → t < nt:=by
 intro o ho t ht
 have:=List.all_eq_true.1 h o ho
 rw [ht] at this
 simpa using this
theorem igb7 {ops:Array Oper}:∀ {l:List Nat},(∀ i ∈ l,i < ops.size) → ∀ o ∈ pick ops l,o ∈ ops.toList
 | [],_,o,h=>by cases h
 | i :: l,hl,o,h=>by
  rcases List.mem_cons.1 h with rfl | h
  ·have hi:=hl i (List.mem_cons_self ..)
   simp [Array.getD,hi]
  ·exact igb7 (fun j hj=>hl j (List.mem_cons_of_mem _ hj)) o h
theorem fib7 (ops:Array Oper):pick ops (List.range ops.size) = ops.toList:=by
 have:∀ l:List Nat,pick ops l = l.map fun i=>ops.getD i default:=by
  intro l
  induction l with
  | nil=>rfl
  | cons i l ih=>simp [pick,ih]
 rw [this]
 apply List.ext_getElem
 ·simp
 ·intro i h1 h2
  simp at h1 h2 ⊢
  simp [Array.getD,h1]
theorem dkb7 (hT:lj7 P ty) (hm:P.follows .mixedOrders = true) {id:Nat} {ops:Array Oper} {q:List Nat × Nat × Option Nat} (hB:dlb7 ops q = true) (hd:xab7 nt ops = true) {K:AS → Prop} (h:St E nt M σ a w) (hw:sac7 P ty ops q K σ) {Q:Exit → Act → World → Prop}
  (hQ:∀ a' w',After E nt M σ a w (oxb7 ops.toList) K a' w' → Q .normal a' w') (hQp:∀ c a w, ¬ Q (.panic c) a w):(Code.region id ops true).wp P Q a w:=by
 unfold dlb7 at hB
 simp only [Bool.and_eq_true,decide_eq_true_eq,List.all_eq_true] at hB
 obtain ⟨⟨⟨b1,b2⟩,b3⟩,b4⟩:=hB
 have hw2:mw7 P ty q.2.1 q.2.2 ops (pick ops (fpb7 ops q)) K σ:=by
  obtain ⟨l,nf,dd⟩:=q
  cases l with
  | nil =>
   show mw7 P ty nf dd ops (pick ops (List.range ops.size)) K σ
   rw [fib7]; exact hw
  | cons i l=>exact hw
 have hb:Below w.heap.size w w.drew:=(Below.refl _ _).drew
 have h2:St E nt M σ a w.drew:=⟨h.rel.below hb,fun t ht=>(Kp.below h.rel hb).R (h.tms t ht),h.off,h.sz,h.df⟩
 have hmem:∀ o ∈ pick ops (fpb7 ops q),o ∈ ops.toList:=igb7 b4
 have hmix:=ofb7 (Q:=Q) (g0:=q.2.2.map M.phi) hT (fpb7 ops q) h2 (fun _=>rfl) (fun o ho=>dr7 hd o (hmem o ho)) hw2 fun a' w' ⟨M2,σ2,r1,r2,r3⟩=>hQ a' w' ⟨M2,σ2,r1,⟨r2.len,(Kp.below h.rel hb).trans r2.kp,fun t ht=>r2.tm t fun ⟨o,ho,e⟩=>ht ⟨o,hmem o ho,e⟩⟩,r3⟩
 refine wp_region_any hm (wj7 (S:=gj7 (q.2.2.map M.phi) w.drew) (fins:=(fpb7 ops q).drop ((fpb7 ops q).length - q.2.1)) _ _ _ _ ?_)
 rw [← b3]
 exact hhb7 b1 (fun c a d v w hh=>(hQp _ _ _ hh).elim) _ _ a _ (fun j oj _ hl=>by rw [getD_replicate_false] at hl; cases hl) (by rw [b3]; exact b2) hmix
end
theorem lab7 (n:Nat) (ids:List Nat):∀ (tm:Tm) (t:Nat),lk (ypb7 n ids tm) t = ((lk tm t).1,fwb7 n ids (lk tm t).2)
 | [],_=>rfl
 | (k,g,v) :: l,t=>by
  simp only [ypb7,lk]
  split
  ·rfl
  ·exact lab7 n ids l t
theorem vbb7 (n:Nat) (ids:List Nat) (tm:Tm):∀ vy:List Nat,gets (ypb7 n ids tm) vy = renG n ids (gets tm vy)
 | []=>rfl
 | t :: l=>by simp only [gets,renG,lab7,vbb7 n ids tm l]
theorem gv7 (n:Nat) (ids:List Nat):∀ l:List Root,(sfb7 n ids l).length = l.length
 | []=>rfl
 | _ :: l=>by simp [sfb7,gv7 n ids l]
theorem ndb7 (n:Nat) (ids:List Nat) (H:List Root):∀ l:List Nat,(cr7 n ids H l).length = l.length
 | []=>rfl
 | _ :: l=>by simp [cr7,ndb7 n ids H l]
theorem fgb7 (n:Nat) (ids:List Nat):∀ (l:List Root) (j:Nat),ea7 (sfb7 n ids l) j = wf7 n ids (ea7 l j)
 | [],_=>rfl
 | _ :: _,0=>rfl
 | _ :: l,j + 1=>by simp only [sfb7,ea7]; exact fgb7 n ids l j
theorem zk7:∀ (l m:List Root) (j:Nat),ea7 (l ++ m) j = if j < l.length then ea7 l j else ea7 m (j - l.length)
 | [],m,j=>by simp
 | a :: l,m,0=>by simp [ea7]
 | a :: l,m,j + 1=>by
  simp only [List.cons_append,ea7,List.length_cons,zk7 l m j,Nat.add_lt_add_iff_right]
  congr 2
  omega
theorem lgb7 (n:Nat) (ids:List Nat) (H:List Root):∀ (l:List Nat) (j:Nat),ea7 (cr7 n ids H l) j = match l[j]? with
  | some i=>wf7 n ids (ea7 H i)
  | none => .dead
 | [],j=>by simp [cr7,ea7]
 | _ :: _,0=>by simp [cr7,ea7]
 | _ :: l,j + 1=>by simp only [cr7,ea7,List.getElem?_cons_succ]; exact lgb7 n ids H l j
def src (n:Nat) (ids:List Nat) (j:Nat):Option Nat:=if j < n then some j else ids[j - n]?
theorem jtb7 {n:Nat} {ids:List Nat} {H:List Root} (hn:n ≤ H.length) (j:Nat):ea7 (leb7 n ids H) j = match src n ids j with
  | some i=>wf7 n ids (ea7 H i)
  | none => .dead:=by
 have hl:(H.take n).length = n:=by simp; omega
 unfold leb7 src
 rw [zk7,gv7,hl,fgb7,ml7,lgb7]
 by_cases h:j < n
 ·simp [h]
 ·simp [h]
theorem fz7 {n:Nat} {ids:List Nat} {H:List Root} (hn:n ≤ H.length):(leb7 n ids H).length = n + ids.length:=by
 unfold leb7
 rw [List.length_append,gv7,ndb7,List.length_take]
 omega
theorem bhb7:∀ (l:List Nat) (id k j:Nat),pos l id k = some j → k ≤ j ∧ l[j - k]? = some id
 | [],_,_,_,h=>by cases h
 | a :: l,id,k,j,h=>by
  simp only [pos] at h
  split at h
  ·rename_i e
   cases h
   exact ⟨Nat.le_refl _,by simp [e]⟩
  ·obtain ⟨h1,h2⟩:=bhb7 l id (k + 1) j h
   refine ⟨by omega, ?_⟩
   rw [show j - k = (j - (k + 1)) + 1 by omega,List.getElem?_cons_succ]
   exact h2
theorem xbb7 {n:Nat} {ids:List Nat} {id j:Nat} (h:ojb7 n ids id = some j):src n ids j = some id:=by
 unfold ojb7 at h
 unfold src
 split at h
 ·cases h; rename_i h; rw [if_pos h]
 ·obtain ⟨h1,h2⟩:=bhb7 _ _ _ _ h
  rw [if_neg (by omega),h2]
theorem tsb7 {n:Nat} {ids:List Nat} {j i:Nat} (h:src n ids j = some i):j < n + ids.length:=by
 unfold src at h
 split at h
 ·omega
 ·have:=(List.getElem?_eq_some_iff.1 h).1; omega
theorem dn7 (n:Nat) (ids:List Nat) (r:Row):(rs7 n ids r).len = r.len:=by cases r <;> rfl
theorem ix7 (n:Nat) (ids:List Nat) (r:Row):(rs7 n ids r).isBox = r.isBox:=by cases r <;> rfl
theorem znb7 (n:Nat) (ids:List Nat):∀ (l:List AV) (o:Nat),nth (hpb7 n ids l) o = ow7 n ids (nth l o)
 | [],_=>rfl
 | _ :: _,0=>rfl
 | _ :: l,o + 1=>by simp only [hpb7,nth]; exact znb7 n ids l o
theorem omb7 {n:Nat}:∀ {l:List Nat},okI n l = true → (∀ i ∈ l,n ≤ i) ∧ ∀ (j k i:Nat),l[j]? = some i → l[k]? = some i → j = k
 | [],_=>⟨fun _ h=>(by cases h),fun j k i h=>by simp at h⟩
 | a :: l,h=>by
  simp only [okI,Bool.and_eq_true,decide_eq_true_eq,Bool.not_eq_true',List.contains_eq_mem,decide_eq_false_iff_not] at h
  obtain ⟨⟨h1,h2⟩,h3⟩:=h
  obtain ⟨k1,k2⟩:=omb7 h3
  refine ⟨fun i hi => ?_,fun j k i hj hk => ?_⟩
  ·rcases List.mem_cons.1 hi with rfl | hi
   ·exact h1
   ·exact k1 i hi
  ·cases j with
   | zero =>
    cases k with
    | zero=>rfl
    | succ k =>
     simp at hj hk
     subst hj
     exact absurd (List.mem_of_getElem? hk) h2
   | succ j =>
    cases k with
    | zero =>
     simp at hj hk
     subst hk
     exact absurd (List.mem_of_getElem? hj) h2
    | succ k =>
     simp at hj hk
     rw [k2 j k i hj hk]
theorem hvb7 {n:Nat} {ids:List Nat} (ho:okI n ids = true) {i j k:Nat} (h1:src n ids i = some k) (h2:src n ids j = some k):i = j:=by
 obtain ⟨k1,k2⟩:=omb7 ho
 unfold src at h1 h2
 split at h1
 ·cases h1
  split at h2
  ·cases h2; rfl
  ·have:=k1 _ (List.mem_of_getElem? h2); omega
 ·split at h2
  ·cases h2
   have:=k1 _ (List.mem_of_getElem? h1); omega
  ·have:=k2 _ _ _ h1 h2; omega
section
variable {E:Env} {nt:Nat} {M:Mp} {H:List Root} {σ:AS} {a:Act} {w:World} {n:Nat} {ids:List Nat}
def nsb7 (n:Nat) (ids:List Nat) (M:Mp):Mp:=⟨fun j=>match src n ids j with
 | some i=>M.phi i
 | none=>0,M.rho,M.tau⟩
theorem oi7 {j i:Nat} (h:src n ids j = some i):(nsb7 n ids M).phi j = M.phi i:=by
 show (match src n ids j with | some i=>M.phi i | none=>0) = _
 rw [h]
theorem pi7 (hn:n ≤ H.length) {j:Nat} {fz:Bool} {t:TypeId} {sz:Nat} {r:Row} (h:ea7 (leb7 n ids H) j = .live fz t sz r):∃ i r0,src n ids j = some i ∧ ea7 H i = .live fz t sz r0 ∧ r = rs7 n ids r0:=by
 rw [jtb7 hn] at h
 cases hs:src n ids j with
 | none=>rw [hs] at h; cases h
 | some i =>
  rw [hs] at h
  simp only at h
  cases hr:ea7 H i with
  | dead=>rw [hr] at h; cases h
  | live fz' t' sz' r'=>rw [hr] at h; cases h; exact ⟨i,r',rfl,hr,rfl⟩
theorem Con.ren (hn:n ≤ H.length) {x:AV} {v:Value} (h:Con M H w x v):Con (nsb7 n ids M) (leb7 n ids H) w (ow7 n ids x) v:=by
 cases x with
 | ptr id m i o =>
  simp only [ow7]
  cases hs:ojb7 n ids id with
  | none=>trivial
  | some j =>
   have hsr:=xbb7 hs
   refine ⟨⟨by rw [fz7 hn]; exact tsb7 hsr,h.1.2⟩,fun fz t sz r hr => ?_⟩
   obtain ⟨i0,r0,k1,k2,rfl⟩:=pi7 hn hr
   rw [hsr] at k1
   cases k1
   rw [dn7,oi7 hsr]
   exact h.2 _ _ _ _ k2
 | h id st len =>
  simp only [ow7]
  cases hs:ojb7 n ids id with
  | none=>trivial
  | some j =>
   have hsr:=xbb7 hs
   refine ⟨⟨by rw [fz7 hn]; exact tsb7 hsr,h.1.2⟩,fun fz t sz r hr => ?_⟩
   obtain ⟨i0,r0,k1,k2,rfl⟩:=pi7 hn hr
   rw [hsr] at k1
   cases k1
   rw [dn7,oi7 hsr]
   exact h.2 _ _ _ _ k2
 | junk=>trivial
 | _=>exact h
theorem ag7.ren (hn:n ≤ H.length):∀ {l:List AV} {vs:List Value},ag7 M H w l vs → ag7 (nsb7 n ids M) (leb7 n ids H) w (hpb7 n ids l) vs
 | [],_,h=>h
 | _ :: _,_,⟨v,r,e,h1,h2⟩=>⟨v,r,e,h1.ren hn,ag7.ren hn h2⟩
mutual
theorem ke7.ren (hn:n ≤ H.length):∀ {x:RV} {v:Value},ke7 M H w x v → ke7 (nsb7 n ids M) (leb7 n ids H) w (fwb7 n ids x) v
 | .c _,_,h=>Con.ren hn h
 | .agg _,_,⟨vs,e,h⟩=>⟨vs,e,ag7.ren hn h⟩
 | .fn _ _,_,⟨vs,e,h⟩=>⟨vs,e,ag7.ren hn h⟩
 | .tup _,_,⟨vs,e,h⟩=>⟨vs,e,ve7.ren hn h⟩
theorem ve7.ren (hn:n ≤ H.length):∀ {x:List RV} {vs:List Value},ve7 M H w x vs → ve7 (nsb7 n ids M) (leb7 n ids H) w (vqb7 n ids x) vs
 | [],_,h=>h
 | _ :: _,_,⟨v,r,e,h1,h2⟩=>⟨v,r,e,ke7.ren hn h1,ve7.ren hn h2⟩
end
theorem Rel.ren (h:Rel E M H w) (hn:n ≤ H.length) (ho:okI n ids = true):Rel E (nsb7 n ids M) (leb7 n ids H) w:=by
 refine ⟨h.bel,fun id fz t sz r hr => ?_,fun id fz t sz r hr => ?_,fun id t sz r hr => ?_,fun id t sz r hr => ?_,fun i j t s r t' s' r' hi hj he => ?_,h.rlt,h.src,h.tau.keep rfl (fun _ _ _=>rfl) (fun b q hq=>(h.tau.new b q hq).2) fun b q j fz t s r hq hj=>(by
  obtain ⟨i,r0,k1,k2,rfl⟩:=pi7 hn hj
  rw [oi7 k1]; exact h.tau.row _ _ _ _ _ _ _ hq k2)⟩
 ·obtain ⟨i,r0,k1,k2,rfl⟩:=pi7 hn hr
  rw [oi7 k1]; exact h.low _ _ _ _ _ k2
 ·obtain ⟨i,r0,k1,k2,rfl⟩:=pi7 hn hr
  rw [oi7 k1]
  obtain ⟨cur,c1,c2,c3,c4,c5,c6⟩:=h.row _ _ _ _ _ k2
  refine ⟨cur,c1,c2,by rw [dn7]; exact c3,c4,by rw [ix7]; exact c5,fun i hi o ho2 => ?_⟩
  rw [dn7] at hi
  obtain ⟨v,q1,q2,q3⟩:=c6 i hi o ho2
  refine ⟨v,q1,q2, ?_⟩
  unfold jw7 at q3 ⊢
  rw [ix7]
  cases r0 with
  | box l =>
   simp only [Row.isBox,if_true] at q3 ⊢
   show Con _ _ w (nth (hpb7 n ids l) o) v
   rw [znb7]
   exact q3.ren hn
  | _=>exact q3
 ·obtain ⟨i,r0,k1,k2,rfl⟩:=pi7 hn hr
  rw [oi7 k1]; exact h.froz _ _ _ _ k2
 ·obtain ⟨i,r0,k1,k2,rfl⟩:=pi7 hn hr
  rw [oi7 k1]; exact h.thaw _ _ _ _ k2
 ·obtain ⟨i0,r0,k1,k2,rfl⟩:=pi7 hn hi
  obtain ⟨j0,r1,k3,k4,rfl⟩:=pi7 hn hj
  rw [oi7 k1,oi7 k3] at he
  obtain rfl:=h.inj _ _ _ _ _ _ _ _ k2 k4 he
  exact hvb7 ho k1 k3
def ffc7 (n:Nat) (ids:List Nat) (σ:AS):AS:=⟨ypb7 n ids σ.tm,leb7 n ids σ.H⟩
theorem St.ren (h:St E nt M σ a w) (hn:n ≤ σ.H.length) (ho:okI n ids = true):St E nt (nsb7 n ids M) (ffc7 n ids σ) a w:=by
 refine ⟨h.rel.ren hn ho,fun t ht => ?_,fun t ht => ?_,h.sz,h.df⟩
 ·have ht:(lk (ypb7 n ids σ.tm) t).1 = true:=ht
  show ke7 _ _ w (lk (ypb7 n ids σ.tm) t).2 _
  rw [lab7] at ht ⊢
  exact (h.tms t ht).ren hn
 ·have ht:(lk (ypb7 n ids σ.tm) t).1 = false:=ht
  rw [lab7] at ht
  exact h.off t ht
theorem cwb7 {x:AV} (hs:x.scp n = true):ow7 n ids x = x:=by
 cases x with
 | ptr id m i o =>
  have:id < n:=by simpa [AV.scp] using hs
  simp only [ow7,ojb7,if_pos this,wob7]
 | h id st len =>
  have:id < n:=by simpa [AV.scp] using hs
  simp only [ow7,ojb7,if_pos this,mkH]
 | _=>rfl
theorem hgb7:∀ d k:Nat,ea7 (List.replicate d .dead) k = .dead
 | 0,_=>rfl
 | _ + 1,0=>rfl
 | d + 1,k + 1=>by simp only [List.replicate_succ,ea7]; exact hgb7 d k
theorem em7 (H:List Root) (d j:Nat):ea7 (H ++ List.replicate d .dead) j = ea7 H j:=by
 rw [zk7]
 split
 ·rfl
 ·rename_i h
  rw [hgb7,mn7 (H:=H) (by omega)]
theorem Con.dead (d:Nat) {x:AV} {v:Value} (h:Con M H w x v):Con M (H ++ List.replicate d .dead) w x v:=by
 cases x with
 | ptr id m i o=>exact ⟨⟨by rw [List.length_append]; have:=h.1.1; omega,h.1.2⟩,fun fz t sz r hr=>h.2 _ _ _ _ (by rw [em7] at hr; exact hr)⟩
 | h id st len=>exact ⟨⟨by rw [List.length_append]; have:=h.1.1; omega,h.1.2⟩,fun fz t sz r hr=>h.2 _ _ _ _ (by rw [em7] at hr; exact hr)⟩
 | junk=>trivial
 | _=>exact h
theorem ag7.dead (d:Nat):∀ {l:List AV} {vs:List Value},ag7 M H w l vs → ag7 M (H ++ List.replicate d .dead) w l vs
 | [],_,h=>h
 | _ :: _,_,⟨v,r,e,h1,h2⟩=>⟨v,r,e,h1.dead d,ag7.dead d h2⟩
mutual
theorem ke7.dead (d:Nat):∀ {x:RV} {v:Value},ke7 M H w x v → ke7 M (H ++ List.replicate d .dead) w x v
 | .c _,_,h=>Con.dead d h
 | .agg _,_,⟨vs,e,h⟩=>⟨vs,e,ag7.dead d h⟩
 | .fn _ _,_,⟨vs,e,h⟩=>⟨vs,e,ag7.dead d h⟩
 | .tup _,_,⟨vs,e,h⟩=>⟨vs,e,ve7.dead d h⟩
theorem ve7.dead (d:Nat):∀ {x:List RV} {vs:List Value},ve7 M H w x vs → ve7 M (H ++ List.replicate d .dead) w x vs
 | [],_,h=>h
 | _ :: _,_,⟨v,r,e,h1,h2⟩=>⟨v,r,e,ke7.dead d h1,ve7.dead d h2⟩
end
theorem Rel.dead (d:Nat) (h:Rel E M H w):Rel E M (H ++ List.replicate d .dead) w:=by
 refine ⟨h.bel,fun id fz t sz r hr => ?_,fun id fz t sz r hr => ?_,fun id t sz r hr => ?_,fun id t sz r hr => ?_,fun i j t s r t' s' r' hi hj he => ?_,h.rlt,h.src,h.tau.keep rfl (fun _ _ _=>rfl) (fun b q hq=>(h.tau.new b q hq).2) fun b q j fz t s r hq hj=>(by rw [em7] at hj; exact h.tau.row _ _ _ _ _ _ _ hq hj)⟩
 ·rw [em7] at hr; exact h.low _ _ _ _ _ hr
 ·rw [em7] at hr
  obtain ⟨cur,c1,c2,c3,c4,c5,c6⟩:=h.row _ _ _ _ _ hr
  refine ⟨cur,c1,c2,c3,c4,c5,fun i hi o ho2 => ?_⟩
  obtain ⟨v,q1,q2,q3⟩:=c6 i hi o ho2
  refine ⟨v,q1,q2, ?_⟩
  unfold jw7 at q3 ⊢
  split
  ·rename_i hb; rw [if_pos hb] at q3; exact q3.dead d
  ·rename_i hb; rw [if_neg hb] at q3; exact q3
 ·rw [em7] at hr; exact h.froz _ _ _ _ hr
 ·rw [em7] at hr; exact h.thaw _ _ _ _ hr
 ·rw [em7] at hi hj; exact h.inj _ _ _ _ _ _ _ _ hi hj he
end
section
variable {P:Program} {ty:Ty} {E:Env} {nt:Nat} {M M':Mp} {σ σ':AS} {a a':Act} {w w':World}
def okC (nt:Nat) (ord:Nat → List Nat × Nat × Option Nat):Code → Bool
 | .region id ops dr=>xab7 nt ops && (!dr || dlb7 ops (ord id))
 | .seq a b=>okC nt ord a && okC nt ord b
 | .cond _ a b=>okC nt ord a && okC nt ord b
 | .block _ a=>okC nt ord a
 | .loop a=>okC nt ord a
 | _=>true
def ipb7 (c:Code) (t:Nat):Prop:=t ∈ asg c
theorem least (p:Nat → Prop) (h:∃ n,p n):∃ n,p n ∧ ∀ m,p m → n ≤ m:=by
 obtain ⟨n,hn⟩:=h
 induction n using Nat.strongRecOn with
 | _ n ih =>
  by_cases hc:∃ m,m < n ∧ p m
  ·obtain ⟨m,hm,hp⟩:=hc; exact ih m hm hp
  ·exact ⟨n,hn,fun m hm=>Nat.le_of_not_lt fun hlt=>hc ⟨m,hlt,hm⟩⟩
theorem wp_loop_ghost {ι:Type} {c:Code} {Q:Exit → Act → World → Prop} (I:ι → Act → World → Prop) (μ:ι → Nat) (s0:ι) {a:Act} {w:World} (h0:I s0 a w)
  (round:∀ s a w,I s a w → c.wp P (Exit.then (fun a' w' => ∃ s',I s' a' w' ∧ μ s' < μ s) Q) a w):(Code.loop c).wp P Q a w:=by
 classical
 have hl:∀ (a:Act) (w:World),(∃ n, ∃ s,I s a w ∧ μ s = n) → ∃ n,(∃ s,I s a w ∧ μ s = n) ∧ ∀ m,(∃ s,I s a w ∧ μ s = m) → n ≤ m:=fun a w h=>least _ h
 let f:Act → World → Nat:=fun a w=>if h:∃ n, ∃ s,I s a w ∧ μ s = n then Classical.choose (hl a w h) else 0
 have hf:∀ a w s,I s a w → (∃ s',I s' a w ∧ μ s' = f a w) ∧ f a w ≤ μ s:=by
  intro a w s hs
  have h:∃ n, ∃ s,I s a w ∧ μ s = n:=⟨_,s,hs,rfl⟩
  have:=Classical.choose_spec (hl a w h)
  have e:f a w = Classical.choose (hl a w h):=dif_pos h
  rw [e]
  exact ⟨this.1,this.2 _ ⟨s,hs,rfl⟩⟩
 refine wp_loop (fun a w => ∃ s,I s a w) f ⟨s0,h0⟩ fun a w ⟨s,hs⟩ => ?_
 obtain ⟨⟨s1,h1,h2⟩, -⟩:=hf a w s hs
 refine wp_mono (round s1 a w h1) fun e a' w' q => ?_
 cases e with
 | normal =>
  obtain ⟨s',q1,q2⟩:=q
  exact ⟨⟨s',q1⟩,by have:=(hf a' w' s' q1).2; omega⟩
 | _=>exact q
theorem mv7:∀ (vy:List Nat) (vs:List RV) (tm tm0:Tm),gets tm0 vy = ul7 vs → ∀ t,(t ∈ vy ∧ lk (setT vy vs tm) t = lk tm0 t) ∨ (t ∉ vy ∧ lk (setT vy vs tm) t = lk tm t)
 | [],vs,tm,tm0,_,t => .inr ⟨by simp,by cases vs <;> rfl⟩
 | v :: vy,[],tm,tm0,h,t=>by simp [gets,ul7] at h
 | v :: vy,x :: vs,tm,tm0,h,t=>by
  simp only [gets,ul7,List.cons.injEq] at h
  simp only [setT,lk]
  by_cases e:v = t
  ·subst e
   exact .inl ⟨List.mem_cons_self ..,by rw [if_pos rfl,h.1]⟩
  ·rw [if_neg e]
   rcases mv7 vy vs tm tm0 h.2 t with ⟨h1,h2⟩ | ⟨h1,h2⟩
   ·exact .inl ⟨List.mem_cons_of_mem _ h1,h2⟩
   ·exact .inr ⟨by simp only [List.mem_cons,not_or]; exact ⟨fun e2=>e e2.symm,h1⟩,h2⟩
theorem nv7 (tm:Tm):∀ (fx:List Nat) (t:Nat),(t ∈ fx ∧ lk (fxT tm fx) t = lk tm t) ∨ (t ∉ fx ∧ lk (fxT tm fx) t = (true, .c .junk))
 | [],t => .inr ⟨by simp,rfl⟩
 | x :: fx,t=>by
  simp only [fxT,lk]
  by_cases e:x = t
  ·subst e; exact .inl ⟨List.mem_cons_self ..,by rw [if_pos rfl]⟩
  ·rw [if_neg e]
   rcases nv7 tm fx t with ⟨h1,h2⟩ | ⟨h1,h2⟩
   ·exact .inl ⟨List.mem_cons_of_mem _ h1,h2⟩
   ·exact .inr ⟨by simp only [List.mem_cons,not_or]; exact ⟨fun e2=>e e2.symm,h1⟩,h2⟩
theorem um7 {c:Code} {fx:List Nat} (h:unb7 c fx = true) {t:Nat} (ht:t ∈ fx) : ¬ ipb7 c t:=by
 have:=List.all_eq_true.1 h t ht
 simpa [ipb7] using this
theorem Con.take {H:List Root} {k:Nat} {x:AV} {v:Value} (hk:k ≤ H.length) (hs:x.scp k = true) (h:Con M H w x v):Con M (H.take k) w x v:=by
 have hlen:(H.take k).length = k:=by simp; omega
 cases x with
 | ptr id n i o =>
  have hid:id < k:=by simpa [AV.scp] using hs
  exact ⟨⟨by omega,h.1.2⟩,fun fz t sz r hr=>by rw [ml7,if_pos hid] at hr; exact h.2 _ _ _ _ hr⟩
 | h id st len =>
  have hid:id < k:=by simpa [AV.scp] using hs
  exact ⟨⟨by omega,h.1.2⟩,fun fz t sz r hr=>by rw [ml7,if_pos hid] at hr; exact h.2 _ _ _ _ hr⟩
 | junk=>trivial
 | _=>exact h
theorem ag7.take {H:List Root} {k:Nat} (hk:k ≤ H.length):∀ {l:List AV} {vs:List Value},qfb7 k l = true → ag7 M H w l vs → ag7 M (H.take k) w l vs
 | [],_,_,h=>h
 | x :: l,_,hs,⟨v,r,e,h1,h2⟩=>by
  simp only [qfb7,Bool.and_eq_true] at hs
  exact ⟨v,r,e,h1.take hk hs.1,ag7.take hk hs.2 h2⟩
mutual
theorem ke7.take {H:List Root} {k:Nat} (hk:k ≤ H.length):∀ {x:RV} {v:Value},gxb7 k x = true → ke7 M H w x v → ke7 M (H.take k) w x v
 | .c _,_,hs,h=>Con.take hk hs h
 | .agg _,_,hs,⟨vs,e,h⟩=>⟨vs,e,ag7.take hk hs h⟩
 | .fn _ _,_,hs,⟨vs,e,h⟩=>⟨vs,e,ag7.take hk hs h⟩
 | .tup _,_,hs,⟨vs,e,h⟩=>⟨vs,e,ve7.take hk hs h⟩
theorem ve7.take {H:List Root} {k:Nat} (hk:k ≤ H.length):∀ {x:List RV} {vs:List Value},sw7 k x = true → ve7 M H w x vs → ve7 M (H.take k) w x vs
 | [],_,_,h=>h
 | x :: l,_,hs,⟨v,r,e,h1,h2⟩=>by
  simp only [sw7,Bool.and_eq_true] at hs
  exact ⟨v,r,e,ke7.take hk hs.1 h1,ve7.take hk hs.2 h2⟩
end
theorem vsb7 {H:List Root} {x:AV} {v:Value} (h:Con M H w x v):x.scp H.length = true:=by
 cases x with
 | ptr=>simpa [AV.scp] using h.1.1
 | h=>simpa [AV.scp] using h.1.1
 | _=>rfl
theorem or7 {k:Nat}:∀ {H:List Root},whb7 k H = true → ∀ {id:Nat} {fz:Bool} {t:TypeId} {sz:Nat} {l:List AV},ea7 H id = .live fz t sz (.box l) → qfb7 k l = true
 | [],_,_,_,_,_,_,h=>by cases h
 | .live fz t sz (.box l) :: H,hs,0,_,_,_,_,h=>by
  simp only [whb7,Bool.and_eq_true] at hs
  cases h; exact hs.1
 | .live _ _ _ (.box _) :: H,hs,id + 1,_,_,_,_,h=>by
  simp only [whb7,Bool.and_eq_true] at hs
  exact or7 hs.2 h
 | .dead :: H,hs,0,_,_,_,_,h=>by cases h
 | .live _ _ _ (.ints ..) :: H,hs,0,_,_,_,_,h=>by cases h
 | .live _ _ _ (.bools ..) :: H,hs,0,_,_,_,_,h=>by cases h
 | .live _ _ _ (.gen ..) :: H,hs,0,_,_,_,_,h=>by cases h
 | .dead :: H,hs,id + 1,_,_,_,_,h=>or7 (H:=H) hs h
 | .live _ _ _ (.ints ..) :: H,hs,id + 1,_,_,_,_,h=>or7 (H:=H) hs h
 | .live _ _ _ (.bools ..) :: H,hs,id + 1,_,_,_,_,h=>or7 (H:=H) hs h
 | .live _ _ _ (.gen ..) :: H,hs,id + 1,_,_,_,_,h=>or7 (H:=H) hs h
theorem flb7 {k:Nat}:∀ {l:List AV},qfb7 k l = true → ∀ j,(nth l j).scp k = true
 | [],_,_=>rfl
 | x :: l,hs,0=>by simp only [qfb7,Bool.and_eq_true] at hs; exact hs.1
 | x :: l,hs,j + 1=>by simp only [qfb7,Bool.and_eq_true] at hs; exact flb7 hs.2 j
theorem Rel.take {H:List Root} {k:Nat} (h:Rel E M H w) (hk:k ≤ H.length) (hs:whb7 k (H.take k) = true):Rel E M (H.take k) w:=by
 have lift:∀ {id:Nat} {fz:Bool} {t:TypeId} {sz:Nat} {r:Row},ea7 (H.take k) id = .live fz t sz r → ea7 H id = .live fz t sz r:=fun {id fz t sz r} hr=>by
  rw [ml7] at hr
  split at hr
  ·exact hr
  ·cases hr
 refine ⟨h.bel,fun id fz t sz r hr=>h.low _ _ _ _ _ (lift hr),fun id fz t sz r hr => ?_,fun id t sz r hr=>h.froz _ _ _ _ (lift hr),fun id t sz r hr=>h.thaw _ _ _ _ (lift hr),fun i j t s r t' s' r' hi hj=>h.inj _ _ _ _ _ _ _ _ (lift hi) (lift hj),h.rlt,h.src,h.tau.keep rfl (fun _ _ _=>rfl) (fun b q hq=>(h.tau.new b q hq).2) fun b q j fz t s r hq hj=>h.tau.row _ _ _ _ _ _ _ hq (lift hj)⟩
 obtain ⟨cur,h1,h2,h3,h4,h5,h6⟩:=h.row _ _ _ _ _ (lift hr)
 refine ⟨cur,h1,h2,h3,h4,h5,fun i hi o ho => ?_⟩
 obtain ⟨v,k1,k2,k3⟩:=h6 i hi o ho
 refine ⟨v,k1,k2, ?_⟩
 unfold jw7 at k3 ⊢
 cases r with
 | box l =>
  simp only [Row.isBox,if_true] at k3 ⊢
  exact k3.take hk (flb7 (or7 hs hr) o)
 | _=>exact k3
def ydb7 (σ:AS) (fx vy:List Nat) (vs:List RV) (H:List Root):AS:=⟨setT vy vs (fxT σ.tm fx),H⟩
theorem ghb7 {k:Nat} {vy:List Nat} {vs:List RV} {tm:Tm} (hs:sw7 k vs = true):∀ t,t ∈ vy → vs.length = vy.length → ∃ x,lk (setT vy vs tm) t = (true,x) ∧ gxb7 k x = true:=by
 induction vy generalizing vs with
 | nil=>intro t ht; cases ht
 | cons v vy ih =>
  intro t ht hl
  cases vs with
  | nil=>simp at hl
  | cons x vs =>
   simp only [sw7,Bool.and_eq_true] at hs
   simp only [setT,lk]
   by_cases e:v = t
   ·rw [if_pos e]; exact ⟨x,rfl,hs.1⟩
   ·rw [if_neg e]
    rcases List.mem_cons.1 ht with rfl | ht
    ·exact absurd rfl e
    ·exact ih hs.2 t ht (by simpa using hl)
theorem qp7 (hT:lj7 P ty) (hm:P.follows .mixedOrders = true) {ord:Nat → List Nat × Nat × Option Nat}:∀ (c:Code),okC nt ord c = true → ∀ {Q:Exit → AS → Prop} {M:Mp} {σ:AS} {a:Act} {w:World},St E nt M σ a w → awp P ty ord c Q σ →
  c.wp P (fun e a' w'=>(∀ ch,e ≠ .panic ch) ∧ After E nt M σ a w (ipb7 c) (Q e) a' w') a w
 | .skip,_,Q,M,σ,a,w,h,hw=>wp_skip ⟨fun _ e=>(by cases e),M,σ,h,Stp.refl _ _ _ _ _,hw⟩
 | .exit id,_,Q,M,σ,a,w,h,hw=>wp_exit ⟨fun _ e=>(by cases e),M,σ,h,Stp.refl _ _ _ _ _,hw⟩
 | .ret,_,Q,M,σ,a,w,h,hw=>wp_ret ⟨fun _ e=>(by cases e),M,σ,h,Stp.refl _ _ _ _ _,hw⟩
 | .region id ops dr,hc,Q,M,σ,a,w,h,hw=>by
  simp only [okC,Bool.and_eq_true] at hc
  have hds:∀ t,oxb7 ops.toList t → ipb7 (.region id ops dr) t:=fun t ⟨o,ho,e⟩=>List.mem_filterMap.2 ⟨o,ho,e⟩
  cases dr with
  | true =>
   simp only [awp,if_true] at hw
   exact dkb7 hT hm (by simpa using hc.2) hc.1 h hw (fun a' w' ⟨M2,σ2,r1,r2,r3⟩=>⟨fun _ e=>(by cases e),M2,σ2,r1,r2.mono hds,r3⟩) fun c a w hh=>hh.1 c rfl
  | false =>
   simp only [awp,Bool.false_eq_true,if_false] at hw
   exact wp_region_list (ymb7 hT ops.toList h (dr7 hc.1) hw fun a' w' ⟨M2,σ2,r1,r2,r3⟩=>⟨fun _ e=>(by cases e),M2,σ2,r1,r2.mono hds,r3⟩)
 | .seq x y,hc,Q,M,σ,a,w,h,hw=>by
  simp only [okC,Bool.and_eq_true] at hc
  refine wp_seq (wp_mono (qp7 hT hm x hc.1 h (Q:=qq7 (awp P ty ord y Q) Q) hw) fun e a1 w1 ⟨hp,M1,σ1,q1,q2,q3⟩ => ?_)
  cases e with
  | normal =>
   refine wp_mono (qp7 hT hm y hc.2 q1 q3) fun e a2 w2 ⟨hp2,M2,σ2,r1,r2,r3⟩=>⟨hp2,M2,σ2,r1,q2.trans r2 (fun t ht=>List.mem_append_left _ ht) (fun t ht=>List.mem_append_right _ ht),r3⟩
  | panic ch=>exact absurd rfl (hp ch)
  | exit id=>exact ⟨hp,M1,σ1,q1,q2.mono fun t ht=>List.mem_append_left _ ht,q3⟩
  | goto l=>exact ⟨hp,M1,σ1,q1,q2.mono fun t ht=>List.mem_append_left _ ht,q3⟩
  | ret=>exact ⟨hp,M1,σ1,q1,q2.mono fun t ht=>List.mem_append_left _ ht,q3⟩
  | outgrown=>exact ⟨hp,M1,σ1,q1,q2.mono fun t ht=>List.mem_append_left _ ht,q3⟩
 | .cond x y z,hc,Q,M,σ,a,w,h,hw=>by
  simp only [okC,Bool.and_eq_true] at hc
  have hw':zy7 (σ.rd x) (awp P ty ord y Q σ) (awp P ty ord z Q σ):=hw
  unfold zy7 at hw'
  split at hw'
  ·rename_i b hb
   have hv:=h.rd (x:=x) (by rw [hb])
   rw [hb] at hv
   have hv':a.eval x = .bool b:=hv
   refine wp_cond hv' ?_
   cases b with
   | true=>exact wp_mono (qp7 hT hm y hc.1 h (hw'.1 rfl)) fun e a1 w1 ⟨hp,M1,σ1,q1,q2,q3⟩=>⟨hp,M1,σ1,q1,q2.mono fun t ht=>List.mem_append_left _ ht,q3⟩
   | false=>exact wp_mono (qp7 hT hm z hc.2 h (hw'.2 rfl)) fun e a1 w1 ⟨hp,M1,σ1,q1,q2,q3⟩=>⟨hp,M1,σ1,q1,q2.mono fun t ht=>List.mem_append_right _ ht,q3⟩
  ·exact hw'.elim
 | .block id x,hc,Q,M,σ,a,w,h,hw=>by
  refine wp_block (wp_mono (qp7 hT hm x hc h (Q:=inB id Q) hw) fun e a1 w1 ⟨hp,M1,σ1,q1,q2,q3⟩ => ?_)
  cases e with
  | exit j =>
   simp only [Exit.inBlock]
   simp only [inB] at q3
   split
   ·rename_i e; rw [if_pos e] at q3; exact ⟨fun _ e=>(by cases e),M1,σ1,q1,q2,q3⟩
   ·rename_i e; rw [if_neg e] at q3; exact ⟨hp,M1,σ1,q1,q2,q3⟩
  | normal=>exact ⟨hp,M1,σ1,q1,q2,q3⟩
  | panic ch=>exact absurd rfl (hp ch)
  | goto l=>exact ⟨hp,M1,σ1,q1,q2,q3⟩
  | ret=>exact ⟨hp,M1,σ1,q1,q2,q3⟩
  | outgrown=>exact ⟨hp,M1,σ1,q1,q2,q3⟩
 | .loop x,hc,Q,M,σ,a,w,h,hw=>by
  rcases (show kac7 (awp P ty ord x) x Q σ ∨ isb7 (awp P ty ord x) x Q σ from hw) with hw | hw
  case inr =>
   obtain ⟨ι,d,fx,vy,inv,vals,H,μ,hfx,⟨s0,i0,g0,e0⟩,hsc,round⟩:=hw
   have mk:∀ {M1 σ1 a1 w1 s},inv s → St E nt M1 σ1 a1 w1 → Stp M σ a w M1 σ1 a1 w1 (ipb7 x) → gets σ1.tm vy = ul7 (vals s) → σ1.H = H s → St E nt M1 (ydb7 σ fx vy (vals s) (H s)) a1 w1 ∧ Stp M σ a w M1 (ydb7 σ fx vy (vals s) (H s)) a1 w1 (ipb7 x):=by
    intro M1 σ1 a1 w1 s hs q1 q2 hg hH
    have s1:=hsc s hs
    have hkp:Kp M σ.H w M1 (H s) w1:=fun x v c=>by
     rw [← hH]
     exact q2.kp x v c
    refine ⟨⟨?_,fun t ht => ?_,fun t ht => ?_,q1.sz,q1.df⟩,⟨by show σ.H.length ≤ (H s).length; omega,hkp,q2.tm⟩⟩
    ·show Rel E M1 (H s) w1
     rw [← hH]
     exact q1.rel
    ·show ke7 M1 (H s) w1 (lk (setT vy (vals s) (fxT σ.tm fx)) t).2 _
     have ht':(lk (setT vy (vals s) (fxT σ.tm fx)) t).1 = true:=ht
     rcases mv7 vy (vals s) (fxT σ.tm fx) σ1.tm hg t with ⟨m1,m2⟩ | ⟨m1,m2⟩
     ·rw [m2] at ht' ⊢
      rw [← hH]
      exact q1.tms t ht'
     ·rw [m2] at ht' ⊢
      rcases nv7 σ.tm fx t with ⟨f1,f2⟩ | ⟨f1,f2⟩
      ·rw [f2] at ht' ⊢
       rw [q2.tm t (um7 hfx f1)]
       exact hkp.R (h.tms t ht')
      ·rw [f2]; trivial
    ·have ht':(lk (setT vy (vals s) (fxT σ.tm fx)) t).1 = false:=ht
     rcases mv7 vy (vals s) (fxT σ.tm fx) σ1.tm hg t with ⟨m1,m2⟩ | ⟨m1,m2⟩
     ·rw [m2] at ht'
      exact q1.off t ht'
     ·rw [m2] at ht'
      rcases nv7 σ.tm fx t with ⟨f1,f2⟩ | ⟨f1,f2⟩
      ·rw [f2] at ht'
       rw [q2.tm t (um7 hfx f1)]
       exact h.off t ht'
      ·rw [f2] at ht'; cases ht'
   have hd:St E nt M ⟨σ.tm,σ.H ++ List.replicate d .dead⟩ a w:=⟨h.rel.dead d,fun t ht=>(h.tms t ht).dead d,h.off,h.sz,h.df⟩
   have hstart:=mk i0 hd ⟨by simp,fun x v c=>c.dead d,fun _ _=>rfl⟩ g0 e0
   refine wp_loop_ghost (fun s a1 w1 => ∃ M1,inv s ∧ St E nt M1 (ydb7 σ fx vy (vals s) (H s)) a1 w1 ∧ Stp M σ a w M1 (ydb7 σ fx vy (vals s) (H s)) a1 w1 (ipb7 x)) μ s0 ⟨M,i0,hstart⟩ ?_
   rintro s a1 w1 ⟨M1,hs,q1,q2⟩
   refine wp_mono (qp7 hT hm x hc q1 (round s hs)) fun e a2 w2 ⟨hp,M2,σ2,r1,r2,r3⟩ => ?_
   have r4:=q2.trans r2 (fun _ h=>h) (fun _ h=>h)
   cases e with
   | normal =>
    obtain ⟨s',ids,t1,⟨o1,o2⟩,t2,t3,t4⟩:=r3
    have st:=r1.ren r4.len o2
    refine ⟨s',⟨nsb7 σ.H.length ids M2,t1,mk t1 st ⟨?_,fun x v c => ?_,r4.tm⟩ ?_ t3⟩,t4⟩
    ·show σ.H.length ≤ (leb7 σ.H.length ids σ2.H).length
     rw [fz7 r4.len]; omega
    ·have:=(r4.kp x v c).ren (ids:=ids) r4.len
     rw [cwb7 (vsb7 c)] at this
     exact this
    ·show gets (ypb7 σ.H.length ids σ2.tm) vy = _
     rw [vbb7]; exact t2
   | panic ch=>exact absurd rfl (hp ch)
   | exit id=>exact ⟨hp,M2,σ2,r1,r4,r3⟩
   | goto l=>exact ⟨hp,M2,σ2,r1,r4,r3⟩
   | ret=>exact ⟨hp,M2,σ2,r1,r4,r3⟩
   | outgrown=>exact ⟨hp,M2,σ2,r1,r4,r3⟩
  obtain ⟨ι,fx,vy,inv,vals,H,μ,hfx,⟨s0,i0,g0,e0⟩,hsc,round⟩:=hw
  have mk:∀ {M1 σ1 a1 w1 s},inv s → St E nt M1 σ1 a1 w1 → Stp M σ a w M1 σ1 a1 w1 (ipb7 x) → gets σ1.tm vy = ul7 (vals s) → σ1.H.take σ.H.length = H s → St E nt M1 (ydb7 σ fx vy (vals s) (H s)) a1 w1 ∧ Stp M σ a w M1 (ydb7 σ fx vy (vals s) (H s)) a1 w1 (ipb7 x):=by
   intro M1 σ1 a1 w1 s hs q1 q2 hg hH
   obtain ⟨s1,s2,s3,s4⟩:=hsc s hs
   have hkp:Kp M σ.H w M1 (H s) w1:=fun x v c=>by
    rw [← hH]
    exact (q2.kp x v c).take q2.len (vsb7 c)
   refine ⟨⟨?_,fun t ht => ?_,fun t ht => ?_,q1.sz,q1.df⟩,⟨by show σ.H.length ≤ (H s).length; omega,hkp,q2.tm⟩⟩
   ·show Rel E M1 (H s) w1
    rw [← hH]
    exact q1.rel.take q2.len (by rw [hH]; exact s3)
   ·show ke7 M1 (H s) w1 (lk (setT vy (vals s) (fxT σ.tm fx)) t).2 _
    have ht':(lk (setT vy (vals s) (fxT σ.tm fx)) t).1 = true:=ht
    rcases mv7 vy (vals s) (fxT σ.tm fx) σ1.tm hg t with ⟨m1,m2⟩ | ⟨m1,m2⟩
    ·obtain ⟨y,y1,y2⟩:=ghb7 (tm:=fxT σ.tm fx) s2 t m1 s4
     rw [m2] at ht' ⊢
     rw [m2] at y1
     have:=q1.tms t ht'
     rw [y1] at this ⊢
     rw [← hH]
     exact ke7.take q2.len y2 this
    ·rw [m2] at ht' ⊢
     rcases nv7 σ.tm fx t with ⟨f1,f2⟩ | ⟨f1,f2⟩
     ·rw [f2] at ht' ⊢
      rw [q2.tm t (um7 hfx f1)]
      exact hkp.R (h.tms t ht')
     ·rw [f2]; trivial
   ·have ht':(lk (setT vy (vals s) (fxT σ.tm fx)) t).1 = false:=ht
    rcases mv7 vy (vals s) (fxT σ.tm fx) σ1.tm hg t with ⟨m1,m2⟩ | ⟨m1,m2⟩
    ·obtain ⟨y,y1,y2⟩:=ghb7 (tm:=fxT σ.tm fx) s2 t m1 s4
     rw [y1] at ht'; cases ht'
    ·rw [m2] at ht'
     rcases nv7 σ.tm fx t with ⟨f1,f2⟩ | ⟨f1,f2⟩
     ·rw [f2] at ht'
      rw [q2.tm t (um7 hfx f1)]
      exact h.off t ht'
     ·rw [f2] at ht'; cases ht'
  have hstart:=mk i0 h (Stp.refl _ _ _ _ _) g0 (by rw [List.take_length]; exact e0)
  refine wp_loop_ghost (fun s a1 w1 => ∃ M1,inv s ∧ St E nt M1 (ydb7 σ fx vy (vals s) (H s)) a1 w1 ∧ Stp M σ a w M1 (ydb7 σ fx vy (vals s) (H s)) a1 w1 (ipb7 x)) μ s0 ⟨M,i0,hstart⟩ ?_
  rintro s a1 w1 ⟨M1,hs,q1,q2⟩
  refine wp_mono (qp7 hT hm x hc q1 (round s hs)) fun e a2 w2 ⟨hp,M2,σ2,r1,r2,r3⟩ => ?_
  have r4:=q2.trans r2 (fun _ h=>h) (fun _ h=>h)
  cases e with
  | normal =>
   obtain ⟨s',t1,t2,t3,t4⟩:=r3
   exact ⟨s',⟨M2,t1,mk t1 r1 r4 t2 t3⟩,t4⟩
  | panic ch=>exact absurd rfl (hp ch)
  | exit id=>exact ⟨hp,M2,σ2,r1,r4,r3⟩
  | goto l=>exact ⟨hp,M2,σ2,r1,r4,r3⟩
  | ret=>exact ⟨hp,M2,σ2,r1,r4,r3⟩
  | outgrown=>exact ⟨hp,M2,σ2,r1,r4,r3⟩
 | .label l,_,Q,M,σ,a,w,h,hw=>(by cases hw)
 | .goto l,_,Q,M,σ,a,w,h,hw=>(by cases hw)
 | .scope b,_,Q,M,σ,a,w,h,hw=>(by cases hw)
 | .rangeFunc ..,_,Q,M,σ,a,w,h,hw=>(by cases hw)
 | .refuse y,_,Q,M,σ,a,w,h,hw=>(by cases hw)
end
def Eqv:AV → AV → Prop
 | .sl n sz f,y => ∃ g,y = .sl n sz g ∧ ∀ i,i < n → ∀ j,j < sz → Eqv (f i j) (g i j)
 | .nils,y=>y = .nils ∨ ∃ sz g,y = .sl 0 sz g
 | .int k n,y=>y = .int k n
 | .bool b,y=>y = .bool b
 | .flt b,y=>y = .flt b
 | .str b,y=>y = .str b
 | .nilp,y=>y = .nilp
 | .rp n f,y=>y = .rp n f
 | .ptr ..,_=>False
 | .h ..,_=>False
 | .ws ..,_=>False
 | .wu ..,_=>False
 | .wp ..,_=>False
 | .junk,y=>y = .junk
def cyb7:List AV → List AV → Prop
 | [],m=>m = []
 | a :: l,m => ∃ b r,m = b :: r ∧ (a = b ∨ Eqv a b) ∧ cyb7 l r
def qdc7:RV → RV → Prop
 | .c a,y => ∃ b,y = .c b ∧ (a = b ∨ Eqv a b)
 | .agg l,y => ∃ m,y = .agg m ∧ cyb7 l m
 | _,_=>False
def gjb7:List RV → List RV → Prop
 | [],m=>m = []
 | a :: l,m => ∃ b r,m = b :: r ∧ (a = b ∨ qdc7 a b) ∧ gjb7 l r
def bzb7:RV → RV → Prop
 | .tup l,y => ∃ m,y = .tup m ∧ gjb7 l m
 | x,y=>qdc7 x y
theorem jf7.eqv {rho:Nat → Prop} {w:World}:∀ {x y:AV} {v:Value},jf7 rho w x v → Eqv x y → jf7 rho w y v
 | .sl n sz f,y,v,⟨a,b,off,c,h1,h2,h3,h4,h5⟩,⟨g,e,hg⟩=>by
  subst e
  refine ⟨a,b,off,c,h1,h2,h3,h4,fun i hi j hj => ?_⟩
  obtain ⟨u,hu,hc⟩:=h5 i hi j hj
  exact ⟨u,hu,hc.eqv (hg i hi j hj)⟩
 | .nils,y,v,h,e=>by
  rcases e with rfl | ⟨sz,g,rfl⟩
  ·exact h
  ·exact ⟨none,0,0,0,h,Nat.le_refl _,Nat.zero_le _,fun h=>absurd h (Nat.not_lt_zero _),fun i hi=>absurd hi (Nat.not_lt_zero _)⟩
 | .int ..,_,_,h,e=>by cases e; exact h
 | .bool _,_,_,h,e=>by cases e; exact h
 | .flt _,_,_,h,e=>by cases e; exact h
 | .str _,_,_,h,e=>by cases e; exact h
 | .nilp,_,_,h,e=>by cases e; exact h
 | .rp ..,_,_,h,e=>by cases e; exact h
 | .junk,_,_,_,e=>by cases e; trivial
 | .ptr ..,_,_,h,_=>h.elim
 | .h ..,_,_,h,_=>h.elim
theorem jf7.eqv' {rho:Nat → Prop} {w:World} {x y:AV} {v:Value} (h:jf7 rho w x v) (e:x = y ∨ Eqv x y):jf7 rho w y v:=by
 rcases e with rfl | e
 ·exact h
 ·exact h.eqv e
def pk7 (rho:Nat → Prop) (w:World):RV → Value → Prop
 | .c a,v=>jf7 rho w a v
 | .agg l,v => ∃ vs:List Value,v = .agg vs.toArray ∧ ue7 rho w l vs
 | .fn f caps,v => ∃ vs:List Value,v = .func (.func f) #[] vs.toArray ∧ ue7 rho w caps vs
 | .tup _,_=>False
def sf7 (rho:Nat → Prop) (w:World):List RV → List Value → Prop
 | [],vs=>vs = []
 | a :: l,vs => ∃ v r,vs = v :: r ∧ pk7 rho w a v ∧ sf7 rho w l r
def mk7 (rho:Nat → Prop) (w:World):RV → Value → Prop
 | .tup l,v => ∃ vs:List Value,v = .tuple vs.toArray ∧ sf7 rho w l vs
 | x,v=>pk7 rho w x v
section
variable {rho rho':Nat → Prop} {w w':World}
theorem ue7.eqv:∀ {l m:List AV} {vs:List Value},ue7 rho w l vs → cyb7 l m → ue7 rho w m vs
 | [],_,_,h,e=>by cases e; exact h
 | _ :: _,_,_,⟨v,r,h,h1,h2⟩,⟨b,m,e,e1,e2⟩=>by subst e; exact ⟨v,r,h,h1.eqv' e1,ue7.eqv h2 e2⟩
theorem pk7.eqv:∀ {x y:RV} {v:Value},pk7 rho w x v → qdc7 x y → pk7 rho w y v
 | .c _,_,_,h,⟨b,e,e1⟩=>by subst e; exact jf7.eqv' h e1
 | .agg _,_,_,⟨vs,h,h1⟩,⟨m,e,e1⟩=>by subst e; exact ⟨vs,h,h1.eqv e1⟩
theorem sf7.eqv:∀ {l m:List RV} {vs:List Value},sf7 rho w l vs → gjb7 l m → sf7 rho w m vs
 | [],_,_,h,e=>by cases e; exact h
 | _ :: _,_,_,⟨v,r,h,h1,h2⟩,⟨b,m,e,e1,e2⟩=>by
  subst e
  refine ⟨v,r,h, ?_,sf7.eqv h2 e2⟩
  rcases e1 with rfl | e1
  ·exact h1
  ·exact h1.eqv e1
theorem mk7.eqv {x y:RV} {v:Value} (h:mk7 rho w x v) (e:bzb7 x y):mk7 rho w y v:=by
 cases x with
 | tup l =>
  obtain ⟨m,rfl,e⟩:=e
  obtain ⟨vs,h1,h2⟩:=h
  exact ⟨vs,h1,h2.eqv e⟩
 | c a=>obtain ⟨b,rfl,e⟩:=e; exact jf7.eqv' h e
 | agg l=>obtain ⟨b,rfl,e⟩:=e; obtain ⟨vs,h1,h2⟩:=h; exact ⟨vs,h1,h2.eqv e⟩
 | fn=>exact e.elim
theorem ue7.keep (hb:∀ b,rho b → w'.heap[b]? = w.heap[b]?) (hr:∀ b,rho b → rho' b):∀ {l:List AV} {vs:List Value},ue7 rho w l vs → ue7 rho' w' l vs
 | [],_,h=>h
 | _ :: _,_,⟨v,r,h,h1,h2⟩=>⟨v,r,h,h1.keep hb hr,ue7.keep hb hr h2⟩
theorem pk7.keep (hb:∀ b,rho b → w'.heap[b]? = w.heap[b]?) (hr:∀ b,rho b → rho' b):∀ {x:RV} {v:Value},pk7 rho w x v → pk7 rho' w' x v
 | .c _,_,h=>jf7.keep hb hr h
 | .agg _,_,⟨vs,h,h1⟩=>⟨vs,h,h1.keep hb hr⟩
 | .fn ..,_,⟨vs,h,h1⟩=>⟨vs,h,h1.keep hb hr⟩
theorem sf7.keep (hb:∀ b,rho b → w'.heap[b]? = w.heap[b]?) (hr:∀ b,rho b → rho' b):∀ {l:List RV} {vs:List Value},sf7 rho w l vs → sf7 rho' w' l vs
 | [],_,h=>h
 | _ :: _,_,⟨v,r,h,h1,h2⟩=>⟨v,r,h,h1.keep hb hr,sf7.keep hb hr h2⟩
theorem mk7.keep (hb:∀ b,rho b → w'.heap[b]? = w.heap[b]?) (hr:∀ b,rho b → rho' b) {x:RV} {v:Value} (h:mk7 rho w x v):mk7 rho' w' x v:=by
 cases x with
 | tup l=>obtain ⟨vs,h1,h2⟩:=h; exact ⟨vs,h1,h2.keep hb hr⟩
 | c a=>exact pk7.keep (x := .c a) hb hr h
 | agg l=>exact pk7.keep (x := .agg l) hb hr h
 | fn f l=>exact pk7.keep (x := .fn f l) hb hr h
variable {M:Mp} {H:List Root}
theorem ue7.up:∀ {l:List AV} {vs:List Value},ue7 M.rho w l vs → ag7 M H w l vs
 | [],_,h=>h
 | _ :: _,_,⟨v,r,h,h1,h2⟩=>⟨v,r,h,Con.of0 h1,ue7.up h2⟩
theorem pk7.up:∀ {x:RV} {v:Value},pk7 M.rho w x v → ke7 M H w x v
 | .c _,_,h=>Con.of0 h
 | .agg _,_,⟨vs,h,h1⟩=>⟨vs,h,h1.up⟩
 | .fn ..,_,⟨vs,h,h1⟩=>⟨vs,h,h1.up⟩
theorem sf7.up:∀ {l:List RV} {vs:List Value},sf7 M.rho w l vs → ve7 M H w l vs
 | [],_,h=>h
 | _ :: _,_,⟨v,r,h,h1,h2⟩=>⟨v,r,h,h1.up,sf7.up h2⟩
theorem mk7.up {x:RV} {v:Value} (h:mk7 M.rho w x v):ke7 M H w x v:=by
 cases x with
 | tup l=>obtain ⟨vs,h1,h2⟩:=h; exact ⟨vs,h1,h2.up⟩
 | c a=>exact pk7.up (x := .c a) h
 | agg l=>exact pk7.up (x := .agg l) h
 | fn f l=>exact pk7.up (x := .fn f l) h
end
def zi7 (P:Program) (f:FuncId) (args:List RV) (post:RV → Prop):Prop :=
 Enters P f ∧ ∀ (rho:Nat → Prop) (w:World) (vs:List Value),(∀ b,rho b → b < w.heap.size) → sf7 rho w args vs →
  Calls P f vs.toArray w fun e w' => ∃ r v rho',e = .returned v ∧ post r ∧ mk7 rho' w' r v ∧ (∀ b,rho' b → rho b ∨ (w.heap.size ≤ b ∧ b < w'.heap.size)) ∧ Below w.heap.size w w'
def wxb7 (H:List Root):RV → RV
 | .c a => .c (frz H a)
 | .agg l => .agg (ss7 H l)
 | .fn f l => .fn f (ss7 H l)
 | .tup l => .tup l
def bt7 (H:List Root):List RV → List RV
 | []=>[]
 | a :: l=>wxb7 H a :: bt7 H l
def abc7 (H:List Root):RV → RV
 | .tup l => .tup (bt7 H l)
 | x=>wxb7 H x
def okR (H:List Root):RV → Prop
 | .c a=>lh7 H [a]
 | .agg l=>lh7 H l
 | .fn _ l=>lh7 H l
 | .tup _=>False
def gnb7 (H:List Root):List RV → Prop
 | []=>True
 | a :: l=>okR H a ∧ gnb7 H l
def okT (H:List Root):RV → Prop
 | .tup l=>gnb7 H l
 | x=>okR H x
def seb7 (H:List Root):RV → List Root
 | .c a=>frzH H [a]
 | .agg l=>frzH H l
 | .fn _ l=>frzH H l
 | .tup _=>H
def nl7:List Root → List RV → List Root
 | H,[]=>H
 | H,a :: l=>nl7 (seb7 H a) l
section
variable {P:Program} {ty:Ty} {E:Env} {nt:Nat} {M M':Mp} {H:List Root} {σ σ':AS} {a a':Act} {w w':World}
theorem pq7:∀ (l:List AV) {H:List Root},(∀ id st len,AV.h id st len ∈ l → ∃ fz t sz r,ea7 H id = .live fz t sz r) → (∀ x,frz (frzH H l) x = frz H x) ∧ (∀ m,lh7 H m → lh7 (frzH H l) m) ∧ ∀ id,(∃ fz t sz r,ea7 H id = .live fz t sz r) → ∃ fz t sz r,ea7 (frzH H l) id = .live fz t sz r
 | [],_,_=>⟨fun _=>rfl,fun _ h=>h,fun _ h=>h⟩
 | a :: l,H,h=>by
  have plain:frzH H (a :: l) = frzH H l → (∀ x,frz (frzH H (a :: l)) x = frz H x) ∧ (∀ m,lh7 H m → lh7 (frzH H (a :: l)) m) ∧ ∀ id,(∃ fz t sz r,ea7 H id = .live fz t sz r) → ∃ fz t sz r,ea7 (frzH H (a :: l)) id = .live fz t sz r:=fun e=>by
   obtain ⟨h1,h2,h3⟩:=pq7 l (H:=H) (fun id st len hm=>h id st len (List.mem_cons_of_mem _ hm))
   rw [e]
   exact ⟨h1,h2,h3⟩
  cases a with
  | h id st len =>
   obtain ⟨fz,t,sz,r,hr⟩:=h id st len (List.mem_cons_self ..)
   have hlive:∀ id',(∃ fz t sz r,ea7 H id' = .live fz t sz r) → ∃ fz t sz r,ea7 (eb7 H id (ea7 H id).mark) id' = .live fz t sz r:=fun id' ⟨f,t2,s2,r2,h2⟩=>by
    rw [uk7 hr]
    by_cases e:id' = id
    ·exact ⟨true,t,sz,r,by rw [if_pos e]⟩
    ·exact ⟨f,t2,s2,r2,by rw [if_neg e]; exact h2⟩
   obtain ⟨h1,h2,h3⟩:=pq7 l (H:=eb7 H id (ea7 H id).mark) (fun id' st len hm=>hlive _ (h id' st len (List.mem_cons_of_mem _ hm)))
   exact ⟨fun x=>by simp only [frzH]; rw [h1,mgb7 hr],fun m hm=>h2 m (ym7 hr m hm),fun id' h'=>h3 id' (hlive id' h')⟩
  | _=>exact plain rfl
theorem jd7:∀ {l:List AV},lh7 H l → ∀ id st len,AV.h id st len ∈ l → ∃ fz t sz r,ea7 H id = .live fz t sz r
 | a :: l,h,id,st,len,hm=>by
  rcases List.mem_cons.1 hm with rfl | hm2
  ·have:=h.1
   unfold uqb7 at this
   split at this
   ·rename_i fz t sz r hr; exact ⟨fz,t,sz,r,hr⟩
   ·exact this.elim
  ·cases a with
   | h=>exact jd7 h.2 id st len hm2
   | ptr=>exact h.elim
   | junk=>exact h.elim
   | ws=>exact h.elim
   | wu=>exact h.elim
   | wp=>exact h.elim
   | int=>exact jd7 (l:=l) h id st len hm2
   | bool=>exact jd7 (l:=l) h id st len hm2
   | flt=>exact jd7 (l:=l) h id st len hm2
   | str=>exact jd7 (l:=l) h id st len hm2
   | nilp=>exact jd7 (l:=l) h id st len hm2
   | nils=>exact jd7 (l:=l) h id st len hm2
   | sl=>exact jd7 (l:=l) h id st len hm2
   | rp=>exact jd7 (l:=l) h id st len hm2
theorem mbb7 {H':List Root} (h:∀ x,frz H' x = frz H x):∀ l:List AV,ss7 H' l = ss7 H l
 | []=>rfl
 | x :: l=>by simp [ss7,h,mbb7 h l]
theorem fx7 {H':List Root} (h:∀ x,frz H' x = frz H x):∀ l:List RV,bt7 H' l = bt7 H l
 | []=>rfl
 | x :: l=>by cases x <;> simp [bt7,wxb7,h,mbb7 h,fx7 h l]
theorem qz7 (h:Rel E M H w) {x:RV} {v:Value} (ho:okR H x) (hc:ke7 M H w x v):∃ M',M'.phi = M.phi ∧ (∀ b,M.rho b → M'.rho b) ∧ Rel E M' (seb7 H x) w ∧ Kp M H w M' (seb7 H x) w ∧ pk7 M'.rho w (wxb7 H x) v ∧
  (∀ y,frz (seb7 H x) y = frz H y) ∧ (∀ m,lh7 H m → lh7 (seb7 H x) m):=by
 cases x with
 | c a =>
  obtain ⟨M',e1,e2,e3,e4,e5⟩:=dv7 [a] h ho
  obtain ⟨f1,f2, -⟩:=pq7 [a] (jd7 ho)
  obtain ⟨u,r,e,c1, -⟩:=e5 [v] ⟨v,[],rfl,hc,rfl⟩
  cases e
  exact ⟨M',e1,e2,e3,e4,c1,f1,f2⟩
 | agg l =>
  obtain ⟨M',e1,e2,e3,e4,e5⟩:=dv7 l h ho
  obtain ⟨f1,f2, -⟩:=pq7 l (jd7 ho)
  obtain ⟨vs,rfl,c⟩:=hc
  exact ⟨M',e1,e2,e3,e4,⟨vs,rfl,e5 vs c⟩,f1,f2⟩
 | fn f l =>
  obtain ⟨M',e1,e2,e3,e4,e5⟩:=dv7 l h ho
  obtain ⟨f1,f2, -⟩:=pq7 l (jd7 ho)
  obtain ⟨vs,rfl,c⟩:=hc
  exact ⟨M',e1,e2,e3,e4,⟨vs,rfl,e5 vs c⟩,f1,f2⟩
 | tup l=>exact ho.elim
theorem dt7 {H':List Root} (hm:∀ m,lh7 H m → lh7 H' m):∀ {l:List RV},gnb7 H l → gnb7 H' l
 | [],_=>trivial
 | .c _ :: _,h=>⟨hm _ h.1,dt7 hm h.2⟩
 | .agg _ :: _,h=>⟨hm _ h.1,dt7 hm h.2⟩
 | .fn .. :: _,h=>⟨hm _ h.1,dt7 hm h.2⟩
theorem it7:∀ (l:List RV) {M:Mp} {H:List Root} {vs:List Value},Rel E M H w → gnb7 H l → ve7 M H w l vs → ∃ M',M'.phi = M.phi ∧ (∀ b,M.rho b → M'.rho b) ∧ Rel E M' (nl7 H l) w ∧ Kp M H w M' (nl7 H l) w ∧ sf7 M'.rho w (bt7 H l) vs
 | [],M,H,vs,h,_,hc=>⟨M,rfl,fun _ h=>h,h,Kp.refl _ _ _,hc⟩
 | x :: l,M,H,_,h,ho,⟨v,r,e,h1,h2⟩=>by
  subst e
  obtain ⟨M1,e1,e2,e3,e4,e5,e6,e7⟩:=qz7 h ho.1 h1
  obtain ⟨M2,k1,k2,k3,k4,k5⟩:=it7 l e3 (dt7 e7 ho.2) (e4.RL h2)
  refine ⟨M2,k1.trans e1,fun b hb=>k2 b (e2 b hb),k3,e4.trans k4,v,r,rfl,e5.keep (fun _ _=>rfl) k2, ?_⟩
  rwa [fx7 e6] at k5
theorem mub7 (h:Rel E M H w) {x:RV} {v:Value} (ho:okT H x) (hc:ke7 M H w x v):∃ M' H',Rel E M' H' w ∧ mk7 M'.rho w (abc7 H x) v:=by
 cases x with
 | tup l =>
  obtain ⟨vs,rfl,c⟩:=hc
  obtain ⟨M', -, -,e3, -,e5⟩:=it7 l h ho c
  exact ⟨M',_,e3,vs,rfl,e5⟩
 | c a=>obtain ⟨M', -, -,e3, -,e5, -⟩:=qz7 (x := .c a) h ho hc; exact ⟨M',_,e3,e5⟩
 | agg l=>obtain ⟨M', -, -,e3, -,e5, -⟩:=qz7 (x := .agg l) h ho hc; exact ⟨M',_,e3,e5⟩
 | fn f l=>obtain ⟨M', -, -,e3, -,e5, -⟩:=qz7 (x := .fn f l) h ho hc; exact ⟨M',_,e3,e5⟩
section
variable (ty)
def eac7 (σ:AS):ResultVar → Vo
 | .tmp t=>((lk σ.tm t).1 = true,(lk σ.tm t).2)
 | .cell a t=>((lk σ.tm a).1 = true ∧ (efb7 (ty t) σ.H (lk σ.tm a).2).1,(efb7 (ty t) σ.H (lk σ.tm a).2).2)
def rw7 (σ:AS):List ResultVar → Prop × List RV
 | []=>(True,[])
 | r :: l=>((eac7 ty σ r).1 ∧ (rw7 σ l).1,(eac7 ty σ r).2 :: (rw7 σ l).2)
def one:List RV → RV
 | [x]=>x
 | l => .tup l
def vac7 (rs:List ResultVar) (K:RV → List Root → Prop):Exit → AS → Prop
 | .ret,σ=>(rw7 ty σ rs).1 ∧ K (one (rw7 ty σ rs).2) σ.H
 | .normal,σ=>(rw7 ty σ rs).1 ∧ K (one (rw7 ty σ rs).2) σ.H
 | _,_=>False
end
def tbb7 (a:Act):ResultVar → Sem Value
 | .tmp t=>pure (a.tmps.getD t undef)
 | .cell x t=>do loadVar t (← asAddr (a.tmps.getD x undef))
theorem cub7 (hT:lj7 P ty) (h:St E nt M σ a w) {r:ResultVar} (ho:(eac7 ty σ r).1):∃ v,ke7 M σ.H w (eac7 ty σ r).2 v ∧ (tbb7 a r).run P w = .ok v w:=by
 cases r with
 | tmp t=>exact ⟨_,h.tms t ho,rfl⟩
 | cell x t =>
  obtain ⟨h1,h2⟩:=ho
  have hc:=h.tms x h1
  obtain ⟨v,k1,k2⟩:=rjb7 hT h.rel t hc h2
  refine ⟨v,k1, ?_⟩
  have k3:=k2 w Same.refl
  show (do loadVar t (← asAddr (a.tmps.getD x undef)):Sem Value).run P w = _
  obtain ⟨u,hu⟩:∃ u,u = a.tmps.getD x undef:=⟨_,rfl⟩
  rw [← hu] at k3 ⊢
  clear hu
  cases u <;> first | (simp [Instr.loadAt,Instr.sureAddr,stuck] at k3; done) | skip
  rename_i p
  cases p with
  | none=>simp [Instr.loadAt,Instr.sureAddr,stuck] at k3
  | some ad =>
   simp only [Instr.loadAt,Instr.sureAddr] at k3
   simpa [asAddr] using k3
theorem bnb7 (hT:lj7 P ty) (h:St E nt M σ a w):∀ (rs:List ResultVar),(rw7 ty σ rs).1 → ∃ vs,ve7 M σ.H w (rw7 ty σ rs).2 vs ∧ (rs.mapM (tbb7 a)).run P w = .ok vs w
 | [],_=>⟨[],rfl,rfl⟩
 | r :: rs,ho=>by
  obtain ⟨v,h1,h2⟩:=cub7 hT h ho.1
  obtain ⟨vs,h3,h4⟩:=bnb7 hT h rs ho.2
  refine ⟨v :: vs,⟨v,vs,rfl,h1,h3⟩, ?_⟩
  rw [List.mapM_cons,Sem.run_bind,h2]
  simp only [Result.andThen]
  rw [Sem.run_bind,h4]
  rfl
theorem tu7:∀ {l:List RV} {vs:List Value},ve7 M H w l vs → vs.length = l.length
 | [],_,h=>by cases h; rfl
 | _ :: _,_,⟨v,r,e,_,h⟩=>by subst e; simp [tu7 h]
theorem cx7 (hT:lj7 P ty) (h:St E nt M σ a w) {fn:Func} {rs:List ResultVar} (hr:fn.results.toList = rs) (ho:(rw7 ty σ rs).1):∃ v,ke7 M σ.H w (one (rw7 ty σ rs).2) v ∧ (results fn a.tmps).run P w = .ok v w:=by
 obtain ⟨vs,h1,h2⟩:=bnb7 hT h rs ho
 have hrun:(results fn a.tmps).run P w = .ok (if h:vs.toArray.size = 1 then vs.toArray[0] else .tuple vs.toArray) w:=by
  have hfun:∀ f:ResultVar → Sem Value,(∀ r,f r = tbb7 a r) → fn.results.mapM f = fn.results.mapM (tbb7 a):=fun f hf=>by rw [funext hf]
  unfold results
  rw [Sem.run_bind,hfun _ (fun r=>by cases r <;> rfl),Array.mapM_eq_mapM_toList,hr]
  have:((List.toArray <$> rs.mapM (tbb7 a)):Sem (Array Value)).run P w = .ok vs.toArray w:=by
   rw [map_eq_pure_bind,Sem.run_bind,h2]; rfl
  rw [this]
  rfl
 refine ⟨_, ?_,hrun⟩
 have hl:=tu7 h1
 generalize (rw7 ty σ rs).2 = l at h1 hl
 match l,vs,h1,hl with
 | [x],[v],⟨v',r,e,c1,c2⟩,_=>cases e; exact c1
 | [],[],h1,_=>exact ⟨[],rfl,h1⟩
 | x :: y :: l,v :: u :: vs,h1,_ =>
  have : ¬ (v :: u :: vs).toArray.size = 1:=by simp
  rw [dif_neg this]
  exact ⟨_,rfl,h1⟩
def bpb7:Nat → List RV → Tm
 | _,[]=>[]
 | k,x :: l=>(k,true,x) :: bpb7 (k + 1) l
theorem yfb7:∀ (l:List RV) (k t:Nat) (vs:List Value),ve7 M H w l vs → (lk (bpb7 k l) t).1 = true ∧ (∀ v,(k ≤ t ∧ vs[t - k]? = some v) → ke7 M H w (lk (bpb7 k l) t).2 v) ∧ ((t < k ∨ k + vs.length ≤ t) → (lk (bpb7 k l) t).2 = .c .junk)
 | [],k,t,vs,h=>by cases h; exact ⟨rfl,fun v h=>by simp at h,fun _=>rfl⟩
 | x :: l,k,t,_,⟨v,r,e,h1,h2⟩=>by
  subst e
  simp only [bpb7,lk]
  by_cases e:k = t
  ·subst e
   rw [if_pos rfl]
   exact ⟨rfl,fun u hu=>by simp at hu; subst hu; exact h1,fun h=>by simp at h; omega⟩
  ·rw [if_neg e]
   obtain ⟨i1,i2,i3⟩:=yfb7 l (k + 1) t r h2
   refine ⟨i1,fun u ⟨hu1,hu2⟩=>i2 u ⟨by omega, ?_⟩,fun h=>i3 (by simp at h; omega)⟩
   rw [show t - k = (t - (k + 1)) + 1 by omega] at hu2
   simpa using hu2
theorem St.enter (h:Rel E M H w) {args:List RV} {vs:List Value} (hc:ve7 M H w args vs) {n:Nat} (hn:args.length ≤ n):St E n M ⟨bpb7 0 args,H⟩ ⟨vs.toArray ++ Array.replicate (n - vs.toArray.size) undef,[]⟩ w:=by
 have hl:=tu7 hc
 refine ⟨h,fun t ht => ?_,fun t ht => ?_,by simp; omega,rfl⟩
 ·obtain ⟨i1,i2,i3⟩:=yfb7 args 0 t vs hc
  show ke7 M H w (lk (bpb7 0 args) t).2 ((vs.toArray ++ Array.replicate (n - vs.toArray.size) undef).getD t undef)
  by_cases hlt:t < vs.length
  ·have:(vs.toArray ++ Array.replicate (n - vs.toArray.size) undef).getD t undef = vs[t]:=by
    rw [Array.getD_eq_getD_getElem?,Array.getElem?_append_left (by simpa using hlt)]
    simp [hlt]
   rw [this]
   exact i2 _ ⟨Nat.zero_le _,by simp [hlt]⟩
  ·rw [i3 (.inr (by omega))]; trivial
 ·obtain ⟨i1, -⟩:=yfb7 args 0 t vs hc
  have ht':(lk (bpb7 0 args) t).1 = false:=ht
  rw [i1] at ht'; cases ht'
def ydc7 (post:RV → Prop) (r:RV) (H:List Root):Prop:=okT H r ∧ ∃ r',bzb7 (abc7 H r) r' ∧ post r'
theorem kk7 (hT : lj7 P ty) (hm : P.follows .mixedOrders = true) {f : FuncId} {fn : Func} {c : Code} (ord : Nat → List Nat × Nat × Option Nat) (hf : P.funcs[f]? = some fn) (hb : fn.body = some c) (hname : (fn.name == "runtime.NumGoroutine") = false) {n : Nat} (hnt : fn.ntmps = n) {rs : List ResultVar} (hr : fn.results.toList = rs)
  (hok:okC n ord c = true) {args:List RV} (hn:args.length ≤ n) {post:RV → Prop}
  (h:awp P ty ord c (vac7 ty rs (ydc7 post)) ⟨bpb7 0 args,[]⟩):zi7 P f args post:=by
 refine ⟨⟨fn,c,hf,hname,hb⟩,fun rho w vs hrho hc=>calls_of_wp hf hb ?_⟩
 have hrel:Rel ⟨w,rho⟩ ⟨fun _=>0,rho,fun _=>none⟩ [] w:=⟨Below.refl _ _,fun _ _ _ _ _ h=>(by cases h),fun _ _ _ _ _ h=>(by cases h),fun _ _ _ _ h=>(by cases h),fun _ _ _ _ h=>(by cases h),fun _ _ _ _ _ _ _ _ h=>(by cases h),hrho,fun b hb => .inl hb,⟨fun _ _ h=>(by cases h),fun _ _ _ _ _ _ _ h=>(by cases h),fun _ _ _ h=>(by cases h)⟩⟩
 have hst:=St.enter hrel (sf7.up (M:=⟨fun _=>0,rho,fun _=>none⟩) (H:=[]) hc) (n:=n) hn
 rw [hnt]
 refine wp_mono (qp7 hT hm c hok hst h) fun e a' w' ⟨hp,M',σ',q1,q2,q3⟩ => ?_
 have fin:(rw7 ty σ' rs).1 ∧ (okT σ'.H (one (rw7 ty σ' rs).2) ∧ ∃ r',bzb7 (abc7 σ'.H (one (rw7 ty σ' rs).2)) r' ∧ post r') → a'.defers = [] ∧ ∃ v,(results fn a'.tmps).run P w' = .ok v w' ∧ ∃ r v' rho',Ending.returned v = .returned v' ∧ post r ∧ mk7 rho' w' r v' ∧ (∀ b,rho' b → rho b ∨ (w.heap.size ≤ b ∧ b < w'.heap.size)) ∧ Below w.heap.size w w':=by
  rintro ⟨h1,h2,r',h3,h4⟩
  obtain ⟨v,k1,k2⟩:=cx7 hT q1 hr h1
  obtain ⟨M2,H2,k3,k4⟩:=mub7 q1.rel h2 k1
  refine ⟨q1.df,v,k2,r',v,M2.rho,rfl,h4,k4.eqv h3,fun b hb => ?_,q1.rel.bel⟩
  rcases k3.src b hb with h | h
  ·exact .inl h
  ·exact .inr ⟨h,k3.rlt b hb⟩
 cases e with
 | normal=>exact fin q3
 | ret=>exact fin q3
 | panic ch=>exact absurd rfl (hp ch)
 | exit id=>exact q3.elim
 | goto l=>exact q3.elim
 | outgrown=>exact q3.elim
def AV.scal:AV → Bool
 | .int .. | .bool _ | .flt _ | .str _ | .nilp | .nils=>true
 | _=>false
def urb7:List AV → Bool
 | []=>true
 | a :: l=>a.scal && urb7 l
def eub7:RV → Bool
 | .c a=>a.scal
 | .agg l=>urb7 l
 | _=>false
def ohb7:List RV → Bool
 | []=>true
 | a :: l=>eub7 a && ohb7 l
def qub7:RV → Bool
 | .tup l=>ohb7 l
 | x=>eub7 x
theorem vgb7 {rho rho':Nat → Prop} {x:AV} {v:Value} (hs:x.scal = true) (h:jf7 rho w x v):jf7 rho' w' x v:=by
 cases x <;> first | exact h | cases hs
theorem wbb7 {rho rho':Nat → Prop}:∀ {l:List AV} {vs:List Value},urb7 l = true → ue7 rho w l vs → ue7 rho' w' l vs
 | [],_,_,h=>h
 | _ :: _,_,hs,⟨v,r,e,h1,h2⟩=>by
  simp only [urb7,Bool.and_eq_true] at hs
  exact ⟨v,r,e,vgb7 hs.1 h1,wbb7 hs.2 h2⟩
theorem ut7 {rho rho':Nat → Prop} {x:RV} {v:Value} (hs:eub7 x = true) (h:pk7 rho w x v):pk7 rho' w' x v:=by
 cases x with
 | c a=>exact vgb7 hs h
 | agg l=>obtain ⟨vs,e,h⟩:=h; exact ⟨vs,e,wbb7 hs h⟩
 | fn=>cases hs
 | tup=>cases hs
theorem zw7 {rho rho':Nat → Prop}:∀ {l:List RV} {vs:List Value},ohb7 l = true → sf7 rho w l vs → sf7 rho' w' l vs
 | [],_,_,h=>h
 | _ :: _,_,hs,⟨v,r,e,h1,h2⟩=>by
  simp only [ohb7,Bool.and_eq_true] at hs
  exact ⟨v,r,e,ut7 hs.1 h1,zw7 hs.2 h2⟩
theorem fnb7 {rho rho':Nat → Prop} {x:RV} {v:Value} (hs:qub7 x = true) (h:mk7 rho w x v):mk7 rho' w' x v:=by
 cases x with
 | tup l=>obtain ⟨vs,e,h⟩:=h; exact ⟨vs,e,zw7 hs h⟩
 | c a=>exact ut7 (x := .c a) hs h
 | agg l=>exact ut7 (x := .agg l) hs h
 | fn f l=>cases hs
theorem feb7 {pu:Pu} {f:FuncId} {args args':List RV} {post:RV → Prop} {K:RV → List Root → Prop} (hp:zi7 P f args' post) (ho:gnb7 H args) (he:gjb7 (bt7 H args) args') (hs:∀ r,post r → qub7 r = true) (hK:∀ r,post r → K r H):uu7 P pu f args H K:=by
 refine ⟨hp.1,fun E M w vs h hc => ?_⟩
 obtain ⟨M1,e1,e2,e3,e4,e5⟩:=it7 args h ho hc
 refine (hp.2 M1.rho w vs e3.rlt (e5.eqv he)).mono ?_
 rintro e w' ⟨r,v,rho',rfl,h1,h2,h3,h4⟩
 exact ⟨M,H,r,v,rfl,h.below h4,Kp.below h h4,mk7.up (fnb7 (hs r h1) h2),fun _ _=>gj7.below h4,Nat.le_refl _,hK r h1⟩
theorem lr7:∀ l:List RV,gjb7 l l
 | []=>rfl
 | _ :: l=>⟨_,_,rfl, .inl rfl,lr7 l⟩
theorem rc7 {pu:Pu} {f:FuncId} {args args':List RV} {post:RV → Prop} {K:RV → List Root → Prop} (hp:zi7 P f args' post) (ho:gnb7 H args) (he:bt7 H args = args') (hs:∀ r,post r → qub7 r = true) (hK:∀ r,post r → K r H):uu7 P pu f args H K :=
 feb7 hp ho (by rw [he]; exact lr7 _) hs hK
def frL:List AV → Bool
 | []=>true
 | a :: l=>a.fr && frL l
theorem ay7:∀ (l:List RV) (H:List Root),(nl7 H l).length = H.length
 | [],_=>rfl
 | x :: l,H=>by
  simp only [nl7]
  rw [ay7 l]
  cases x <;> simp [seb7,bn7]
theorem dvb7 {pu:Pu} {f:FuncId} {args args':List RV} {post:RV → Prop} {K:RV → List Root → Prop} (hp:zi7 P f args' post) (ho:gnb7 H args) (he:gjb7 (bt7 H args) args') (hK:∀ r,post r → K r (nl7 H args)):uu7 P pu f args H K:=by
 refine ⟨hp.1,fun E M w vs h hc => ?_⟩
 obtain ⟨M1,e1,e2,e3,e4,e5⟩:=it7 args h ho hc
 refine (hp.2 M1.rho w vs e3.rlt (e5.eqv he)).mono ?_
 rintro e w' ⟨r,v,rho',rfl,h1,h2,h3,h4⟩
 have h5:=e3.below h4
 have h6:=Kp.below e3 h4
 have hkp:Kp M1 (nl7 H args) w' ⟨M1.phi,fun b=>M1.rho b ∨ (w.heap.size ≤ b ∧ b < w'.heap.size),M1.tau⟩ (nl7 H args) w':=by
  intro x v c
  cases x with
  | ptr=>exact c
  | h=>exact c
  | ws=>exact c
  | wu=>exact c
  | wp=>exact c
  | junk=>trivial
  | _=>exact jf7.keep (fun _ _=>rfl) (fun _ h => .inl h) c
 refine ⟨⟨M1.phi,fun b=>M1.rho b ∨ (w.heap.size ≤ b ∧ b < w'.heap.size),M1.tau⟩,nl7 H args,r,v,rfl, ?_,(e4.trans h6).trans hkp,mk7.up (mk7.keep (fun _ _=>rfl) h3 h2),fun _ _=>gj7.below h4,by rw [ay7]; exact Nat.le_refl _,hK r h1⟩
 refine ⟨h5.bel,h5.low,fun id fz t sz q hr=>(h5.row id fz t sz q hr).keep hkp (fun _ _=>rfl) (fun _ h => .inl h) rfl,fun id t sz q hr => .inl (h5.froz id t sz q hr),fun id t sz q hr => ?_,h5.inj,fun b hb => ?_,fun b hb => ?_,h5.tau.keep rfl (fun _ _ _=>rfl) (fun b q hq => ?_) h5.tau.row⟩
 ·rintro (hb | ⟨hb, -⟩)
  ·exact h5.thaw id t sz q hr hb
  ·have hlt:M1.phi id < w.heap.size:=e3.lt hr
   have hb:w.heap.size ≤ M1.phi id:=hb
   omega
 ·rcases hb with hb | ⟨-,hb⟩
  ·exact h5.rlt b hb
  ·exact hb
 ·rcases hb with hb | ⟨hb, -⟩
  ·exact h5.src b hb
  ·exact .inr (Nat.le_trans e3.bel.size hb)
 ·rintro (hb | ⟨hb, -⟩)
  ·exact (h5.tau.new b q hq).2 hb
  ·have:=e3.tau.lt hq; omega
def kB (P:Program) (ty:Ty) (t:TypeId):TyK → Bool
 | .i k=>match P.underlying t with
  | some (.int k')=>decide (k = k')
  | _=>false
 | .b=>match P.underlying t with
  | some .bool=>true
  | _=>false
 | .str=>match P.underlying t with
  | some .string=>true
  | _=>false
 | .sc=>match P.underlying t with
  | some (.struct _)=>false
  | some (.array ..)=>false
  | some _=>true
  | none=>false
 | .st fs=>match P.underlying t with
  | some (.struct fields)=>decide (fields.toList.map (fun f=>(f.offset,P.cellsOf f.type)) = fs) && fields.toList.all (fun f=>(P.info? f.type).isSome)
  | _=>false
 | .ar n esz=>match P.underlying t with
  | some (.array n' e)=>decide (n = n') && decide (P.cellsOf e = esz) && (P.info? e).isSome
  | _=>false
 | .sl e=>match P.underlying t with
  | some (.slice e')=>decide (e = e') && (match (ty e).k with | .no=>false | _=>true)
  | _=>false
 | .no=>true
def tyB (P:Program) (ty:Ty) (t:TypeId):Bool :=
 kB P ty t (ty t).k && (match (ty t).k with
  | .no=>true
  | _=>match P.info? t with
   | some i=>decide (i.size = (ty t).sz) && decide (i.bytes = (ty t).bytes) && (match i.zero with
    | some z=>zvL (ty t).zero z.cells.toList && decide (z.cells.size = (ty t).sz)
    | none=>false)
   | none=>false)
theorem fcc7 {t:TypeId}:∀ {k:TyK},kB P ty t k = true → kOk P ty t k
 | .i k,h=>by
  simp only [kB] at h
  split at h
  ·rename_i k' hu; simp only [decide_eq_true_eq] at h; subst h; exact hu
  ·cases h
 | .b,h=>by
  simp only [kB] at h
  split at h
  ·rename_i hu; exact hu
  ·cases h
 | .str,h=>by
  simp only [kB] at h
  split at h
  ·rename_i hu; exact hu
  ·cases h
 | .sc,h=>by
  simp only [kB] at h
  split at h
  ·cases h
  ·cases h
  ·rename_i d h1 h2 hu
   refine ⟨d,hu, ?_⟩
   cases d <;> first | trivial | (exact h1 _ rfl) | (exact h2 _ _ rfl)
  ·cases h
 | .st fs,h=>by
  simp only [kB] at h
  split at h
  ·rename_i fields hu
   simp only [Bool.and_eq_true,decide_eq_true_eq,List.all_eq_true] at h
   exact ⟨fields,hu,h.1,h.2⟩
  ·cases h
 | .ar n esz,h=>by
  simp only [kB] at h
  split at h
  ·rename_i n' e hu
   simp only [Bool.and_eq_true,decide_eq_true_eq] at h
   obtain ⟨⟨rfl,h2⟩,h3⟩:=h
   exact ⟨e,hu,h2,h3⟩
  ·cases h
 | .sl e,h=>by
  simp only [kB] at h
  split at h
  ·rename_i e' hu
   simp only [Bool.and_eq_true,decide_eq_true_eq] at h
   obtain ⟨rfl,h2⟩:=h
   exact ⟨hu,by split at h2 <;> first | (cases h2; done) | (split <;> simp_all)⟩
  ·cases h
 | .no,_=>trivial
theorem uyb7 {t:TypeId} (h:tyB P ty t = true):owb7 P ty t:=by
 unfold tyB at h
 rw [Bool.and_eq_true] at h
 obtain ⟨h1,h2⟩:=h
 refine ⟨fcc7 h1, ?_⟩
 cases hk:(ty t).k
 case no=>trivial
 all_goals
  rw [hk] at h2
  simp only at h2
  split at h2
  ·rename_i i hi
   simp only [Bool.and_eq_true,decide_eq_true_eq] at h2
   obtain ⟨⟨h3,h4⟩,h5⟩:=h2
   split at h5
   ·rename_i z hz
    simp only [Bool.and_eq_true,decide_eq_true_eq] at h5
    exact ⟨i,z,hi,h3,h4,hz,h5.1,h5.2⟩
   ·cases h5
  ·cases h2
theorem sub7 {n:Nat} (h:(List.range n).all (tyB P ty) = true) (h2:∀ t,n ≤ t → (ty t).k = .no):lj7 P ty:=by
 intro t
 by_cases e:t < n
 ·exact uyb7 (List.all_eq_true.1 h t (List.mem_range.2 e))
 ·exact ⟨by rw [h2 t (Nat.le_of_not_lt e)]; trivial,by rw [h2 t (Nat.le_of_not_lt e)]; trivial⟩
end
end Go.Proofs.Ytahffcepagopmaa.Ab
