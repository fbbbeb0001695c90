/- Texts of the proof, joined: A9, A10, Ty. -/
import Derived.Test.YtabadfkikdefeaaProg
import Derived.Test.YtabadfkikdefeaaQ4
set_option linter.all false
set_option maxRecDepth 100000
set_option maxHeartbeats 6400000
namespace Go.Proofs.Ytabadfkikdefeaa.Ab
open Go.RowKit
def Eqv:AV → AV → Prop
 | .sl n sz f,y => ∃ g,y = .sl n sz g ∧ ∀ i,i < n → ∀ j,j < sz → Eqv (f i j) (g i j)
 | .nils,y=>y = .nils ∨ ∃ sz g,y = .sl 0 sz g
 | .int k n,y=>y = .int k n
 | .bool b,y=>y = .bool b
 | .flt b,y=>y = .flt b
 | .str b,y=>y = .str b
 | .nilp,y=>y = .nilp
 | .rp n f,y=>y = .rp n f
 | .ptr ..,_=>False
 | .h ..,_=>False
 | .ws ..,_=>False
 | .wu ..,_=>False
 | .wp ..,_=>False
 | .junk,y=>y = .junk
def vbc7:List AV → List AV → Prop
 | [],m=>m = []
 | a :: l,m => ∃ b r,m = b :: r ∧ (a = b ∨ Eqv a b) ∧ vbc7 l r
def kbc7:RV → RV → Prop
 | .c a,y => ∃ b,y = .c b ∧ (a = b ∨ Eqv a b)
 | .agg l,y => ∃ m,y = .agg m ∧ vbc7 l m
 | _,_=>False
def ogb7:List RV → List RV → Prop
 | [],m=>m = []
 | a :: l,m => ∃ b r,m = b :: r ∧ (a = b ∨ kbc7 a b) ∧ ogb7 l r
def xsb7:RV → RV → Prop
 | .tup l,y => ∃ m,y = .tup m ∧ ogb7 l m
 | x,y=>kbc7 x y
theorem af7.eqv {rho:Nat → Prop} {w:World}:∀ {x y:AV} {v:Value},af7 rho w x v → Eqv x y → af7 rho w y v
 | .sl n sz f,y,v,⟨a,b,off,c,h1,h2,h3,h4,h5⟩,⟨g,e,hg⟩=>by
  subst e
  refine ⟨a,b,off,c,h1,h2,h3,h4,fun i hi j hj => ?_⟩
  obtain ⟨u,hu,hc⟩:=h5 i hi j hj
  exact ⟨u,hu,hc.eqv (hg i hi j hj)⟩
 | .nils,y,v,h,e=>by
  rcases e with rfl | ⟨sz,g,rfl⟩
  ·exact h
  ·exact ⟨none,0,0,0,h,Nat.le_refl _,Nat.zero_le _,fun h=>absurd h (Nat.not_lt_zero _),fun i hi=>absurd hi (Nat.not_lt_zero _)⟩
 | .int ..,_,_,h,e=>by cases e; exact h
 | .bool _,_,_,h,e=>by cases e; exact h
 | .flt _,_,_,h,e=>by cases e; exact h
 | .str _,_,_,h,e=>by cases e; exact h
 | .nilp,_,_,h,e=>by cases e; exact h
 | .rp ..,_,_,h,e=>by cases e; exact h
 | .junk,_,_,_,e=>by cases e; trivial
 | .ptr ..,_,_,h,_=>h.elim
 | .h ..,_,_,h,_=>h.elim
theorem af7.eqv' {rho:Nat → Prop} {w:World} {x y:AV} {v:Value} (h:af7 rho w x v) (e:x = y ∨ Eqv x y):af7 rho w y v:=by
 rcases e with rfl | e
 ·exact h
 ·exact h.eqv e
def cj7 (rho:Nat → Prop) (w:World):RV → Value → Prop
 | .c a,v=>af7 rho w a v
 | .agg l,v => ∃ vs:List Value,v = .agg vs.toArray ∧ kf7 rho w l vs
 | .fn f caps,v => ∃ vs:List Value,v = .func (.func f) #[] vs.toArray ∧ kf7 rho w caps vs
 | .tup _,_=>False
 | .ifc ..,_=>False
def Con0RL (rho:Nat → Prop) (w:World):List RV → List Value → Prop
 | [],vs=>vs = []
 | a :: l,vs => ∃ v r,vs = v :: r ∧ cj7 rho w a v ∧ Con0RL rho w l r
def fk7 (rho:Nat → Prop) (w:World):RV → Value → Prop
 | .tup l,v => ∃ vs:List Value,v = .tuple vs.toArray ∧ Con0RL rho w l vs
 | x,v=>cj7 rho w x v
section
variable {rho rho':Nat → Prop} {w w':World}
theorem kf7.eqv:∀ {l m:List AV} {vs:List Value},kf7 rho w l vs → vbc7 l m → kf7 rho w m vs
 | [],_,_,h,e=>by cases e; exact h
 | _ :: _,_,_,⟨v,r,h,h1,h2⟩,⟨b,m,e,e1,e2⟩=>by subst e; exact ⟨v,r,h,h1.eqv' e1,kf7.eqv h2 e2⟩
theorem cj7.eqv:∀ {x y:RV} {v:Value},cj7 rho w x v → kbc7 x y → cj7 rho w y v
 | .c _,_,_,h,⟨b,e,e1⟩=>by subst e; exact af7.eqv' h e1
 | .agg _,_,_,⟨vs,h,h1⟩,⟨m,e,e1⟩=>by subst e; exact ⟨vs,h,h1.eqv e1⟩
theorem Con0RL.eqv:∀ {l m:List RV} {vs:List Value},Con0RL rho w l vs → ogb7 l m → Con0RL rho w m vs
 | [],_,_,h,e=>by cases e; exact h
 | _ :: _,_,_,⟨v,r,h,h1,h2⟩,⟨b,m,e,e1,e2⟩=>by
  subst e
  refine ⟨v,r,h, ?_,Con0RL.eqv h2 e2⟩
  rcases e1 with rfl | e1
  ·exact h1
  ·exact h1.eqv e1
theorem fk7.eqv {x y:RV} {v:Value} (h:fk7 rho w x v) (e:xsb7 x y):fk7 rho w y v:=by
 cases x with
 | ifc=>exact e.elim
 | tup l =>
  obtain ⟨m,rfl,e⟩:=e
  obtain ⟨vs,h1,h2⟩:=h
  exact ⟨vs,h1,h2.eqv e⟩
 | c a=>obtain ⟨b,rfl,e⟩:=e; exact af7.eqv' h e
 | agg l=>obtain ⟨b,rfl,e⟩:=e; obtain ⟨vs,h1,h2⟩:=h; exact ⟨vs,h1,h2.eqv e⟩
 | fn=>exact e.elim
theorem kf7.keep (hb:∀ b,rho b → w'.heap[b]? = w.heap[b]?) (hr:∀ b,rho b → rho' b):∀ {l:List AV} {vs:List Value},kf7 rho w l vs → kf7 rho' w' l vs
 | [],_,h=>h
 | _ :: _,_,⟨v,r,h,h1,h2⟩=>⟨v,r,h,h1.keep hb hr,kf7.keep hb hr h2⟩
theorem cj7.keep (hb:∀ b,rho b → w'.heap[b]? = w.heap[b]?) (hr:∀ b,rho b → rho' b):∀ {x:RV} {v:Value},cj7 rho w x v → cj7 rho' w' x v
 | .c _,_,h=>af7.keep hb hr h
 | .agg _,_,⟨vs,h,h1⟩=>⟨vs,h,h1.keep hb hr⟩
 | .fn ..,_,⟨vs,h,h1⟩=>⟨vs,h,h1.keep hb hr⟩
theorem Con0RL.keep (hb:∀ b,rho b → w'.heap[b]? = w.heap[b]?) (hr:∀ b,rho b → rho' b):∀ {l:List RV} {vs:List Value},Con0RL rho w l vs → Con0RL rho' w' l vs
 | [],_,h=>h
 | _ :: _,_,⟨v,r,h,h1,h2⟩=>⟨v,r,h,h1.keep hb hr,Con0RL.keep hb hr h2⟩
theorem fk7.keep (hb:∀ b,rho b → w'.heap[b]? = w.heap[b]?) (hr:∀ b,rho b → rho' b) {x:RV} {v:Value} (h:fk7 rho w x v):fk7 rho' w' x v:=by
 cases x with
 | ifc=>exact h.elim
 | tup l=>obtain ⟨vs,h1,h2⟩:=h; exact ⟨vs,h1,h2.keep hb hr⟩
 | c a=>exact cj7.keep (x := .c a) hb hr h
 | agg l=>exact cj7.keep (x := .agg l) hb hr h
 | fn f l=>exact cj7.keep (x := .fn f l) hb hr h
variable {M:Mp} {H:List Root}
theorem kf7.up:∀ {l:List AV} {vs:List Value},kf7 M.rho w l vs → ne7 M H w l vs
 | [],_,h=>h
 | _ :: _,_,⟨v,r,h,h1,h2⟩=>⟨v,r,h,Con.of0 h1,kf7.up h2⟩
theorem cj7.up:∀ {x:RV} {v:Value},cj7 M.rho w x v → dc7 M H w x v
 | .c _,_,h=>Con.of0 h
 | .agg _,_,⟨vs,h,h1⟩=>⟨vs,h,h1.up⟩
 | .fn ..,_,⟨vs,h,h1⟩=>⟨vs,h,h1.up⟩
theorem Con0RL.up:∀ {l:List RV} {vs:List Value},Con0RL M.rho w l vs → kd7 M H w l vs
 | [],_,h=>h
 | _ :: _,_,⟨v,r,h,h1,h2⟩=>⟨v,r,h,h1.up,Con0RL.up h2⟩
theorem fk7.up {x:RV} {v:Value} (h:fk7 M.rho w x v):dc7 M H w x v:=by
 cases x with
 | ifc=>exact h.elim
 | tup l=>obtain ⟨vs,h1,h2⟩:=h; exact ⟨vs,h1,h2.up⟩
 | c a=>exact cj7.up (x := .c a) h
 | agg l=>exact cj7.up (x := .agg l) h
 | fn f l=>exact cj7.up (x := .fn f l) h
end
def PCall (P:Program) (f:FuncId) (args:List RV) (post:RV → Prop):Prop :=
 Enters P f ∧ ∀ (rho:Nat → Prop) (w:World) (vs:List Value),tr7 rho w → (∀ b,rho b → b < w.heap.size) → Con0RL rho w args vs →
  Calls P f vs.toArray w fun e w' => ∃ r v rho',e = .returned v ∧ post r ∧ fk7 rho' w' r v ∧ (∀ b,rho' b → rho b ∨ (w.heap.size ≤ b ∧ b < w'.heap.size)) ∧ Below w.heap.size w w'
def evb7 (H:List Root):RV → RV
 | .c a => .c (frz H a)
 | .agg l => .agg (zp7 H l)
 | .fn f l => .fn f (zp7 H l)
 | .tup l => .tup l
 | .ifc t x => .ifc t x
def mr7 (H:List Root):List RV → List RV
 | []=>[]
 | a :: l=>evb7 H a :: mr7 H l
def zub7 (H:List Root):RV → RV
 | .tup l => .tup (mr7 H l)
 | x=>evb7 H x
def okR (H:List Root):RV → Prop
 | .c a=>yf7 H [a]
 | .agg l=>yf7 H l
 | .fn _ l=>yf7 H l
 | .tup _=>False
 | .ifc .. => False
def onb7 (H:List Root):List RV → Prop
 | []=>True
 | a :: l=>okR H a ∧ onb7 H l
def okT (H:List Root):RV → Prop
 | .tup l=>onb7 H l
 | x=>okR H x
def bcb7 (H:List Root):RV → List Root
 | .c a=>frzH H [a]
 | .agg l=>frzH H l
 | .fn _ l=>frzH H l
 | .tup _=>H
 | .ifc .. => H
def bl7:List Root → List RV → List Root
 | H,[]=>H
 | H,a :: l=>bl7 (bcb7 H a) l
section
variable {P:Program} {ty:Ty} {E:Env} {nt:Nat} {M M':Mp} {H:List Root} {σ σ':AS} {a a':Act} {w w':World}
theorem uo7:∀ (l:List AV) {H:List Root},(∀ id st len,AV.h id st len ∈ l → ∃ fz t sz r,da7 H id = .live fz t sz r) → (∀ x,frz (frzH H l) x = frz H x) ∧ (∀ m,yf7 H m → yf7 (frzH H l) m) ∧ ∀ id,(∃ fz t sz r,da7 H id = .live fz t sz r) → ∃ fz t sz r,da7 (frzH H l) id = .live fz t sz r
 | [],_,_=>⟨fun _=>rfl,fun _ h=>h,fun _ h=>h⟩
 | a :: l,H,h=>by
  have plain:frzH H (a :: l) = frzH H l → (∀ x,frz (frzH H (a :: l)) x = frz H x) ∧ (∀ m,yf7 H m → yf7 (frzH H (a :: l)) m) ∧ ∀ id,(∃ fz t sz r,da7 H id = .live fz t sz r) → ∃ fz t sz r,da7 (frzH H (a :: l)) id = .live fz t sz r:=fun e=>by
   obtain ⟨h1,h2,h3⟩:=uo7 l (H:=H) (fun id st len hm=>h id st len (List.mem_cons_of_mem _ hm))
   rw [e]
   exact ⟨h1,h2,h3⟩
  cases a with
  | h id st len =>
   obtain ⟨fz,t,sz,r,hr⟩:=h id st len (List.mem_cons_self ..)
   have hlive:∀ id',(∃ fz t sz r,da7 H id' = .live fz t sz r) → ∃ fz t sz r,da7 (ia7 H id (da7 H id).mark) id' = .live fz t sz r:=fun id' ⟨f,t2,s2,r2,h2⟩=>by
    rw [gk7 hr]
    by_cases e:id' = id
    ·exact ⟨true,t,sz,r,by rw [if_pos e]⟩
    ·exact ⟨f,t2,s2,r2,by rw [if_neg e]; exact h2⟩
   obtain ⟨h1,h2,h3⟩:=uo7 l (H:=ia7 H id (da7 H id).mark) (fun id' st len hm=>hlive _ (h id' st len (List.mem_cons_of_mem _ hm)))
   exact ⟨fun x=>by simp only [frzH]; rw [h1,hfb7 hr],fun m hm=>h2 m (ul7 hr m hm),fun id' h'=>h3 id' (hlive id' h')⟩
  | _=>exact plain rfl
theorem fc7:∀ {l:List AV},yf7 H l → ∀ id st len,AV.h id st len ∈ l → ∃ fz t sz r,da7 H id = .live fz t sz r
 | a :: l,h,id,st,len,hm=>by
  rcases List.mem_cons.1 hm with rfl | hm2
  ·have:=h.1
   unfold qmb7 at this
   split at this
   ·rename_i fz t sz r hr; exact ⟨fz,t,sz,r,hr⟩
   ·exact this.elim
  ·cases a with
   | h=>exact fc7 h.2 id st len hm2
   | ptr=>exact h.elim
   | junk=>exact h.elim
   | ws=>exact h.elim
   | wu=>exact h.elim
   | wp=>exact h.elim
   | int=>exact fc7 (l:=l) h id st len hm2
   | bool=>exact fc7 (l:=l) h id st len hm2
   | flt=>exact fc7 (l:=l) h id st len hm2
   | str=>exact fc7 (l:=l) h id st len hm2
   | nilp=>exact fc7 (l:=l) h id st len hm2
   | nils=>exact fc7 (l:=l) h id st len hm2
   | sl=>exact fc7 (l:=l) h id st len hm2
   | rp=>exact fc7 (l:=l) h id st len hm2
theorem kz7 {H':List Root} (h:∀ x,frz H' x = frz H x):∀ l:List AV,zp7 H' l = zp7 H l
 | []=>rfl
 | x :: l=>by simp [zp7,h,kz7 h l]
theorem yu7 {H':List Root} (h:∀ x,frz H' x = frz H x):∀ l:List RV,mr7 H' l = mr7 H l
 | []=>rfl
 | x :: l=>by cases x <;> simp [mr7,evb7,h,kz7 h,yu7 h l]
theorem ox7 (h:Rel E M H w) {x:RV} {v:Value} (ho:okR H x) (hc:dc7 M H w x v):∃ M',(M'.phi = M.phi ∧ M'.off = M.off) ∧ (∀ b,M.rho b → M'.rho b) ∧ Rel E M' (bcb7 H x) w ∧ Kp M H w M' (bcb7 H x) w ∧ cj7 M'.rho w (evb7 H x) v ∧
  (∀ y,frz (bcb7 H x) y = frz H y) ∧ (∀ m,yf7 H m → yf7 (bcb7 H x) m):=by
 cases x with
 | ifc=>exact ho.elim
 | c a =>
  obtain ⟨M',e1,e2,e3,e4,e5⟩:=cs7 [a] h ho
  obtain ⟨f1,f2, -⟩:=uo7 [a] (fc7 ho)
  obtain ⟨u,r,e,c1, -⟩:=e5 [v] ⟨v,[],rfl,hc,rfl⟩
  cases e
  exact ⟨M',e1,e2,e3,e4,c1,f1,f2⟩
 | agg l =>
  obtain ⟨M',e1,e2,e3,e4,e5⟩:=cs7 l h ho
  obtain ⟨f1,f2, -⟩:=uo7 l (fc7 ho)
  obtain ⟨vs,rfl,c⟩:=hc
  exact ⟨M',e1,e2,e3,e4,⟨vs,rfl,e5 vs c⟩,f1,f2⟩
 | fn f l =>
  obtain ⟨M',e1,e2,e3,e4,e5⟩:=cs7 l h ho
  obtain ⟨f1,f2, -⟩:=uo7 l (fc7 ho)
  obtain ⟨vs,rfl,c⟩:=hc
  exact ⟨M',e1,e2,e3,e4,⟨vs,rfl,e5 vs c⟩,f1,f2⟩
 | tup l=>exact ho.elim
theorem gr7 {H':List Root} (hm:∀ m,yf7 H m → yf7 H' m):∀ {l:List RV},onb7 H l → onb7 H' l
 | [],_=>trivial
 | .c _ :: _,h=>⟨hm _ h.1,gr7 hm h.2⟩
 | .agg _ :: _,h=>⟨hm _ h.1,gr7 hm h.2⟩
 | .fn .. :: _,h=>⟨hm _ h.1,gr7 hm h.2⟩
theorem tq7:∀ (l:List RV) {M:Mp} {H:List Root} {vs:List Value},Rel E M H w → onb7 H l → kd7 M H w l vs → ∃ M',(M'.phi = M.phi ∧ M'.off = M.off) ∧ (∀ b,M.rho b → M'.rho b) ∧ Rel E M' (bl7 H l) w ∧ Kp M H w M' (bl7 H l) w ∧ Con0RL M'.rho w (mr7 H l) vs
 | [],M,H,vs,h,_,hc=>⟨M,⟨rfl,rfl⟩,fun _ h=>h,h,Kp.refl _ _ _,hc⟩
 | x :: l,M,H,_,h,ho,⟨v,r,e,h1,h2⟩=>by
  subst e
  obtain ⟨M1,e1,e2,e3,e4,e5,e6,e7⟩:=ox7 h ho.1 h1
  obtain ⟨M2,k1,k2,k3,k4,k5⟩:=tq7 l e3 (gr7 e7 ho.2) (e4.RL h2)
  refine ⟨M2,⟨k1.1.trans e1.1,k1.2.trans e1.2⟩,fun b hb=>k2 b (e2 b hb),k3,e4.trans k4,v,r,rfl,e5.keep (fun _ _=>rfl) k2, ?_⟩
  rwa [yu7 e6] at k5
theorem njb7 (h:Rel E M H w) {x:RV} {v:Value} (ho:okT H x) (hc:dc7 M H w x v):∃ M' H',Rel E M' H' w ∧ fk7 M'.rho w (zub7 H x) v:=by
 cases x with
 | ifc=>exact ho.elim
 | tup l =>
  obtain ⟨vs,rfl,c⟩:=hc
  obtain ⟨M', -, -,e3, -,e5⟩:=tq7 l h ho c
  exact ⟨M',_,e3,vs,rfl,e5⟩
 | c a=>obtain ⟨M', -, -,e3, -,e5, -⟩:=ox7 (x := .c a) h ho hc; exact ⟨M',_,e3,e5⟩
 | agg l=>obtain ⟨M', -, -,e3, -,e5, -⟩:=ox7 (x := .agg l) h ho hc; exact ⟨M',_,e3,e5⟩
 | fn f l=>obtain ⟨M', -, -,e3, -,e5, -⟩:=ox7 (x := .fn f l) h ho hc; exact ⟨M',_,e3,e5⟩
section
variable (ty)
def uyb7 (σ:AS):ResultVar → Vo
 | .tmp t=>((lk σ.tm t).1 = true,(lk σ.tm t).2)
 | .cell a t=>((lk σ.tm a).1 = true ∧ (sbb7 (ty t) σ.H (lk σ.tm a).2).1,(sbb7 (ty t) σ.H (lk σ.tm a).2).2)
def eu7 (σ:AS):List ResultVar → Prop × List RV
 | []=>(True,[])
 | r :: l=>((uyb7 ty σ r).1 ∧ (eu7 σ l).1,(uyb7 ty σ r).2 :: (eu7 σ l).2)
def one:List RV → RV
 | [x]=>x
 | l => .tup l
def czb7 (rs:List ResultVar) (K:RV → List Root → Prop):Exit → AS → Prop
 | .ret,σ=>(eu7 ty σ rs).1 ∧ K (one (eu7 ty σ rs).2) σ.H
 | .normal,σ=>(eu7 ty σ rs).1 ∧ K (one (eu7 ty σ rs).2) σ.H
 | _,_=>False
end
def dbb7 (a:Act):ResultVar → Sem Value
 | .tmp t=>pure (a.tmps.getD t undef)
 | .cell x t=>do loadVar t (← asAddr (a.tmps.getD x undef))
theorem usb7 (hT:ph7 P ty) (h:St E nt M σ a w) {r:ResultVar} (ho:(uyb7 ty σ r).1):∃ v,dc7 M σ.H w (uyb7 ty σ r).2 v ∧ (dbb7 a r).run P w = .ok v w:=by
 cases r with
 | tmp t=>exact ⟨_,h.tms t ho,rfl⟩
 | cell x t =>
  obtain ⟨h1,h2⟩:=ho
  have hc:=h.tms x h1
  obtain ⟨v,k1,k2⟩:=xhb7 hT h.rel t hc h2
  refine ⟨v,k1, ?_⟩
  have k3:=k2 w Same.refl
  show (do loadVar t (← asAddr (a.tmps.getD x undef)):Sem Value).run P w = _
  obtain ⟨u,hu⟩:∃ u,u = a.tmps.getD x undef:=⟨_,rfl⟩
  rw [← hu] at k3 ⊢
  clear hu
  cases u <;> first | (simp [Instr.loadAt,Instr.sureAddr,stuck] at k3; done) | skip
  rename_i p
  cases p with
  | none=>simp [Instr.loadAt,Instr.sureAddr,stuck] at k3
  | some ad =>
   simp only [Instr.loadAt,Instr.sureAddr] at k3
   simpa [asAddr] using k3
theorem wjb7 (hT:ph7 P ty) (h:St E nt M σ a w):∀ (rs:List ResultVar),(eu7 ty σ rs).1 → ∃ vs,kd7 M σ.H w (eu7 ty σ rs).2 vs ∧ (rs.mapM (dbb7 a)).run P w = .ok vs w
 | [],_=>⟨[],rfl,rfl⟩
 | r :: rs,ho=>by
  obtain ⟨v,h1,h2⟩:=usb7 hT h ho.1
  obtain ⟨vs,h3,h4⟩:=wjb7 hT h rs ho.2
  refine ⟨v :: vs,⟨v,vs,rfl,h1,h3⟩, ?_⟩
  rw [List.mapM_cons,Sem.run_bind,h2]
  simp only [Result.andThen]
  rw [Sem.run_bind,h4]
  rfl
theorem ds7:∀ {l:List RV} {vs:List Value},kd7 M H w l vs → vs.length = l.length
 | [],_,h=>by cases h; rfl
 | _ :: _,_,⟨v,r,e,_,h⟩=>by subst e; simp [ds7 h]
theorem tu7 (hT:ph7 P ty) (h:St E nt M σ a w) {fn:Func} {rs:List ResultVar} (hr:fn.results.toList = rs) (ho:(eu7 ty σ rs).1):∃ v,dc7 M σ.H w (one (eu7 ty σ rs).2) v ∧ (results fn a.tmps).run P w = .ok v w:=by
 obtain ⟨vs,h1,h2⟩:=wjb7 hT h rs ho
 have hrun:(results fn a.tmps).run P w = .ok (if h:vs.toArray.size = 1 then vs.toArray[0] else .tuple vs.toArray) w:=by
  have hfun:∀ f:ResultVar → Sem Value,(∀ r,f r = dbb7 a r) → fn.results.mapM f = fn.results.mapM (dbb7 a):=fun f hf=>by rw [funext hf]
  unfold results
  rw [Sem.run_bind,hfun _ (fun r=>by cases r <;> rfl),Array.mapM_eq_mapM_toList,hr]
  have:((List.toArray <$> rs.mapM (dbb7 a)):Sem (Array Value)).run P w = .ok vs.toArray w:=by
   rw [map_eq_pure_bind,Sem.run_bind,h2]; rfl
  rw [this]
  rfl
 refine ⟨_, ?_,hrun⟩
 have hl:=ds7 h1
 generalize (eu7 ty σ rs).2 = l at h1 hl
 match l,vs,h1,hl with
 | [x],[v],⟨v',r,e,c1,c2⟩,_=>cases e; exact c1
 | [],[],h1,_=>exact ⟨[],rfl,h1⟩
 | x :: y :: l,v :: u :: vs,h1,_ =>
  have : ¬ (v :: u :: vs).toArray.size = 1:=by simp
  rw [dif_neg this]
  exact ⟨_,rfl,h1⟩
def ekb7:Nat → List RV → Tm
 | _,[]=>[]
 | k,x :: l=>(k,true,x) :: ekb7 (k + 1) l
theorem hdb7:∀ (l:List RV) (k t:Nat) (vs:List Value),kd7 M H w l vs → (lk (ekb7 k l) t).1 = true ∧ (∀ v,(k ≤ t ∧ vs[t - k]? = some v) → dc7 M H w (lk (ekb7 k l) t).2 v) ∧ ((t < k ∨ k + vs.length ≤ t) → (lk (ekb7 k l) t).2 = .c .junk)
 | [],k,t,vs,h=>by cases h; exact ⟨rfl,fun v h=>by simp at h,fun _=>rfl⟩
 | x :: l,k,t,_,⟨v,r,e,h1,h2⟩=>by
  subst e
  simp only [ekb7,lk]
  by_cases e:k = t
  ·subst e
   rw [if_pos rfl]
   exact ⟨rfl,fun u hu=>by simp at hu; subst hu; exact h1,fun h=>by simp at h; omega⟩
  ·rw [if_neg e]
   obtain ⟨i1,i2,i3⟩:=hdb7 l (k + 1) t r h2
   refine ⟨i1,fun u ⟨hu1,hu2⟩=>i2 u ⟨by omega, ?_⟩,fun h=>i3 (by simp at h; omega)⟩
   rw [show t - k = (t - (k + 1)) + 1 by omega] at hu2
   simpa using hu2
theorem St.enter (h:Rel E M H w) {args:List RV} {vs:List Value} (hc:kd7 M H w args vs) {n:Nat} (hn:args.length ≤ n):St E n M ⟨ekb7 0 args,H⟩ ⟨vs.toArray ++ Array.replicate (n - vs.toArray.size) undef,[]⟩ w:=by
 have hl:=ds7 hc
 refine ⟨h,fun t ht => ?_,fun t ht => ?_,by simp; omega,rfl⟩
 ·obtain ⟨i1,i2,i3⟩:=hdb7 args 0 t vs hc
  show dc7 M H w (lk (ekb7 0 args) t).2 ((vs.toArray ++ Array.replicate (n - vs.toArray.size) undef).getD t undef)
  by_cases hlt:t < vs.length
  ·have:(vs.toArray ++ Array.replicate (n - vs.toArray.size) undef).getD t undef = vs[t]:=by
    rw [Array.getD_eq_getD_getElem?,Array.getElem?_append_left (by simpa using hlt)]
    simp [hlt]
   rw [this]
   exact i2 _ ⟨Nat.zero_le _,by simp [hlt]⟩
  ·rw [i3 (.inr (by omega))]; trivial
 ·obtain ⟨i1, -⟩:=hdb7 args 0 t vs hc
  have ht':(lk (ekb7 0 args) t).1 = false:=ht
  rw [i1] at ht'; cases ht'
def rbc7 (post:RV → Prop) (r:RV) (H:List Root):Prop:=okT H r ∧ ∃ r',xsb7 (zub7 H r) r' ∧ post r'
theorem rg7 (hT : ph7 P ty) (hm : P.follows .mixedOrders = true) {f : FuncId} {fn : Func} {c : Code} (ord : Nat → List Nat × Nat × Option Nat) (hf : P.funcs[f]? = some fn) (hb : fn.body = some c) (hname : (fn.name == "runtime.NumGoroutine") = false) {n : Nat} (hnt : fn.ntmps = n) {rs : List ResultVar} (hr : fn.results.toList = rs)
  (hok:okC n ord c = true) {args:List RV} (hn:args.length ≤ n) {post:RV → Prop}
  (h:awp P ty ord c (czb7 ty rs (rbc7 post)) ⟨ekb7 0 args,[]⟩):PCall P f args post:=by
 refine ⟨⟨fn,c,hf,hname,hb⟩,fun rho w vs hgl hrho hc=>calls_of_wp hf hb ?_⟩
 have hrel:Rel ⟨w,rho⟩ ⟨fun _=>0,fun _=>0,rho,fun _=>none⟩ [] w:=⟨Below.refl _ _,fun _ _ _ _ _ h=>(by cases h),fun _ _ _ _ _ h=>(by cases h),fun _ _ _ _ h=>(by cases h),fun _ _ _ _ h=>(by cases h),fun _ _ _ _ _ _ _ _ h=>(by cases h),hrho,⟨fun b hb => .inl hb,hgl⟩,⟨fun _ _ h=>(by cases h),fun _ _ _ _ _ _ _ h=>(by cases h),fun _ _ _ h=>(by cases h)⟩⟩
 have hst:=St.enter hrel (Con0RL.up (M:=⟨fun _=>0,fun _=>0,rho,fun _=>none⟩) (H:=[]) hc) (n:=n) hn
 rw [hnt]
 refine wp_mono (tm7 hT hm c hok hst h) fun e a' w' ⟨hp,M',σ',q1,q2,q3⟩ => ?_
 have fin:(eu7 ty σ' rs).1 ∧ (okT σ'.H (one (eu7 ty σ' rs).2) ∧ ∃ r',xsb7 (zub7 σ'.H (one (eu7 ty σ' rs).2)) r' ∧ post r') → a'.defers = [] ∧ ∃ v,(results fn a'.tmps).run P w' = .ok v w' ∧ ∃ r v' rho',Ending.returned v = .returned v' ∧ post r ∧ fk7 rho' w' r v' ∧ (∀ b,rho' b → rho b ∨ (w.heap.size ≤ b ∧ b < w'.heap.size)) ∧ Below w.heap.size w w':=by
  rintro ⟨h1,h2,r',h3,h4⟩
  obtain ⟨v,k1,k2⟩:=tu7 hT q1 hr h1
  obtain ⟨M2,H2,k3,k4⟩:=njb7 q1.rel h2 k1
  refine ⟨q1.df,v,k2,r',v,M2.rho,rfl,h4,k4.eqv h3,fun b hb => ?_,q1.rel.bel⟩
  rcases k3.src.1 b hb with h | h
  ·exact .inl h
  ·exact .inr ⟨h,k3.rlt b hb⟩
 cases e with
 | normal=>exact fin q3
 | ret=>exact fin q3
 | panic ch=>exact absurd rfl (hp ch)
 | exit id=>exact q3.elim
 | goto l=>exact q3.elim
 | outgrown=>exact q3.elim
def AV.scal:AV → Bool
 | .int .. | .bool _ | .flt _ | .str _ | .nilp | .nils=>true
 | _=>false
def kob7:List AV → Bool
 | []=>true
 | a :: l=>a.scal && kob7 l
def hsb7:RV → Bool
 | .c a=>a.scal
 | .agg l=>kob7 l
 | _=>false
def cfb7:List RV → Bool
 | []=>true
 | a :: l=>hsb7 a && cfb7 l
def uob7:RV → Bool
 | .tup l=>cfb7 l
 | x=>hsb7 x
theorem aeb7 {rho rho':Nat → Prop} {x:AV} {v:Value} (hs:x.scal = true) (h:af7 rho w x v):af7 rho' w' x v:=by
 cases x <;> first | exact h | cases hs
theorem qz7 {rho rho':Nat → Prop}:∀ {l:List AV} {vs:List Value},kob7 l = true → kf7 rho w l vs → kf7 rho' w' l vs
 | [],_,_,h=>h
 | _ :: _,_,hs,⟨v,r,e,h1,h2⟩=>by
  simp only [kob7,Bool.and_eq_true] at hs
  exact ⟨v,r,e,aeb7 hs.1 h1,qz7 hs.2 h2⟩
theorem gt7 {rho rho':Nat → Prop} {x:RV} {v:Value} (hs:hsb7 x = true) (h:cj7 rho w x v):cj7 rho' w' x v:=by
 cases x with
 | c a=>exact aeb7 hs h
 | agg l=>obtain ⟨vs,e,h⟩:=h; exact ⟨vs,e,qz7 hs h⟩
 | fn=>cases hs
 | tup=>cases hs
 | ifc=>cases hs
theorem ov7 {rho rho':Nat → Prop}:∀ {l:List RV} {vs:List Value},cfb7 l = true → Con0RL rho w l vs → Con0RL rho' w' l vs
 | [],_,_,h=>h
 | _ :: _,_,hs,⟨v,r,e,h1,h2⟩=>by
  simp only [cfb7,Bool.and_eq_true] at hs
  exact ⟨v,r,e,gt7 hs.1 h1,ov7 hs.2 h2⟩
theorem fab7 {rho rho':Nat → Prop} {x:RV} {v:Value} (hs:uob7 x = true) (h:fk7 rho w x v):fk7 rho' w' x v:=by
 cases x with
 | ifc=>cases hs
 | tup l=>obtain ⟨vs,e,h⟩:=h; exact ⟨vs,e,ov7 hs h⟩
 | c a=>exact gt7 (x := .c a) hs h
 | agg l=>exact gt7 (x := .agg l) hs h
 | fn f l=>cases hs
theorem lw7 {pu:Pu} {f:FuncId} {args args':List RV} {post:RV → Prop} {K:RV → List Root → Prop} (hp:PCall P f args' post) (ho:onb7 H args) (he:ogb7 (mr7 H args) args') (hs:∀ r,post r → uob7 r = true) (hK:∀ r,post r → K r H):go7 P pu f args H K:=by
 refine ⟨hp.1,fun E M w vs h hc => ?_⟩
 obtain ⟨M1,e1,e2,e3,e4,e5⟩:=tq7 args h ho hc
 refine (hp.2 M1.rho w vs e3.glob e3.rlt (e5.eqv he)).mono ?_
 rintro e w' ⟨r,v,rho',rfl,h1,h2,h3,h4⟩
 exact ⟨M,H,r,v,rfl,h.below h4,Kp.below h h4,fk7.up (fab7 (hs r h1) h2),fun _ _=>qh7.below h4,Nat.le_refl _,hK r h1⟩
theorem kp7:∀ l:List RV,ogb7 l l
 | []=>rfl
 | _ :: l=>⟨_,_,rfl, .inl rfl,kp7 l⟩
theorem ah7 {pu:Pu} {f:FuncId} {args args':List RV} {post:RV → Prop} {K:RV → List Root → Prop} (hp:PCall P f args' post) (ho:onb7 H args) (he:mr7 H args = args') (hs:∀ r,post r → uob7 r = true) (hK:∀ r,post r → K r H):go7 P pu f args H K :=
 lw7 hp ho (by rw [he]; exact kp7 _) hs hK
def in7 (H:List Root):AV → AV
 | .ptr id n i o=>match da7 H id with
  | .live _ _ sz (.box l) => .rp (sz - o) (fun j=>nth l (o + j))
  | _ => .junk
 | .h id st len=>frz H (.h id st len)
 | a=>a
def frL:List AV → Bool
 | []=>true
 | a :: l=>a.fr && frL l
def iab7 (H:List Root):AV → Prop
 | .ptr id n i o=>match da7 H id with
  | .live _ _ sz (.box l)=>(n = 1 ∧ i = 0 ∧ l.length = sz) ∧ frL l = true
  | _=>False
 | .h id st len=>qmb7 H id st len
 | a=>a.fr = true
def apb7 (H:List Root):List AV → List AV
 | []=>[]
 | a :: l=>in7 H a :: apb7 H l
def fx7 (H:List Root):List AV → Prop
 | []=>True
 | a :: l=>iab7 H a ∧ fx7 H l
def jp7 (H:List Root):RV → RV
 | .c a => .c (in7 H a)
 | .agg l => .agg (apb7 H l)
 | .fn f l => .fn f (apb7 H l)
 | .tup l => .tup l
 | .ifc t x => .ifc t x
def nlb7 (H:List Root):RV → Prop
 | .c a=>iab7 H a
 | .agg l=>fx7 H l
 | .fn _ l=>fx7 H l
 | .tup _=>False
 | .ifc .. => False
def lh7 (H:List Root):List RV → List RV
 | []=>[]
 | a :: l=>jp7 H a :: lh7 H l
def gx7 (H:List Root):List RV → Prop
 | []=>True
 | a :: l=>nlb7 H a ∧ gx7 H l
def vwb7 (M:Mp) (H:List Root) (b:Nat):Prop:=M.rho b ∨ ∃ id fz ty sz r,da7 H id = .live fz ty sz r ∧ M.phi id = b
theorem pqb7 {M:Mp} {H:List Root} {w:World} {rho:Nat → Prop} {x:AV} {v:Value} (hx:x.fr = true) (hr:∀ b,M.rho b → rho b) (h:Con M H w x v):af7 rho w x v:=by
 cases x <;> first | (cases hx; done) | exact af7.keep (fun _ _=>rfl) hr h
theorem jqb7:∀ {l:List AV} {j:Nat},frL l = true → j < l.length → (nth l j).fr = true
 | a :: l,0,h,_=>by simp only [frL,Bool.and_eq_true] at h; exact h.1
 | a :: l,j + 1,h,hj=>by simp only [frL,Bool.and_eq_true] at h; exact jqb7 (l:=l) h.2 (by simpa using hj)
theorem lib7 (h:Rel E M H w) {x:AV} {v:Value} (ho:iab7 H x) (hc:Con M H w x v):af7 (vwb7 M H) w (in7 H x) v:=by
 cases x with
 | ptr id n i o =>
  simp only [iab7] at ho
  simp only [in7]
  split at ho
  ·rename_i fz t sz l hr
   obtain ⟨⟨rfl,rfl,hl⟩,hf⟩:=ho
   have hv:=(hc.2 _ _ _ _ hr).2 rfl
   obtain ⟨cur,c1,c2,c3,c4,c5,c6⟩:=h.row _ _ _ _ _ hr
   refine ⟨M.phi id,M.off id + o,by rw [hv]; simp, .inr ⟨id,fz,t,sz,_,hr,rfl⟩,fun j hj => ?_⟩
   obtain ⟨u,u1,u2,u3⟩:=c6 0 Nat.one_pos (o + j) (by omega)
   have u3:Con M H w (nth l (o + j)) u:=u3
   refine ⟨u, ?_,pqb7 (jqb7 hf (by omega)) (fun _ => .inl) u3⟩
   simp only [World.cell?,c1]
   rw [Nat.add_assoc]
   simpa using u1
  ·exact ho.elim
 | h id st len =>
  simp only [iab7,qmb7] at ho
  split at ho
  ·rename_i fz t sz r hr
   obtain ⟨e,hb⟩:=ho
   show af7 _ w (frz H (.h id st len)) v
   simp only [frz,hr]
   obtain ⟨cap,cur,ad,rfl,k1,k2,k3,k4,k7⟩:=(hc.2 _ _ _ _ hr).2 e
   obtain ⟨cur2,c1,c2,c3,c4,c5,c6⟩:=h.row _ _ _ _ _ hr
   refine ⟨_,M.phi id,M.off id + st * sz,cap,rfl,k1,k2,fun _=>⟨congrArg some (k7 (by omega)), .inr ⟨id,fz,t,sz,r,hr,rfl⟩⟩,fun i hi j hj => ?_⟩
   obtain ⟨u,u1,u2,u3⟩:=c6 (st + i) (by omega) j hj
   unfold yk7 at u3
   rw [hb] at u3
   refine ⟨u, ?_,af7.keep (fun _ _=>rfl) (fun _ => .inl) (by simpa using u3)⟩
   rw [show M.off id + st * sz + i * sz + j = M.off id + (st + i) * sz + j by rw [Nat.add_mul]; omega]
   simp [World.cell?,c1,u1]
  ·exact ho.elim
 | _=>exact pqb7 ho (fun _ => .inl) hc
theorem jx7 (h:Rel E M H w):∀ {l:List AV} {vs:List Value},fx7 H l → ne7 M H w l vs → kf7 (vwb7 M H) w (apb7 H l) vs
 | [],_,_,hc=>hc
 | _ :: _,_,ho,⟨v,r,e,h1,h2⟩=>⟨v,r,e,lib7 h ho.1 h1,jx7 h ho.2 h2⟩
theorem ypb7 (h:Rel E M H w) {x:RV} {v:Value} (ho:nlb7 H x) (hc:dc7 M H w x v):cj7 (vwb7 M H) w (jp7 H x) v:=by
 cases x with
 | c a=>exact lib7 h ho hc
 | agg l=>obtain ⟨vs,e,hc⟩:=hc; exact ⟨vs,e,jx7 h ho hc⟩
 | fn f l=>obtain ⟨vs,e,hc⟩:=hc; exact ⟨vs,e,jx7 h ho hc⟩
 | tup=>exact ho.elim
 | ifc=>exact ho.elim
theorem cab7 (h:Rel E M H w):∀ {l:List RV} {vs:List Value},gx7 H l → kd7 M H w l vs → Con0RL (vwb7 M H) w (lh7 H l) vs
 | [],_,_,hc=>hc
 | _ :: _,_,ho,⟨v,r,e,h1,h2⟩=>⟨v,r,e,ypb7 h ho.1 h1,cab7 h ho.2 h2⟩
theorem bh7 {pu:Pu} {f:FuncId} {args args':List RV} {post:RV → Prop} {K:RV → List Root → Prop} (hp:PCall P f args' post) (ho:gx7 H args) (he:lh7 H args = args') (hs:∀ r,post r → uob7 r = true) (hK:∀ r,post r → K r H):go7 P pu f args H K:=by
 refine ⟨hp.1,fun E M w vs h hc => ?_⟩
 have e5:=cab7 h ho hc
 rw [he] at e5
 refine (hp.2 (vwb7 M H) w vs (h.glob.mono fun _ => .inl) (fun b hb => ?_) e5).mono ?_
 ·rcases hb with hb | ⟨id,fz,t,sz,r,hr,rfl⟩
  ·exact h.rlt b hb
  ·exact h.lt hr
 ·rintro e w' ⟨r,v,rho',rfl,h1,h2,h3,h4⟩
  exact ⟨M,H,r,v,rfl,h.below h4,Kp.below h h4,fk7.up (fab7 (hs r h1) h2),fun _ _=>qh7.below h4,Nat.le_refl _,hK r h1⟩
theorem nv7:∀ (l:List RV) (H:List Root),(bl7 H l).length = H.length
 | [],_=>rfl
 | x :: l,H=>by
  simp only [bl7]
  rw [nv7 l]
  cases x <;> simp [bcb7,nl7]
theorem ytb7 {pu:Pu} {f:FuncId} {args args':List RV} {post:RV → Prop} {K:RV → List Root → Prop} (hp:PCall P f args' post) (ho:onb7 H args) (he:ogb7 (mr7 H args) args') (hK:∀ r,post r → K r (bl7 H args)):go7 P pu f args H K:=by
 refine ⟨hp.1,fun E M w vs h hc => ?_⟩
 obtain ⟨M1,e1,e2,e3,e4,e5⟩:=tq7 args h ho hc
 refine (hp.2 M1.rho w vs e3.glob e3.rlt (e5.eqv he)).mono ?_
 rintro e w' ⟨r,v,rho',rfl,h1,h2,h3,h4⟩
 have h5:=e3.below h4
 have h6:=Kp.below e3 h4
 have hkp:Kp M1 (bl7 H args) w' ⟨M1.phi,M1.off,fun b=>M1.rho b ∨ (w.heap.size ≤ b ∧ b < w'.heap.size),M1.tau⟩ (bl7 H args) w':=by
  intro x v c
  cases x with
  | ptr=>exact c
  | h=>exact c
  | ws=>exact c
  | wu=>exact c
  | wp=>exact c
  | junk=>trivial
  | _=>exact af7.keep (fun _ _=>rfl) (fun _ h => .inl h) c
 refine ⟨⟨M1.phi,M1.off,fun b=>M1.rho b ∨ (w.heap.size ≤ b ∧ b < w'.heap.size),M1.tau⟩,bl7 H args,r,v,rfl, ?_,(e4.trans h6).trans hkp,fk7.up (fk7.keep (fun _ _=>rfl) h3 h2),fun _ _=>qh7.below h4,by rw [nv7]; exact Nat.le_refl _,hK r h1⟩
 refine ⟨h5.bel,h5.low,fun id fz t sz q hr=>(h5.row id fz t sz q hr).keep hkp (fun _ _=>rfl) (fun _ h => .inl h) rfl,fun id t sz q hr => .inl (h5.froz id t sz q hr),fun id t sz q hr => ?_,h5.inj,fun b hb => ?_,⟨fun b hb => ?_,h5.src.2.mono fun _ => .inl⟩,h5.tau.keep rfl (fun _ _ _=>rfl) (fun b q hq => ?_) h5.tau.row⟩
 ·rintro (hb | ⟨hb, -⟩)
  ·exact h5.thaw id t sz q hr hb
  ·have hlt:M1.phi id < w.heap.size:=e3.lt hr
   have hb:w.heap.size ≤ M1.phi id:=hb
   omega
 ·rcases hb with hb | ⟨-,hb⟩
  ·exact h5.rlt b hb
  ·exact hb
 ·rcases hb with hb | ⟨hb, -⟩
  ·exact h5.src.1 b hb
  ·exact .inr (Nat.le_trans e3.bel.size hb)
 ·rintro (hb | ⟨hb, -⟩)
  ·exact (h5.tau.new b q hq).2 hb
  ·have:=e3.tau.lt hq; omega
def kB (P:Program) (ty:Ty) (t:TypeId):TyK → Bool
 | .i k=>match P.underlying t with
  | some (.int k')=>decide (k = k')
  | _=>false
 | .b=>match P.underlying t with
  | some .bool=>true
  | _=>false
 | .str=>match P.underlying t with
  | some .string=>true
  | _=>false
 | .sc=>match P.underlying t with
  | some (.struct _)=>false
  | some (.array ..)=>false
  | some _=>true
  | none=>false
 | .st fs=>match P.underlying t with
  | some (.struct fields)=>decide (fields.toList.map (fun f=>(f.offset,P.cellsOf f.type)) = fs) && fields.toList.all (fun f=>(P.info? f.type).isSome)
  | _=>false
 | .ar n esz=>match P.underlying t with
  | some (.array n' e)=>decide (n = n') && decide (P.cellsOf e = esz) && (P.info? e).isSome
  | _=>false
 | .sl e=>match P.underlying t with
  | some (.slice e')=>decide (e = e') && (match (ty e).k with | .no=>false | _=>true)
  | _=>false
 | .no=>true
def tyB (P:Program) (ty:Ty) (t:TypeId):Bool :=
 kB P ty t (ty t).k && (match (ty t).k with
  | .no=>true
  | _=>match P.info? t with
   | some i=>decide (i.size = (ty t).sz) && decide (i.bytes = (ty t).bytes) && (match i.zero with
    | some z=>zvL (ty t).zero z.cells.toList && decide (z.cells.size = (ty t).sz)
    | none=>false)
   | none=>false)
theorem hbc7 {t:TypeId}:∀ {k:TyK},kB P ty t k = true → kOk P ty t k
 | .i k,h=>by
  simp only [kB] at h
  split at h
  ·rename_i k' hu; simp only [decide_eq_true_eq] at h; subst h; exact hu
  ·cases h
 | .b,h=>by
  simp only [kB] at h
  split at h
  ·rename_i hu; exact hu
  ·cases h
 | .str,h=>by
  simp only [kB] at h
  split at h
  ·rename_i hu; exact hu
  ·cases h
 | .sc,h=>by
  simp only [kB] at h
  split at h
  ·cases h
  ·cases h
  ·rename_i d h1 h2 hu
   refine ⟨d,hu, ?_⟩
   cases d <;> first | trivial | (exact h1 _ rfl) | (exact h2 _ _ rfl)
  ·cases h
 | .st fs,h=>by
  simp only [kB] at h
  split at h
  ·rename_i fields hu
   simp only [Bool.and_eq_true,decide_eq_true_eq,List.all_eq_true] at h
   exact ⟨fields,hu,h.1,h.2⟩
  ·cases h
 | .ar n esz,h=>by
  simp only [kB] at h
  split at h
  ·rename_i n' e hu
   simp only [Bool.and_eq_true,decide_eq_true_eq] at h
   obtain ⟨⟨rfl,h2⟩,h3⟩:=h
   exact ⟨e,hu,h2,h3⟩
  ·cases h
 | .sl e,h=>by
  simp only [kB] at h
  split at h
  ·rename_i e' hu
   simp only [Bool.and_eq_true,decide_eq_true_eq] at h
   obtain ⟨rfl,h2⟩:=h
   exact ⟨hu,by split at h2 <;> first | (cases h2; done) | (split <;> simp_all)⟩
  ·cases h
 | .no,_=>trivial
theorem gxb7 {t:TypeId} (h:tyB P ty t = true):exb7 P ty t:=by
 unfold tyB at h
 rw [Bool.and_eq_true] at h
 obtain ⟨h1,h2⟩:=h
 refine ⟨hbc7 h1, ?_⟩
 cases hk:(ty t).k
 case no=>trivial
 all_goals
  rw [hk] at h2
  simp only at h2
  split at h2
  ·rename_i i hi
   simp only [Bool.and_eq_true,decide_eq_true_eq] at h2
   obtain ⟨⟨h3,h4⟩,h5⟩:=h2
   split at h5
   ·rename_i z hz
    simp only [Bool.and_eq_true,decide_eq_true_eq] at h5
    exact ⟨i,z,hi,h3,h4,hz,h5.1,h5.2⟩
   ·cases h5
  ·cases h2
theorem irb7 {n:Nat} (h:(List.range n).all (tyB P ty) = true) (h2:∀ t,n ≤ t → (ty t).k = .no):ph7 P ty:=by
 intro t
 by_cases e:t < n
 ·exact gxb7 (List.all_eq_true.1 h t (List.mem_range.2 e))
 ·exact ⟨by rw [h2 t (Nat.le_of_not_lt e)]; trivial,by rw [h2 t (Nat.le_of_not_lt e)]; trivial⟩
end
section
variable {P:Program} {ty:Ty} {ord:Nat → List Nat × Nat × Option Nat} {Q:Exit → AS → Prop} {K:AS → Prop} {σ:AS} {nf:Nat} {ops:Array Oper} {o:Oper} {l:List Oper} {pu:Pu} {tm:Tm} {rd:Operand → Bool × RV} {H:List Root}
theorem erb7 (g:Bool):gOk g [] = True:=rfl
theorem vzb7 (g:Bool) (l:List Bool):gOk g (true :: l) = gOk g l:=by simp [gOk]
theorem sbc7 (g:Bool) (l:List Bool):gOk g (g :: l) = gOk g l:=by simp [gOk]
theorem fzb7 (g h:Bool) (l:List Bool):gOk (g && h) (h :: l) = gOk (g && h) l:=by cases g <;> cases h <;> simp [gOk]
theorem xbc7 (g h:Bool) (l:List Bool):gOk (g && h) (g :: l) = gOk (g && h) l:=by cases g <;> cases h <;> simp [gOk]
theorem kac7 (b c:Bool):qzb7 b c false = (b && c):=by cases b <;> rfl
theorem tac7 (b c:Bool):qzb7 b true c = (b || c):=by cases b <;> rfl
theorem xcb7 {pu:Pu} {f:FuncId} {a a':List RV} {H H':List Root} {K:RV → List Root → Prop} (h:a = a') (h2:H = H'):go7 P pu f a H K = go7 P pu f a' H' K:=by rw [h,h2]
theorem eyb7:awp P ty ord .skip Q σ = Q .normal σ:=rfl
theorem pbc7 {id:Nat}:awp P ty ord (.region id ops true) Q σ = kwb7 P ty ops (ord id) (Q .normal) σ:=rfl
theorem kyb7 {id:Nat}:awp P ty ord (.region id ops false) Q σ = fu7 P ty ops.toList.length none ops ops.toList (Q .normal) σ:=rfl
theorem abc7 {a b:Code}:awp P ty ord (.seq a b) Q σ = awp P ty ord a (fl7 (awp P ty ord b Q) Q) σ:=rfl
theorem qvb7 {x:Operand} {a b:Code}:awp P ty ord (.cond x a b) Q σ = fbb7 (σ.rd x) (awp P ty ord a Q σ) (awp P ty ord b Q σ):=rfl
theorem lrb7 {id:Nat} {a:Code}:awp P ty ord (.block id a) Q σ = awp P ty ord a (inB id Q) σ:=rfl
theorem xvb7 {id:Nat}:awp P ty ord (.exit id) Q σ = Q (.exit id) σ:=rfl
theorem pac7:awp P ty ord .ret Q σ = Q .ret σ:=rfl
theorem adc7 {n:Nat} {dd:Option Nat}:kwb7 P ty ops ([],n,dd) K σ = fu7 P ty n dd ops ops.toList K σ:=rfl
theorem zcc7 {n i:Nat} {is:List Nat} {dd:Option Nat}:kwb7 P ty ops (i :: is,n,dd) K σ = fu7 P ty n dd ops (pick ops (i :: is)) K σ:=rfl
theorem szb7 {dd:Option Nat}:fu7 P ty nf dd ops [] K σ = K σ:=rfl
theorem zwb7 {dd:Option Nat}:fu7 P ty nf dd ops (o :: l) K σ = xv7 P ty (nub7 nf l.length dd) dd ops σ o (fu7 P ty nf dd ops l K):=rfl
theorem edc7 {n:Nat} {dd:Option Nat}:isW (nub7 nf n dd) = (n < nf):=by
 unfold nub7 isW
 by_cases h:nf ≤ n
 ·rw [if_pos h]; exact propext ⟨fun h=>h.elim,fun h2=>by omega⟩
 ·rw [if_neg h]; exact propext ⟨fun _=>by omega,fun _=>trivial⟩
theorem occ7 {dd:Option Nat}:xv7 P ty pu dd ops σ o K = if isV o.op = true then mnb7 ty (guardOf σ.tm ops o.guard) dd σ o K else stb dd (rhb7 σ.H) ∧ ezb7 P ty (guardOf σ.tm ops o.guard) pu σ o K:=rfl
theorem obc7 {A:Nat → Prop}:stb none A = True:=rfl
theorem kzb7 {A:Nat → Prop} {k:Nat}:stb (some k) A = A k:=rfl
theorem uzb7 {g:Bool}:ezb7 P ty (some g) pu σ o K = (gOk g (neb7 σ.rd o.op) ∧ grb7 g (eff P ty pu σ.tm σ.rd σ.H o K) (K ⟨pk7 σ.tm g o.dst (.c .junk),σ.H⟩)):=rfl
theorem egb7 {g g':Bool} {A B:Prop} (h:g = g'):grb7 g A B = grb7 g' A B:=by rw [h]
theorem jcc7 {A B:Prop}:grb7 true A B = A:=by simp [grb7]
theorem icc7 {g:Bool} {A B:Prop}:grb7 g A B = ((g = true → A) ∧ (g = false → B)):=rfl
def putV (g:Bool) (tm:Tm) (H:List Root) (d:Option Nat) (q:Vo) (K:AS → Prop):Prop:=(g = true → q.1) ∧ K ⟨pk7 tm g d q.2,H⟩
theorem lac7 {g:Bool} {dd:Option Nat}:mnb7 ty (some g) dd σ o K = (gOk g (neb7 σ.rd o.op) ∧ stb dd (fun k=>rhb7 σ.H k ∧ (g = true → (opV ty g σ.rd (ia7 σ.H k .dead) o.op).1)) ∧ putV g σ.tm σ.H o.dst (opV ty g σ.rd σ.H o.op) K):=rfl
theorem qyb7 {d:Option Nat} {p:Prop} {v:RV}:putV true tm H d (p,v) K = (p ∧ K ⟨pk7 tm true d v,H⟩):=by simp [putV]
theorem kvb7 {g:Bool} {d:Option Nat} {p:Prop} {v:RV}:putV g tm H d (p,v) K = ((g = true → p) ∧ K ⟨pk7 tm g d v,H⟩):=rfl
theorem oxb7 {g:Bool} {d:Option Nat}:putV g tm H d no K = ((g = true → False) ∧ K ⟨pk7 tm g d (.c .junk),H⟩):=rfl
theorem fvb7 {t:Nat} {g:Bool} {v:RV}:pk7 tm g (some t) v = (t,g,v) :: tm:=rfl
theorem ryb7 {g:Bool} {v:RV}:pk7 tm g none v = tm:=rfl
section
variable {d:Option Nat} {t:TypeId} {p:String} {af:Array Edge} {gd:Option (Nat × Bool)}
theorem ebc7 {u:TypeId} {x:Operand}:eff P ty pu tm rd H ⟨d, .box u x,t,p,af,gd⟩ K = (((zb7 (rd x).2).length = (ty u).sz ∧ 0 < (ty u).sz ∧ njL (zb7 (rd x).2) = true) ∧ K ⟨pk7 tm true d (.c (.ptr H.length 1 0 0)),H ++ [.live false u (ty u).sz (.box (zb7 (rd x).2))]⟩):=rfl
theorem frb7 {u:TypeId}:eff P ty pu tm rd H ⟨d, .alloc u,t,p,af,gd⟩ K = ((0 < (ty u).sz ∧ kN (ty u).k) ∧ K ⟨pk7 tm true d (.c (.ptr H.length 1 0 0)),H ++ [.live false u (ty u).sz (.box (ty u).zero)]⟩):=rfl
theorem xtb7 {u:TypeId} {x v:Operand}:eff P ty pu tm rd H ⟨d, .store u x v,t,p,af,gd⟩ K = (isW pu ∧ vyb7 (ty u) H (rd x).2 (rd v).2 (fun H=>K ⟨pk7 tm true d (.c .junk),H⟩)):=rfl
def pub7 (wk:Option (List CK)) (ty:Ty) (e:TypeId) (H:List Root) (n:Nat) (q:Prop × List AV) (K:RV → List Root → Prop):Prop :=
 match wk with
 | none=>xyb7 ty e H n q K
 | some []=>yyb7 ty e H n q K
 | some (c :: cs)=>azb7 ty e (c :: cs) n q (fun r=>K r H)
theorem tzb7 {e:TypeId} {n:Nat} {q:Prop × List AV} {K:RV → List Root → Prop}:pub7 none ty e H n q K = xyb7 ty e H n q K:=rfl
theorem bac7 {c:CK} {cs:List CK} {e:TypeId} {n:Nat} {q:Prop × List AV} {K:RV → List Root → Prop}:pub7 (some (c :: cs)) ty e H n q K = azb7 ty e (c :: cs) n q (fun r=>K r H):=rfl
theorem fac7 {e:TypeId} {n:Nat} {q:Prop × List AV} {K:RV → List Root → Prop}:pub7 (some []) ty e H n q K = yyb7 ty e H n q K:=rfl
theorem rcc7 {k:TyK} {z:List AV} {n:Nat}:lk7 none k z n = zeros k z n:=rfl
theorem fdc7 {c:CK} {cs:List CK} {k:TyK} {z:List AV} {n:Nat}:lk7 (some (c :: cs)) k z n = zeros k z n:=rfl
theorem pcc7 {k:TyK} {z:List AV} {n:Nat}:lk7 (some []) k z n = .own (List.replicate n z):=rfl
def zyb7 (wk:Option (List CK)) (ty:Ty) (e:TypeId) (H:List Root) (s x:RV) (K:RV → List Root → Prop):Prop :=
 match wk with
 | none=>dob7 ty (.sl e) H s x K
 | some []=>dob7 ty (.sl e) H s x K
 | some (c :: cs)=>appW ty e (c :: cs) s x (fun r=>K r H)
theorem qbc7 {e:TypeId} {s x:RV} {K:RV → List Root → Prop}:bwb7 ty (.sl e) H s x K = zyb7 (ty e).wk ty e H s x K:=rfl
theorem lzb7 {e:TypeId} {s x:RV} {K:RV → List Root → Prop}:zyb7 none ty e H s x K = dob7 ty (.sl e) H s x K:=rfl
theorem ubc7 {c:CK} {cs:List CK} {e:TypeId} {s x:RV} {K:RV → List Root → Prop}:zyb7 (some (c :: cs)) ty e H s x K = appW ty e (c :: cs) s x (fun r=>K r H):=rfl
theorem cbc7 {e:TypeId} {s x:RV} {K:RV → List Root → Prop}:zyb7 (some []) ty e H s x K = dob7 ty (.sl e) H s x K:=rfl
def mac7 (ty:Ty) (k:TyK) (rd:Operand → Bool × RV) (H:List Root) (n:Nat) (ps:List (Nat × Operand)) (K:RV → List Root → Prop):Prop :=
 match k with
 | .sl e=>pub7 (ty e).wk ty e H n (bf7 (fun i=>(i * (ty e).sz,(ty e).sz)) rd (rep (ty e).zero n) ps) K
 | _=>False
theorem tbc7 {u:TypeId} {n:Nat} {ps:Array (Nat × Operand)}:eff P ty pu tm rd H ⟨d, .buildSlice u n ps,t,p,af,gd⟩ K = mac7 ty (ty u).k rd H n ps.toList (fun r H=>K ⟨pk7 tm true d r,H⟩):=by
 unfold eff mac7
 dsimp only
 cases (ty u).k with
 | sl e =>
  unfold pub7
  dsimp only
  match (ty e).wk with
  | none=>rfl
  | some []=>rfl
  | some (_ :: _)=>rfl
 | _=>rfl
theorem pwb7 {e:TypeId} {n:Nat} {ps:List (Nat × Operand)} {K:RV → List Root → Prop}:mac7 ty (.sl e) rd H n ps K = pub7 (ty e).wk ty e H n (bf7 (fun i=>(i * (ty e).sz,(ty e).sz)) rd (rep (ty e).zero n) ps) K:=rfl
theorem uvb7 {u:TypeId} {x y:Operand}:eff P ty pu tm rd H ⟨d, .makeSlice u x y,t,p,af,gd⟩ K = dpb7 ty (ty u).k H (rd x).2 (rd y).2 (fun r H=>K ⟨pk7 tm true d r,H⟩):=rfl
theorem dbc7 {x y:Operand} {u v:TypeId}:eff P ty pu tm rd H ⟨d, .call ⟨.builtin .append, #[x,y], #[u,v]⟩,t,p,af,gd⟩ K = (isW pu ∧ apK ty (strOf (rd y).2) [u,v] u v H (rd x).2 (rd y).2 (fun r H=>K ⟨pk7 tm true d r,H⟩)):=rfl
theorem xcc7 {b:ByteArray} {ts:List TypeId} {u v:TypeId} {s x:RV} {K:RV → List Root → Prop}:apK ty (some b) ts u v H s x K = ((ts = [u,v] ∧ (ty v).k = .str) ∧ jwb7 ty (ty u).k H s b K):=rfl
theorem tcc7 {ts:List TypeId} {u v:TypeId} {s x:RV} {K:RV → List Root → Prop}:apK ty none ts u v H s x K = (ts = [u,u] ∧ bwb7 ty (ty u).k H s x K):=rfl
def acc7 (P:Program) (pu:Pu) (f:RV) (zs:List RV) (H:List Root) (K:RV → List Root → Prop):Prop :=
 match f with
 | .fn f caps=>go7 P pu f (zs ++ caps.map .c) H K
 | _=>False
theorem uub7 {x:Operand} {zs:Array Operand} {ts:Array TypeId}:eff P ty pu tm rd H ⟨d, .call ⟨.value x,zs,ts⟩,t,p,af,gd⟩ K = acc7 P pu (rd x).2 (rds rd zs.toList) H (fun r H=>K ⟨pk7 tm true d r,H⟩):=rfl
theorem wbc7 {f:FuncId} {caps:List AV} {zs:List RV} {K:RV → List Root → Prop}:acc7 P pu (.fn f caps) zs H K = go7 P pu f (zs ++ caps.map .c) H K:=rfl
end
theorem hac7 {k:IntKind} {n:Int} {p:RV → Prop}:(∃ r,xsb7 (.c (.int k n)) r ∧ p r) = p (.c (.int k n)):=propext ⟨fun ⟨_,⟨_,e,e2⟩,h⟩=>by subst e; rcases e2 with e2 | e2 <;> (subst e2; exact h),fun h=>⟨_,⟨_,rfl, .inl rfl⟩,h⟩⟩
theorem yvb7 {b:Bool} {p:RV → Prop}:(∃ r,xsb7 (.c (.bool b)) r ∧ p r) = p (.c (.bool b)):=propext ⟨fun ⟨_,⟨_,e,e2⟩,h⟩=>by subst e; rcases e2 with e2 | e2 <;> (subst e2; exact h),fun h=>⟨_,⟨_,rfl, .inl rfl⟩,h⟩⟩
def lpK {ι:Type} (vy:List Nat) (n:Nat) (inv:ι → Prop) (vals:ι → List RV) (H:ι → List Root) (μ:ι → Nat) (m:Nat) (σ':AS):Prop := ∃ s',inv s' ∧ gets σ'.tm vy = ok7 (vals s') ∧ σ'.H.take n = H s' ∧ μ s' < m
theorem de7 {c:Code} {ι:Type} (fx vy:List Nat) (inv:ι → Prop) (vals:ι → List RV) (H:ι → List Root) (μ:ι → Nat) (hfx:iob7 c fx = true) (h0:∃ s,inv s ∧ gets σ.tm vy = ok7 (vals s) ∧ σ.H = H s)
  (hsc:∀ s,inv s → (H s).length = σ.H.length ∧ jw7 σ.H.length (vals s) = true ∧ qbb7 σ.H.length (H s) = true ∧ (vals s).length = vy.length)
  (round:∀ s,inv s → awp P ty ord c (fl7 (lpK vy σ.H.length inv vals H μ (μ s)) Q) ⟨setT vy (vals s) (fxT σ.tm fx),H s⟩):awp P ty ord (.loop c) Q σ :=
 .inl ⟨ι,fx,vy,inv,vals,H,μ,hfx,h0,hsc,round⟩
def ucc7 {ι:Type} (d:Nat) (vy:List Nat) (n:Nat) (inv:ι → Prop) (vals:ι → List RV) (H:ι → List Root) (μ:ι → Nat) (m:Nat) (σ':AS):Prop := ∃ s' ids,inv s' ∧ (ids.length = d ∧ okI n ids = true) ∧ renG n ids (gets σ'.tm vy) = ok7 (vals s') ∧ ndb7 n ids σ'.H = H s' ∧ μ s' < m
theorem cdc7 {body:(Exit → AS → Prop) → AS → Prop} {u:Unit} {l:List Unit}:xm7 body (u :: l) Q σ = body (fl7 (xm7 body l Q) Q) σ:=rfl
def opD:List Oper → Nat → Oper
 | [],_=>default
 | o :: _,0=>o
 | _ :: l,n + 1=>opD l n
theorem oib7:∀ (l:List Oper) (j:Nat),opD l j = l.getD j default
 | [],_=>rfl
 | _ :: _,0=>rfl
 | _ :: l,j + 1=>by simp only [opD,List.getD_cons_succ]; exact oib7 l j
theorem lwb7 {i:Nat} {is:List Nat}:pick ops (i :: is) = opD ops.toList i :: pick ops is:=by
 simp [pick,oib7,List.getD_eq_getElem?_getD,Array.getD_eq_getD_getElem?]
theorem msb7:pick ops [] = []:=rfl
theorem t_n {n:AS → Prop}:fl7 n Q .normal σ = n σ:=rfl
theorem t_e {n:AS → Prop} {id:Nat}:fl7 n Q (.exit id) σ = Q (.exit id) σ:=rfl
theorem t_r {n:AS → Prop}:fl7 n Q .ret σ = Q .ret σ:=rfl
theorem b_n {id:Nat}:inB id Q .normal σ = Q .normal σ:=rfl
theorem b_e {id j:Nat}:inB id Q (.exit j) σ = if j = id then Q .normal σ else Q (.exit j) σ:=rfl
theorem b_r {id:Nat}:inB id Q .ret σ = Q .ret σ:=rfl
theorem c_t {b:Bool} {A B:Prop}:fbb7 (true, .c (.bool b)) A B = ((b = true → A) ∧ (b = false → B)):=rfl
theorem r_r {rs:List ResultVar} {K:RV → List Root → Prop}:czb7 ty rs K .ret σ = ((eu7 ty σ rs).1 ∧ K (one (eu7 ty σ rs).2) σ.H):=rfl
theorem r_n {rs:List ResultVar} {K:RV → List Root → Prop}:czb7 ty rs K .normal σ = ((eu7 ty σ rs).1 ∧ K (one (eu7 ty σ rs).2) σ.H):=rfl
end
section
variable {n:Nat} {ids:List Nat}
theorem mrb7 {n:Nat} {ids:List Nat}:fh7 n ids .dead = .dead:=rfl
theorem ovb7 {n:Nat} {ids:List Nat} {fz:Bool} {t:TypeId} {sz:Nat} {l:List AV}:fh7 n ids (.live fz t sz (.box l)) = .live fz t sz (.box (shb7 n ids l)):=rfl
theorem ptb7 {n:Nat} {ids:List Nat} {fz:Bool} {t:TypeId} {sz:Nat} {k:IntKind} {l:List Int}:fh7 n ids (.live fz t sz (.ints k l)) = .live fz t sz (.ints k l):=rfl
theorem hob7 {n:Nat} {ids:List Nat} {fz:Bool} {t:TypeId} {sz:Nat} {l:List Bool}:fh7 n ids (.live fz t sz (.bools l)) = .live fz t sz (.bools l):=rfl
theorem txb7 {n:Nat} {ids:List Nat} {fz:Bool} {t:TypeId} {sz:Nat} {l:List (List AV)}:fh7 n ids (.live fz t sz (.gen l)) = .live fz t sz (.gen l):=rfl
theorem nyb7 {n:Nat} {ids:List Nat} {fz:Bool} {t:TypeId} {sz:Nat} {l:List (List AV)}:fh7 n ids (.live fz t sz (.own l)) = .live fz t sz (.own (aw7 n ids l)):=rfl
theorem dwb7 {id m i o:Nat}:cv7 n ids (.ptr id m i o) = zhb7 m i o (zib7 n ids id):=rfl
theorem kcc7 {id st len:Nat}:cv7 n ids (.h id st len) = mkH st len (zib7 n ids id):=rfl
theorem ewb7 {k:IntKind} {v:Int}:cv7 n ids (.int k v) = .int k v:=rfl
theorem tsb7 {b:Bool}:cv7 n ids (.bool b) = .bool b:=rfl
theorem jvb7 {b:Nat}:cv7 n ids (.flt b) = .flt b:=rfl
theorem wvb7 {b:ByteArray}:cv7 n ids (.str b) = .str b:=rfl
theorem kub7:cv7 n ids .nilp = .nilp:=rfl
theorem prb7:cv7 n ids .nils = .nils:=rfl
theorem psb7:cv7 n ids .junk = .junk:=rfl
theorem nbc7 {k sz:Nat} {f:Nat → Nat → AV}:cv7 n ids (.sl k sz f) = .sl k sz f:=rfl
theorem pzb7 {k:Nat} {f:Nat → AV}:cv7 n ids (.rp k f) = .rp k f:=rfl
theorem mzb7 {m i o j:Nat}:zhb7 m i o (some j) = .ptr j m i o:=rfl
theorem jbc7 {m i o:Nat}:zhb7 m i o none = .junk:=rfl
theorem uac7 {st len j:Nat}:mkH st len (some j) = .h j st len:=rfl
theorem qac7 {st len:Nat}:mkH st len none = .junk:=rfl
end
attribute [congr] xcb7 egb7
def tyM:Nat → TyE
 | 2=>⟨1,8, .i .i64,[.int .i64 0],none⟩
 | 3=>⟨1,8, .i .i64,[.int .i64 0],none⟩
 | 4=>⟨1,1, .b,[.bool false],none⟩
 | 5=>⟨1,1, .i .u8,[.int .u8 0],none⟩
 | 6=>⟨1,1, .i .u8,[.int .u8 0],none⟩
 | 7=>⟨4,24, .st [(0,1),(1,1),(2,1),(3,1)],[.int .i64 0, .int .i64 0, .bool false, .int .u8 0],none⟩
 | 8=>⟨4,24, .st [(0,1),(1,1),(2,1),(3,1)],[.int .i64 0, .int .i64 0, .bool false, .int .u8 0],none⟩
 | 9=>⟨1,16, .str,[.str ⟨#[]⟩],none⟩
 | 10=>⟨1,16, .str,[.str ⟨#[]⟩],none⟩
 | 11=>⟨1,16, .str,[.str ⟨#[]⟩],none⟩
 | 12=>⟨1,8, .i .u64,[.int .u64 0],none⟩
 | 13=>⟨2,24, .st [(0,1),(1,1)],[.str ⟨#[]⟩, .int .u64 0],none⟩
 | 14=>⟨2,24, .st [(0,1),(1,1)],[.str ⟨#[]⟩, .int .u64 0],none⟩
 | 15=>⟨1,8, .sc,[.nilp],none⟩
 | 16=>⟨1,8, .sc,[.nilp],none⟩
 | 17=>⟨1,8, .sc,[.nilp],none⟩
 | 18=>⟨1,8, .st [(0,1)],[.nilp],none⟩
 | 19=>⟨1,8, .st [(0,1)],[.nilp],none⟩
 | 21=>⟨1,4, .i .i32,[.int .i32 0],none⟩
 | 22=>⟨1,24, .sl 82,[.nils],none⟩
 | 23=>⟨1,24, .sl 73,[.nils],none⟩
 | 24=>⟨2,48, .st [(0,1),(1,1)],[.nils, .nils],none⟩
 | 25=>⟨2,48, .st [(0,1),(1,1)],[.nils, .nils],none⟩
 | 26=>⟨1,24, .sl 43,[.nils],none⟩
 | 27=>⟨1,24, .sl 58,[.nils],none⟩
 | 28=>⟨2,48, .st [(0,1),(1,1)],[.nils, .nils],none⟩
 | 29=>⟨2,48, .st [(0,1),(1,1)],[.nils, .nils],none⟩
 | 30=>⟨5,104, .st [(0,2),(2,2),(4,1)],[.nils, .nils, .nils, .nils, .int .i64 0],none⟩
 | 31=>⟨5,104, .st [(0,2),(2,2),(4,1)],[.nils, .nils, .nils, .nils, .int .i64 0],none⟩
 | 36=>⟨1,24, .sl 107,[.nils],none⟩
 | 37=>⟨1,24, .sl 109,[.nils],none⟩
 | 38=>⟨1,24, .sl 5,[.nils],none⟩
 | 39=>⟨11,112, .st [(0,1),(1,1),(2,1),(3,1),(4,1),(5,1),(6,1),(7,1),(8,1),(9,1),(10,1)],[.int .u8 0, .int .u8 0, .int .u8 0, .int .u8 0, .int .u8 0, .nils, .nils, .nils, .nils, .bool false, .bool false],none⟩
 | 40=>⟨11,112, .st [(0,1),(1,1),(2,1),(3,1),(4,1),(5,1),(6,1),(7,1),(8,1),(9,1),(10,1)],[.int .u8 0, .int .u8 0, .int .u8 0, .int .u8 0, .int .u8 0, .nils, .nils, .nils, .nils, .bool false, .bool false],none⟩
 | 41=>⟨3,72, .st [(0,1),(1,1),(2,1)],[.nils, .nils, .nils],none⟩
 | 42=>⟨3,72, .st [(0,1),(1,1),(2,1)],[.nils, .nils, .nils],none⟩
 | 43=>⟨1,24, .sl 2,[.nils],none⟩
 | 44=>⟨2,16, .st [(0,1),(1,1)],[.int .i64 0, .int .i64 0],none⟩
 | 45=>⟨2,16, .st [(0,1),(1,1)],[.int .i64 0, .int .i64 0],none⟩
 | 46=>⟨1,24, .sl 100,[.nils],none⟩
 | 47=>⟨1,24, .sl 102,[.nils],none⟩
 | 48=>⟨9,136, .st [(0,1),(1,2),(3,2),(5,1),(6,1),(7,1),(8,1)],[.int .i64 0, .int .i64 0, .int .i64 0, .int .i64 0, .int .i64 0, .nils, .nils, .nils, .nils],none⟩
 | 49=>⟨9,136, .st [(0,1),(1,2),(3,2),(5,1),(6,1),(7,1),(8,1)],[.int .i64 0, .int .i64 0, .int .i64 0, .int .i64 0, .int .i64 0, .nils, .nils, .nils, .nils],none⟩
 | 52=>⟨1,8, .i .i64,[.int .i64 0],none⟩
 | 55=>⟨1,8, .sc,[.nilp],none⟩
 | 57=>⟨3,40, .st [(0,1),(1,1),(2,1)],[.int .i64 0, .nils, .int .i64 0],none⟩
 | 58=>⟨3,40, .st [(0,1),(1,1),(2,1)],[.int .i64 0, .nils, .int .i64 0],none⟩
 | 59=>⟨1,24, .sl 29,[.nils],none⟩
 | 65=>⟨1,24, .sl 119,[.nils],none⟩
 | 66=>⟨2,32, .st [(0,1),(1,1)],[.nils, .int .u8 0],none⟩
 | 67=>⟨2,32, .st [(0,1),(1,1)],[.nils, .int .u8 0],none⟩
 | 69=>⟨1,24, .sl 75,[.nils],none⟩
 | 71=>⟨1,24, .sl 3,[.nils],none⟩
 | 72=>⟨2,32, .st [(0,1),(1,1)],[.int .i64 0, .nils],none⟩
 | 73=>⟨2,32, .st [(0,1),(1,1)],[.int .i64 0, .nils],none⟩
 | 74=>⟨1,8, .i .u64,[.int .u64 0],none⟩
 | 75=>⟨1,8, .i .u64,[.int .u64 0],none⟩
 | 78=>⟨2,16, .st [(0,1),(1,1)],[.int .i64 0, .int .i64 0],none⟩
 | 79=>⟨2,16, .st [(0,1),(1,1)],[.int .i64 0, .int .i64 0],none⟩
 | 80=>⟨1,24, .sl 79,[.nils],none⟩
 | 81=>⟨1,24, .st [(0,1)],[.nils],none⟩
 | 82=>⟨1,24, .st [(0,1)],[.nils],none⟩
 | 83=>⟨1,8, .sc,[.nilp],none⟩
 | 84=>⟨2,32, .st [(0,1),(1,1)],[.nilp, .nils],none⟩
 | 85=>⟨2,32, .st [(0,1),(1,1)],[.nilp, .nils],none⟩
 | 99=>⟨2,16, .st [(0,1),(1,1)],[.int .i64 0, .int .i64 0],none⟩
 | 100=>⟨2,16, .st [(0,1),(1,1)],[.int .i64 0, .int .i64 0],none⟩
 | 101=>⟨4,32, .st [(0,1),(1,1),(2,1),(3,1)],[.int .i64 0, .int .i64 0, .int .i64 0, .int .i64 0],none⟩
 | 102=>⟨4,32, .st [(0,1),(1,1),(2,1),(3,1)],[.int .i64 0, .int .i64 0, .int .i64 0, .int .i64 0],none⟩
 | 106=>⟨2,2, .st [(0,1),(1,1)],[.int .u8 0, .int .u8 0],none⟩
 | 107=>⟨2,2, .st [(0,1),(1,1)],[.int .u8 0, .int .u8 0],none⟩
 | 108=>⟨4,4, .st [(0,1),(1,1),(2,1),(3,1)],[.int .u8 0, .int .u8 0, .int .u8 0, .int .u8 0],none⟩
 | 109=>⟨4,4, .st [(0,1),(1,1),(2,1),(3,1)],[.int .u8 0, .int .u8 0, .int .u8 0, .int .u8 0],none⟩
 | 114=>⟨1,8, .sc,[.nilp],none⟩
 | 119=>⟨1,1, .i .i8,[.int .i8 0],none⟩
 | 128=>⟨1,8, .sc,[.nilp],none⟩
 | 129=>⟨1,24, .sl 154,[.nils],none⟩
 | 130=>⟨2,32, .st [(0,1),(1,1)],[.int .i64 0, .nils],none⟩
 | 131=>⟨2,32, .st [(0,1),(1,1)],[.int .i64 0, .nils],none⟩
 | 153=>⟨3,24, .st [(0,1),(1,1),(2,1)],[.int .i64 0, .int .i64 0, .int .i64 0],none⟩
 | 154=>⟨3,24, .st [(0,1),(1,1),(2,1)],[.int .i64 0, .int .i64 0, .int .i64 0],none⟩
 | 155=>⟨2,48, .st [(0,1),(1,1)],[.nils, .nils],none⟩
 | 156=>⟨2,48, .st [(0,1),(1,1)],[.nils, .nils],none⟩
 | 165=>⟨20,20, .ar 20 1,[.int .u8 0, .int .u8 0, .int .u8 0, .int .u8 0, .int .u8 0, .int .u8 0, .int .u8 0, .int .u8 0, .int .u8 0, .int .u8 0, .int .u8 0, .int .u8 0, .int .u8 0, .int .u8 0, .int .u8 0, .int .u8 0, .int .u8 0, .int .u8 0, .int .u8 0, .int .u8 0],none⟩
 | 167=>⟨1,8, .sc,[.nilp],none⟩
 | 168=>⟨3,56, .st [(0,2),(2,1)],[.int .i64 0, .nils, .nils],none⟩
 | 169=>⟨3,56, .st [(0,2),(2,1)],[.int .i64 0, .nils, .nils],none⟩
 | 170=>⟨1,24, .sl 71,[.nils],none⟩
 | 183=>⟨2,48, .ar 2 1,[.nils, .nils],none⟩
 | 188=>⟨1,24, .sl 4,[.nils],none⟩
 | 189=>⟨1,8, .sc,[.nilp],none⟩
 | 192=>⟨2,16, .st [(0,1),(1,1)],[.int .i64 0, .int .i64 0],none⟩
 | 193=>⟨2,16, .st [(0,1),(1,1)],[.int .i64 0, .int .i64 0],none⟩
 | 204=>⟨1,24, .sl 193,[.nils],none⟩
 | 205=>⟨1,24, .sl 193,[.nils],none⟩
 | 206=>⟨1,24, .st [(0,1)],[.nils],none⟩
 | 207=>⟨1,24, .st [(0,1)],[.nils],none⟩
 | 209=>⟨1,8, .sc,[.nilp],none⟩
 | 211=>⟨1,8, .i .u64,[.int .u64 0],none⟩
 | 219=>⟨4,40, .st [(0,1),(1,1),(2,1),(3,1)],[.nilp, .nilp, .nilp, .str ⟨#[]⟩],none⟩
 | 220=>⟨4,40, .st [(0,1),(1,1),(2,1),(3,1)],[.nilp, .nilp, .nilp, .str ⟨#[]⟩],none⟩
 | 221=>⟨0,0, .ar 0 1,[],none⟩
 | 222=>⟨0,0, .st [(0,0)],[],none⟩
 | 223=>⟨0,0, .st [(0,0)],[],none⟩
 | 224=>⟨1,4, .i .u32,[.int .u32 0],none⟩
 | 225=>⟨1,1, .i .u8,[.int .u8 0],none⟩
 | 226=>⟨1,1, .i .u8,[.int .u8 0],none⟩
 | 228=>⟨1,4, .i .i32,[.int .i32 0],none⟩
 | 229=>⟨1,4, .i .i32,[.int .i32 0],none⟩
 | _=>⟨0,0, .no,[],none⟩
def ty:Ty:=fun t=>if t < 235 then tyM t else ⟨0,0, .no,[],none⟩
theorem gzb7 (t:Nat):ty t = if t < 235 then tyM t else ⟨0,0, .no,[],none⟩:=rfl
theorem qq7:ph7 Try.prog ty:=irb7 (n:=235) (by kernel_rfl) (fun t h=>by
 show (if t < 235 then tyM t else _).k = .no
 rw [if_neg (Nat.not_lt.2 h)])
end Go.Proofs.Ytabadfkikdefeaa.Ab
