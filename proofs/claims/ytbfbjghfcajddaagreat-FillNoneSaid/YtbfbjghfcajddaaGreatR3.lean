/- Texts of the proof, joined: Cat, RunX, Ord, SumL, RnA, RnB, RnC, RnD, RnE, RnF, RnG, RnH, RnI, RunP, Awake21, FillNone. -/
import Derived.Test.YtbfbjghfcajddaaGreatR2
import Derived.Test.YtbfbjghfcajddaaGreatP1
set_option linter.all false
set_option maxRecDepth 100000
set_option maxHeartbeats 6400000
namespace Go.Proofs.YtbfbjghfcajddaaGreat.Ab
open Go.RowKit
def AV.mfr:AV → Bool
 | .sl .. => false
 | .rp .. => false
 | .ws .. => false
 | .wu .. => false
 | .wp .. => false
 | _=>true
def shA (n:Nat):AV → AV
 | .ptr id m i o => .ptr (id + n) m i o
 | .h id st len => .h (id + n) st len
 | a=>a
def shL (n:Nat):List AV → List AV
 | []=>[]
 | a :: l=>shA n a :: shL n l
def xr7 (n:Nat):List (List AV) → List (List AV)
 | []=>[]
 | a :: l=>shL n a :: xr7 n l
def rl7 (n:Nat):Row → Row
 | .box l => .box (shL n l)
 | .own l => .own (xr7 n l)
 | r=>r
def gx7 (n:Nat):Root → Root
 | .live fz t sz r => .live fz t sz (rl7 n r)
 | .dead => .dead
def shH (n:Nat):List Root → List Root
 | []=>[]
 | r :: l=>gx7 n r :: shH n l
def tv7 (n:Nat):RV → RV
 | .c a => .c (shA n a)
 | .agg l => .agg (shL n l)
 | x=>x
def pw7 (n:Nat):List RV → List RV
 | []=>[]
 | a :: l=>tv7 n a :: pw7 n l
def shR (n:Nat):RV → RV
 | .tup l => .tup (pw7 n l)
 | x=>tv7 n x
def qs7:Row → Bool
 | .box l=>l.all AV.mfr
 | .own l=>l.all fun l=>l.all AV.mfr
 | .gen l=>l.all fun l=>l.all AV.mfr
 | _=>true
def cs7:Root → Bool
 | .live _ _ _ r=>qs7 r
 | .dead=>true
def pu7:RV → Bool
 | .c a=>a.mfr
 | .agg l=>l.all AV.mfr
 | _=>false
def plR:RV → Bool
 | .tup l=>l.all pu7
 | x=>pu7 x
def co7 (n s:Nat) (M M':Mp):Mp:=⟨fun id=>if id < n then M.phi id else M'.phi (id - n),fun b=>M.rho b ∨ (M'.rho b ∧ s ≤ b),M.tau⟩
section
variable {P:Program} {E:Env} {M M':Mp} {H G:List Root} {w w':World} {s n:Nat}
theorem zl7 (n:Nat):∀ l:List Root,(shH n l).length = l.length
 | []=>rfl
 | _ :: l=>by simp [shH,zl7 n l]
theorem tp7 (n:Nat):∀ (l:List Root) (j:Nat),aa7 (shH n l) j = gx7 n (aa7 l j)
 | [],_=>rfl
 | _ :: _,0=>rfl
 | _ :: l,j + 1=>tp7 n l j
theorem yj7 (n:Nat):∀ l:List (List AV),(xr7 n l).length = l.length
 | []=>rfl
 | _ :: l=>by simp [xr7,yj7 n l]
theorem fj7 (n:Nat):∀ (l:List (List AV)) (i:Nat),(xr7 n l).getD i [] = shL n (l.getD i [])
 | [],_=>rfl
 | _ :: _,0=>rfl
 | _ :: l,i + 1=>fj7 n l i
theorem cn7 (n:Nat):∀ (l:List AV) (o:Nat),nth (shL n l) o = shA n (nth l o)
 | [],_=>rfl
 | _ :: _,0=>rfl
 | _ :: l,o + 1=>cn7 n l o
theorem qd7 (r:Row):(rl7 n r).len = r.len:=by
 cases r <;> first | rfl | exact yj7 _ _
theorem zm7 (r:Row):(rl7 n r).one = r.one:=by cases r <;> rfl
theorem bn7 (r:Row):(rl7 n r).isBox = r.isBox:=by cases r <;> rfl
theorem sc7 {j:Nat} {fz:Bool} {t:TypeId} {sz:Nat} {r:Row} (h:aa7 (H ++ shH H.length G) j = .live fz t sz r):(j < H.length ∧ aa7 H j = .live fz t sz r) ∨ (H.length ≤ j ∧ ∃ r0,aa7 G (j - H.length) = .live fz t sz r0 ∧ r = rl7 H.length r0):=by
 rw [fb7] at h
 split at h
 ·rename_i hj; exact .inl ⟨hj,h⟩
 ·rename_i hj
  rw [tp7] at h
  cases hg:aa7 G (j - H.length) with
  | dead=>rw [hg] at h; cases h
  | live fz' t' sz' r0=>rw [hg] at h; cases h; exact .inr ⟨by omega,r0,rfl,rfl⟩
theorem qc7 {j:Nat} (h:j < H.length):(co7 H.length s M M').phi j = M.phi j:=if_pos h
theorem nc7 {j:Nat} (h:H.length ≤ j):(co7 H.length s M M').phi j = M'.phi (j - H.length):=if_neg (by omega)
theorem Con.catL {x:AV} {v:Value} (c:Con M H w x v):Con (co7 H.length s M M') (H ++ shH H.length G) w x v:=by
 have len:∀ {id:Nat},id < H.length → id < (H ++ shH H.length G).length:=fun h=>by rw [List.length_append]; omega
 cases x with
 | ptr id m i o =>
  refine ⟨⟨len c.1.1,c.1.2⟩,fun fz t sz r hr => ?_⟩
  rcases sc7 hr with ⟨h1,h2⟩ | ⟨h1, -⟩
  ·rw [qc7 h1]; exact c.2 _ _ _ _ h2
  ·have:=c.1.1; omega
 | h id st l =>
  refine ⟨⟨len c.1.1,c.1.2⟩,fun fz t sz r hr => ?_⟩
  rcases sc7 hr with ⟨h1,h2⟩ | ⟨h1, -⟩
  ·rw [qc7 h1]; exact c.2 _ _ _ _ h2
  ·have:=c.1.1; omega
 | sl n sz f=>exact za7.keep (fun _ _=>rfl) (fun _ => .inl) (show za7 M.rho w (.sl n sz f) v from c)
 | rp n f=>exact za7.keep (fun _ _=>rfl) (fun _ => .inl) (show za7 M.rho w (.rp n f) v from c)
 | _=>exact c
theorem Con.catR {x:AV} {v:Value} (hm:x.mfr = true) (c:Con M' G w x v):Con (co7 H.length s M M') (H ++ shH H.length G) w (shA H.length x) v:=by
 have len:∀ {id:Nat},id < G.length → id + H.length < (H ++ shH H.length G).length:=fun h=>by rw [List.length_append,zl7]; omega
 cases x with
 | ptr id m i o =>
  refine ⟨⟨len c.1.1,c.1.2⟩,fun fz t sz r hr => ?_⟩
  rcases sc7 hr with ⟨h1, -⟩ | ⟨h1,r0,h2,rfl⟩
  ·omega
  ·rw [nc7 h1,qd7]
   rw [Nat.add_sub_cancel] at h2 ⊢
   exact c.2 _ _ _ _ h2
 | h id st l =>
  refine ⟨⟨len c.1.1,c.1.2⟩,fun fz t sz r hr => ?_⟩
  rcases sc7 hr with ⟨h1, -⟩ | ⟨h1,r0,h2,rfl⟩
  ·omega
  ·rw [nc7 h1,qd7]
   rw [Nat.add_sub_cancel] at h2 ⊢
   exact c.2 _ _ _ _ h2
 | _=>first | exact c | cases hm
theorem sa7.catR:∀ {l:List AV} {vs:List Value},l.all AV.mfr = true → sa7 M' G w l vs → sa7 (co7 H.length s M M') (H ++ shH H.length G) w (shL H.length l) vs
 | [],_,_,h=>h
 | _ :: _,_,hm,⟨v,r,e,h1,h2⟩=>by
  simp only [List.all_cons,Bool.and_eq_true] at hm
  exact ⟨v,r,e,h1.catR hm.1,sa7.catR hm.2 h2⟩
theorem ConR1.catR {x:RV} {v:Value} (hm:pu7 x = true) (c:ha7 M' G w x v):ha7 (co7 H.length s M M') (H ++ shH H.length G) w (tv7 H.length x) v:=by
 cases x with
 | c a=>exact Con.catR hm c
 | agg l=>obtain ⟨vs,e,c⟩:=c; exact ⟨vs,e,sa7.catR hm c⟩
 | _=>cases hm
theorem ka7.catR:∀ {l:List RV} {vs:List Value},l.all pu7 = true → ka7 M' G w l vs → ka7 (co7 H.length s M M') (H ++ shH H.length G) w (pw7 H.length l) vs
 | [],_,_,h=>h
 | _ :: _,_,hm,⟨v,r,e,h1,h2⟩=>by
  simp only [List.all_cons,Bool.and_eq_true] at hm
  exact ⟨v,r,e,ConR1.catR hm.1 h1,ka7.catR hm.2 h2⟩
theorem ha7.catR {x:RV} {v:Value} (hm:plR x = true) (c:ha7 M' G w x v):ha7 (co7 H.length s M M') (H ++ shH H.length G) w (shR H.length x) v:=by
 cases x with
 | tup l=>obtain ⟨vs,e,c⟩:=c; exact ⟨vs,e,ka7.catR hm c⟩
 | c a=>exact ConR1.catR (x := .c a) hm c
 | agg l=>exact ConR1.catR (x := .agg l) hm c
 | fn f l=>cases hm
 | ifc t y=>cases hm
theorem og7 {p:AV → Bool} (hj:p .junk = true):∀ {l:List AV},l.all p = true → ∀ o,p (nth l o) = true
 | [],_,_=>hj
 | _ :: _,h,0=>by simp only [List.all_cons,Bool.and_eq_true] at h; exact h.1
 | _ :: _,h,o + 1=>by simp only [List.all_cons,Bool.and_eq_true] at h; exact og7 hj h.2 o
theorem oj7 {l:List (List AV)} (h:(l.all fun l=>l.all AV.mfr) = true) (i:Nat):(l.getD i []).all AV.mfr = true:=by
 rw [List.getD_eq_getElem?_getD]
 cases hi:l[i]? with
 | none=>rfl
 | some x=>exact List.all_eq_true.1 h x (List.mem_of_getElem? hi)
theorem za7.mfr {rho rho':Nat → Prop} {x:AV} {v:Value} (hm:x.mfr = true) (c:za7 rho w x v):za7 rho' w x v:=by
 cases x <;> first | exact c | cases hm
theorem Rel.cat (h:Rel E M H w') (hl:∀ b,M.rho b → b < w.heap.size) (hp:∀ id fz t sz r,aa7 H id = .live fz t sz r → M.phi id < w.heap.size) (ht:∀ b q,M.tau b = some q → b < w.heap.size) (hE:E.W0.heap.size ≤ w.heap.size) {rho:Nat → Prop}
  (k:Rel ⟨w,rho⟩ M' G w') (pl:G.all cs7 = true):Rel E (co7 H.length w.heap.size M M') (H ++ shH H.length G) w':=by
 have plg:∀ {j:Nat} {fz:Bool} {t:TypeId} {sz:Nat} {r:Row},aa7 G j = .live fz t sz r → qs7 r = true:=fun {j fz t sz r} hr=>by
  have go:∀ (G:List Root) (j:Nat),G.all cs7 = true → cs7 (aa7 G j) = true:=by
   intro G
   induction G with
   | nil=>intro j _; rfl
   | cons a l ih =>
    intro j h
    simp only [List.all_cons,Bool.and_eq_true] at h
    cases j with
    | zero=>exact h.1
    | succ j=>exact ih j h.2
  have:=go G j pl
  rw [hr] at this; exact this
 refine ⟨h.bel,fun id fz t sz r hr => ?_,fun id fz t sz r hr => ?_,fun id t sz r hr => ?_,fun id t sz r hr => ?_,fun i j t s r t' s' r' hi hj he => ?_,fun b hb => ?_,fun b hb => ?_,h.tau.keep rfl (fun _ _ _=>rfl) (fun b q hq hb => ?_) fun b q j fz t s r hq hj => ?_⟩
 ·rcases sc7 hr with ⟨h1,h2⟩ | ⟨h1,r0,h2,rfl⟩
  ·rw [qc7 h1]; exact h.low _ _ _ _ _ h2
  ·rw [nc7 h1]; exact Nat.le_trans hE (k.low _ _ _ _ _ h2)
 ·rcases sc7 hr with ⟨h1,h2⟩ | ⟨h1,r0,h2,rfl⟩
  ·rw [qc7 h1]
   exact (h.row _ _ _ _ _ h2).keep (fun x v c=>c.catL) (fun _ _=>rfl) (fun _ => .inl) rfl
  ·rw [nc7 h1]
   obtain ⟨cur,k1,k2,k3,k4,k5,k6⟩:=k.row _ _ _ _ _ h2
   refine ⟨cur,k1,k2,by rw [qd7]; exact k3,k4,by rw [zm7]; exact k5,fun i hi o ho => ?_⟩
   rw [qd7] at hi
   obtain ⟨v,v1,v2,v3⟩:=k6 i hi o ho
   refine ⟨v,v1,v2, ?_⟩
   have hpl:=plg h2
   unfold pc7 at v3 ⊢
   rw [bn7]
   cases r0 with
   | box l =>
    simp only [Row.isBox,if_true] at v3 ⊢
    show Con _ _ w' (nth (shL H.length l) o) v
    rw [cn7]
    exact Con.catR (og7 (p:=AV.mfr) rfl hpl o) v3
   | own l =>
    simp only [Row.isBox,if_true] at v3 ⊢
    show Con _ _ w' (nth ((xr7 H.length l).getD i []) o) v
    rw [fj7,cn7]
    exact Con.catR (og7 (p:=AV.mfr) rfl (oj7 hpl i) o) v3
   | gen l=>exact za7.mfr (og7 (p:=AV.mfr) rfl (oj7 hpl i) o) v3
   | ints=>exact v3
   | bools=>exact v3
 ·rcases sc7 hr with ⟨h1,h2⟩ | ⟨h1,r0,h2,rfl⟩
  ·rw [qc7 h1]; exact .inl (h.froz _ _ _ _ h2)
  ·rw [nc7 h1]; exact .inr ⟨k.froz _ _ _ _ h2,k.low _ _ _ _ _ h2⟩
 ·rcases sc7 hr with ⟨h1,h2⟩ | ⟨h1,r0,h2,rfl⟩
  ·rw [qc7 h1]
   rintro (hb | ⟨-,hb⟩)
   ·exact h.thaw _ _ _ _ h2 hb
   ·have:=hp _ _ _ _ _ h2; omega
  ·rw [nc7 h1]
   rintro (hb | ⟨hb, -⟩)
   ·have:=hl _ hb
    have:=k.low _ _ _ _ _ h2
    simp only at this
    omega
   ·exact k.thaw _ _ _ _ h2 hb
 ·rcases sc7 hi with ⟨h1,h2⟩ | ⟨h1,r0,h2,rfl⟩ <;> rcases sc7 hj with ⟨g1,g2⟩ | ⟨g1,r1,g2,rfl⟩
  ·rw [qc7 h1,qc7 g1] at he; exact h.inj _ _ _ _ _ _ _ _ h2 g2 he
  ·rw [qc7 h1,nc7 g1] at he
   have:=hp _ _ _ _ _ h2
   have:=k.low _ _ _ _ _ g2
   simp only at this
   omega
  ·rw [nc7 h1,qc7 g1] at he
   have:=hp _ _ _ _ _ g2
   have:=k.low _ _ _ _ _ h2
   simp only at this
   omega
  ·rw [nc7 h1,nc7 g1] at he
   have:=k.inj _ _ _ _ _ _ _ _ h2 g2 he
   omega
 ·rcases hb with hb | ⟨hb, -⟩
  ·exact h.rlt b hb
  ·exact k.rlt b hb
 ·rcases hb with hb | ⟨-,hb⟩
  ·exact h.src b hb
  ·exact .inr (Nat.le_trans hE hb)
 ·rcases hb with hb | ⟨-,hb⟩
  ·exact (h.tau.new b q hq).2 hb
  ·have:=ht b q hq; omega
 ·rcases sc7 hj with ⟨h1,h2⟩ | ⟨h1,r0,h2,rfl⟩
  ·rw [qc7 h1]; exact h.tau.row _ _ _ _ _ _ _ hq h2
  ·rw [nc7 h1]
   have:=k.low _ _ _ _ _ h2
   have:=ht b q hq
   simp only at *
   omega
theorem om7 {pu:Pu} {f:FuncId} {args:List RV} {K:RV → List Root → Prop} (d:Nat) (ho:args.all (nf7 H d) = true) (hp:ab7 P none f (me7 H d args) [] (fun r G=>(fr7 r = true ∧ K r H) ∨ ((plR r = true ∧ G.all cs7 = true) ∧ K (shR H.length r) (H ++ shH H.length G)))):ab7 P pu f args H K:=by
 refine ⟨hp.1,fun E M w vs h hc => ?_⟩
 have e5:=kf7 h d ho hc
 have hrho:∀ b,gn7 M H b → b < w.heap.size:=fun b hb=>by
  rcases hb with hb | ⟨id,fz,t,sz,r,hr,rfl⟩
  ·exact h.rlt b hb
  ·exact h.lt hr
 have hrel:Rel ⟨w,gn7 M H⟩ ⟨fun _=>0,gn7 M H,fun _=>none⟩ [] w:=⟨Below.refl _ _,fun _ _ _ _ _ h=>(by cases h),fun _ _ _ _ _ h=>(by cases h),fun _ _ _ _ h=>(by cases h),fun _ _ _ _ h=>(by cases h),fun _ _ _ _ _ _ _ _ h=>(by cases h),hrho,fun b hb => .inl hb,⟨fun _ _ h=>(by cases h),fun _ _ _ _ _ _ _ h=>(by cases h),fun _ _ _ h=>(by cases h)⟩⟩
 refine (hp.2 _ _ w vs hrel (cb7.up e5)).mono ?_
 rintro e w' ⟨M',G,r,v,rfl,h1,h2,h3,h4,h5,h6⟩
 have hb:Below w.heap.size w w':=h1.bel
 rcases h6 with ⟨h6,h8⟩ | ⟨⟨h6,h7⟩,h8⟩
 ·exact ⟨M,H,r,v,rfl,h.below hb,Kp.below h hb,uh7.up (mo7 h6 h3),fun _ _=>hc7.below hb,Nat.le_refl _,h8⟩
 refine ⟨co7 H.length w.heap.size M M',H ++ shH H.length G,_,v,rfl, ?_,fun x u c=>(Kp.below h hb x u c).catL,ha7.catR h6 h3,fun _ _=>hc7.below hb,by simp,h8⟩
 exact (h.below hb).cat h.rlt (fun _ _ _ _ _ hr=>h.lt hr) (fun b q hq=>h.tau.lt hq) (by have:=h.bel.size; exact this) h1 h7
def gcB (n:Nat) (K:RV → List Root → Bool) (r:RV) (H:List Root):Bool :=
 decide (n ≤ H.length) && okI n (qg7 n H 100000 (jo7 r ++ zp7 (H.take n)) []) && K (ds7 n (qg7 n H 100000 (jo7 r ++ zp7 (H.take n)) []) r) (kk7 n (qg7 n H 100000 (jo7 r ++ zp7 (H.take n)) []) H)
theorem ho7 {pu:Pu} {f:FuncId} {args:List RV} {K:RV → List Root → Bool} (hp:ab7 P pu f args H (fun r H'=>gcB H.length K r H' = true)):ab7 P pu f args H (fun r H'=>K r H' = true):=by
 refine ⟨hp.1,fun E M w vs h hc=>(hp.2 E M w vs h hc).mono ?_⟩
 rintro e w' ⟨M',H',r,v,rfl,h1,h2,h3,h4,h5,h6⟩
 unfold gcB at h6
 simp only [Bool.and_eq_true,decide_eq_true_eq] at h6
 obtain ⟨⟨g1,g2⟩,g3⟩:=h6
 refine ⟨_,_,_,v,rfl,h1.ren g1 g2,fun x u c => ?_,h3.ren g1,h4,by rw [yc7 g1]; omega,g3⟩
 have:=(h2 x u c).ren (ids:=qg7 H.length H' 100000 (jo7 r ++ zp7 (H'.take H.length)) []) g1
 rw [yg7 (vj7 c)] at this
 exact this
def gcX (n:Nat) (K:RV → List Root → Bool) (r:RV) (H:List Root):Bool :=
 match Nat.ble H.length (n + 16) with
 | true=>K r H
 | false=>gcB n K r H
theorem km7 {pu:Pu} {f:FuncId} {args:List RV} {K:RV → List Root → Bool} (hp:ab7 P pu f args H (fun r H'=>gcX H.length K r H' = true)):ab7 P pu f args H (fun r H'=>K r H' = true):=by
 refine ⟨hp.1,fun E M w vs h hc=>(hp.2 E M w vs h hc).mono ?_⟩
 rintro e w' ⟨M',H',r,v,rfl,h1,h2,h3,h4,h5,h6⟩
 unfold gcX at h6
 split at h6
 ·exact ⟨_,_,_,v,rfl,h1,h2,h3,h4,h5,h6⟩
 ·unfold gcB at h6
  simp only [Bool.and_eq_true,decide_eq_true_eq] at h6
  obtain ⟨⟨g1,g2⟩,g3⟩:=h6
  refine ⟨_,_,_,v,rfl,h1.ren g1 g2,fun x u c => ?_,h3.ren g1,h4,by rw [yc7 g1]; omega,g3⟩
  have:=(h2 x u c).ren (ids:=qg7 H.length H' 100000 (jo7 r ++ zp7 (H'.take H.length)) []) g1
  rw [yg7 (vj7 c)] at this
  exact this
theorem yt7 {K:RV → List Root → Bool} {r:RV} (h:gcX n K r H = true):∃ r H',K r H' = true:=by
 unfold gcX at h
 split at h
 ·exact ⟨_,_,h⟩
 ·unfold gcB at h
  simp only [Bool.and_eq_true] at h
  exact ⟨_,_,h.2⟩
theorem sg7 {rho:Nat → Prop} (k:Nat):∀ {l m:List AV} {vs:List Value},leL k l m = true → jb7 rho w l vs → jb7 rho w m vs
 | [],[],_,_,c=>c
 | _ :: _,_ :: _,_,h,⟨v,r,e,c1,c2⟩=>by
  simp only [leL,Bool.and_eq_true] at h
  exact ⟨v,r,e,od7 k h.1 c1,sg7 k h.2 c2⟩
 | [],_ :: _,_,h,_=>by cases h
 | _ :: _,[],_,h,_=>by cases h
theorem po7 {rho:Nat → Prop} (k:Nat) {x y:RV} {v:Value} (h:ks7 k x y = true) (c:mc7 rho w x v):mc7 rho w y v:=by
 unfold ks7 at h
 split at h
 ·trivial
 ·exact od7 k h c
 ·obtain ⟨vs,e,c⟩:=c; exact ⟨vs,e,sg7 k h c⟩
 ·simp only [Bool.and_eq_true,decide_eq_true_eq] at h
  obtain ⟨rfl,h⟩:=h
  obtain ⟨vs,e,c⟩:=c; exact ⟨vs,e,sg7 k h c⟩
 ·exact c.elim
 ·exact c.elim
 ·cases h
theorem sh7 {rho:Nat → Prop} (k:Nat):∀ {l m:List RV} {vs:List Value},qr7 k l m = true → cb7 rho w l vs → cb7 rho w m vs
 | [],[],_,_,c=>c
 | _ :: _,_ :: _,_,h,⟨v,r,e,c1,c2⟩=>by
  simp only [qr7,Bool.and_eq_true] at h
  exact ⟨v,r,e,po7 k h.1 c1,sh7 k h.2 c2⟩
 | [],_ :: _,_,h,_=>by cases h
 | _ :: _,[],_,h,_=>by cases h
structure Sum where
 f:FuncId
 args:List RV
 r:RV
 G:List Root
def bb7 (P:Program) (s:Sum):Prop:=ab7 P none s.f s.args [] (fun r G=>r = s.r ∧ G = s.G)
theorem bt7 {s:Sum} (h:ab7 P none s.f s.args [] (fun r G=>(leR 8 r s.r && leH 8 G s.G) = true)):bb7 P s:=by
 refine ⟨h.1,fun E M w vs hr hc=>(h.2 E M w vs hr hc).mono ?_⟩
 rintro e w' ⟨M',H',r,v,rfl,h1,h2,h3,h4,h5,h6⟩
 simp only [Bool.and_eq_true] at h6
 exact ⟨M',s.G,s.r,v,rfl,h1.le h6.2,h2.trans (Kp.le h6.2),sm7 (tb7 h6.2) 8 h6.1 h3,h4,by rw [← (tb7 h6.2).1]; exact h5,rfl,rfl⟩
def wv7 (H:List Root) (d:Nat) (f:FuncId) (args:List RV) (s:Sum):Bool:=Nat.beq s.f f && args.all (nf7 H d) && qr7 8 (me7 H d args) s.args && plR s.r && s.G.all cs7
theorem yl7 {pu:Pu} {f:FuncId} {args:List RV} {K:RV → List Root → Prop} {d:Nat} {s:Sum} (hs:bb7 P s) (h:wv7 H d f args s = true) (hK:K (shR H.length s.r) (H ++ shH H.length s.G)):ab7 P pu f args H K:=by
 unfold wv7 at h
 simp only [Bool.and_eq_true] at h
 obtain ⟨⟨⟨⟨h1,h2⟩,h3⟩,h4⟩,h5⟩:=h
 obtain rfl:=Nat.eq_of_beq_eq_true h1
 refine ⟨hs.1,fun E M w vs hr hc => ?_⟩
 have e5:=sh7 8 h3 (kf7 hr d h2 hc)
 have hrho:∀ b,gn7 M H b → b < w.heap.size:=fun b hb=>by
  rcases hb with hb | ⟨id,fz,t,sz,r,hr2,rfl⟩
  ·exact hr.rlt b hb
  ·exact hr.lt hr2
 have hrel:Rel ⟨w,gn7 M H⟩ ⟨fun _=>0,gn7 M H,fun _=>none⟩ [] w:=⟨Below.refl _ _,fun _ _ _ _ _ h=>(by cases h),fun _ _ _ _ _ h=>(by cases h),fun _ _ _ _ h=>(by cases h),fun _ _ _ _ h=>(by cases h),fun _ _ _ _ _ _ _ _ h=>(by cases h),hrho,fun b hb => .inl hb,⟨fun _ _ h=>(by cases h),fun _ _ _ _ _ _ _ h=>(by cases h),fun _ _ _ h=>(by cases h)⟩⟩
 refine (hs.2 _ _ w vs hrel (cb7.up e5)).mono ?_
 rintro e w' ⟨M',G,r,v,rfl,g1,g2,g3,g4,g5,rfl,rfl⟩
 have hb:Below w.heap.size w w':=g1.bel
 refine ⟨co7 H.length w.heap.size M M',H ++ shH H.length s.G,_,v,rfl, ?_,fun x u c=>(Kp.below hr hb x u c).catL,ha7.catR h4 g3,fun _ _=>hc7.below hb,by simp,hK⟩
 exact (hr.below hb).cat hr.rlt (fun _ _ _ _ _ h=>hr.lt h) (fun b q hq=>hr.tau.lt hq) (by have:=hr.bel.size; exact this) g1 h5
theorem xt7 {K:RV → List Root → Bool} {r:RV} (h:gcB n K r H = true):∃ r H',K r H' = true:=by
 unfold gcB at h
 simp only [Bool.and_eq_true] at h
 exact ⟨_,_,h.2⟩
end
def ee7 (n0 nt:Nat) (body:(Exit → AS → Bool) → AS → Bool):Nat → (Exit → AS → Bool) → AS → Bool
 | 0,_,_=>false
 | m + 1,Q,σ=>body (jl7 (fun σ'=>match Nat.ble σ'.H.length (n0 + 16) with
   | true=>ee7 n0 nt body m Q σ'
   | false=>decide (n0 ≤ σ'.H.length) && okI n0 (canon n0 nt σ') && ee7 n0 nt body m Q (hh7 n0 nt σ')) Q) σ
section
variable (P:Program) (ty:Ty) (call:bd7)
def dl7 (ops:Array Oper):List Oper → (AS → Bool) → AS → Bool
 | [],K,σ=>K σ
 | o :: l,K,σ=>opX P ty call none ops σ o (dl7 ops l K)
def fc7 (ord:Nat → Bool × List Nat) (n nt:Nat):Code → (Exit → AS → Bool) → AS → Bool
 | .skip,Q,σ=>Q .normal σ
 | .region id ops dr,Q,σ=>if dr then aq7 P ty call nt ops (ord id) (Q .normal) σ else dl7 P ty call ops ops.toList (Q .normal) σ
 | .seq a b,Q,σ=>fc7 ord n nt a (jl7 (fc7 ord n nt b Q) Q) σ
 | .cond c a b,Q,σ=>match σ.rd c with
  | (true, .c (.bool t))=>if t then fc7 ord n nt a Q σ else fc7 ord n nt b Q σ
  | _=>false
 | .block id a,Q,σ=>fc7 ord n nt a (st7 id Q) σ
 | .exit id,Q,σ=>Q (.exit id) σ
 | .ret,Q,σ=>Q .ret σ
 | .loop c,Q,σ=>ee7 σ.H.length nt (fc7 ord n nt c) n Q σ
 | _,_,_=>false
end
def okX (nt:Nat):Code → Bool
 | .region _ ops _=>en7 nt ops
 | .seq a b=>okX nt a && okX nt b
 | .cond _ a b=>okX nt a && okX nt b
 | .block _ a=>okX nt a
 | .loop a=>okX nt a
 | _=>true
section
variable {P:Program} {ty:Ty} {call:bd7} {E:Env} {nt n:Nat} {M:Mp} {σ:AS} {a:Act} {w:World} {ops:Array Oper} {ord:Nat → Bool × List Nat}
theorem ek7 (hT:ob7 P ty) (hcall:∀ pu f args H K,call pu f args H K = true → ab7 P pu f args H (fun r H=>K r H = true)) {K:AS → Bool} {Q:Exit → Act → World → Prop}:∀ (l:List Oper) {M:Mp} {σ:AS} {a:Act} {w:World},St E nt M σ a w → (∀ o ∈ l, ∀ t,o.dst = some t → t < nt) → dl7 P ty call ops l K σ = true →
  (∀ a' w',After E nt M σ a w (up7 l) (fun σ=>K σ = true) a' w' → Q .normal a' w') → wpList P ops Q l a w
 | [],M,σ,a,w,h,_,hw,hQ=>hQ a w ⟨M,σ,h,Stp.refl _ _ _ _ _,hw⟩
 | o :: l,M,σ,a,w,h,hd,hw,hQ=>by
  have:=ym7 (Q:=Q) (next:=wpList P ops Q l) hT hcall h (hd o (List.mem_cons_self ..)) hw fun M' σ' a' w' q1 _ q3 q4 =>
   ek7 hT hcall l q1 (fun o ho=>hd o (List.mem_cons_of_mem _ ho)) q4 fun a2 w2 hA=>hQ a2 w2 (by
    obtain ⟨M2,σ2,r1,r2,r3⟩:=hA
    exact ⟨M2,σ2,r1,q3.trans r2 (fun t ht=>⟨o,List.mem_cons_self ..,ht⟩) (fun t ⟨o2,ho,ht⟩=>⟨o2,List.mem_cons_of_mem _ ho,ht⟩),r3⟩)
  unfold wpList
  split
  ·rename_i hwt; rw [if_pos hwt] at this; exact .inl this
  ·rename_i hwt; rw [if_neg hwt] at this; exact this
theorem zb7 (hT:ob7 P ty) (hm:P.follows .mixedOrders = true) (hcall:∀ pu f args H K,call pu f args H K = true → ab7 P pu f args H (fun r H=>K r H = true)) (hx:ec7 call):∀ (c:Code),okX nt c = true → ∀ {K:Exit → AS → Bool} {M:Mp} {σ:AS} {a:Act} {w:World},St E nt M σ a w → fc7 P ty call ord n nt c K σ = true →
  c.wp P (fun e a' w'=>(∀ ch,e ≠ .panic ch) ∧ After E nt M σ a w (qu7 c) (fun σ=>K e σ = true) a' w') a w
 | .skip,_,K,M,σ,a,w,h,hw=>wp_skip ⟨fun _ e=>(by cases e),M,σ,h,Stp.refl _ _ _ _ _,hw⟩
 | .exit id,_,K,M,σ,a,w,h,hw=>wp_exit ⟨fun _ e=>(by cases e),M,σ,h,Stp.refl _ _ _ _ _,hw⟩
 | .ret,_,K,M,σ,a,w,h,hw=>wp_ret ⟨fun _ e=>(by cases e),M,σ,h,Stp.refl _ _ _ _ _,hw⟩
 | .region id ops dr,hc,K,M,σ,a,w,h,hw=>by
  have hc:en7 nt ops = true:=hc
  have hds:∀ t,up7 ops.toList t → qu7 (.region id ops dr) t:=fun t ⟨o,ho,e⟩=>List.mem_filterMap.2 ⟨o,ho,e⟩
  cases dr with
  | true =>
   have hw:aq7 P ty call nt ops (ord id) (K .normal) σ = true:=hw
   exact cq7 hT hm hcall hx hc h hw (fun a' w' ⟨M2,σ2,r1,r2,r3⟩=>⟨fun _ e=>(by cases e),M2,σ2,r1,r2.mono hds,r3⟩) fun c a w hh=>hh.1 c rfl
  | false =>
   have hw:dl7 P ty call ops ops.toList (K .normal) σ = true:=hw
   exact wp_region_list (ek7 hT hcall ops.toList h (uf7 hc) hw fun a' w' ⟨M2,σ2,r1,r2,r3⟩=>⟨fun _ e=>(by cases e),M2,σ2,r1,r2.mono hds,r3⟩)
 | .seq x y,hc,K,M,σ,a,w,h,hw=>by
  simp only [okX,Bool.and_eq_true] at hc
  refine wp_seq (wp_mono (zb7 hT hm hcall hx x hc.1 h (K:=jl7 (fc7 P ty call ord n nt y K) K) hw) fun e a1 w1 ⟨hp,M1,σ1,q1,q2,q3⟩ => ?_)
  cases e with
  | normal =>
   refine wp_mono (zb7 hT hm hcall hx y hc.2 q1 q3) fun e a2 w2 ⟨hp2,M2,σ2,r1,r2,r3⟩=>⟨hp2,M2,σ2,r1,q2.trans r2 (fun t ht=>List.mem_append_left _ ht) (fun t ht=>List.mem_append_right _ ht),r3⟩
  | panic ch=>exact absurd rfl (hp ch)
  | exit id=>exact ⟨hp,M1,σ1,q1,q2.mono fun t ht=>List.mem_append_left _ ht,q3⟩
  | goto l=>exact ⟨hp,M1,σ1,q1,q2.mono fun t ht=>List.mem_append_left _ ht,q3⟩
  | ret=>exact ⟨hp,M1,σ1,q1,q2.mono fun t ht=>List.mem_append_left _ ht,q3⟩
  | outgrown=>exact ⟨hp,M1,σ1,q1,q2.mono fun t ht=>List.mem_append_left _ ht,q3⟩
 | .cond x y z,hc,K,M,σ,a,w,h,hw=>by
  simp only [okX,Bool.and_eq_true] at hc
  unfold fc7 at hw
  split at hw
  ·rename_i b hb
   have hv:=h.rd (x:=x) (by rw [hb])
   rw [hb] at hv
   have hv':a.eval x = .bool b:=hv
   refine wp_cond hv' ?_
   cases b with
   | true=>exact wp_mono (zb7 hT hm hcall hx y hc.1 h (by simpa using hw)) fun e a1 w1 ⟨hp,M1,σ1,q1,q2,q3⟩=>⟨hp,M1,σ1,q1,q2.mono fun t ht=>List.mem_append_left _ ht,q3⟩
   | false=>exact wp_mono (zb7 hT hm hcall hx z hc.2 h (by simpa using hw)) fun e a1 w1 ⟨hp,M1,σ1,q1,q2,q3⟩=>⟨hp,M1,σ1,q1,q2.mono fun t ht=>List.mem_append_right _ ht,q3⟩
  ·cases hw
 | .block id x,hc,K,M,σ,a,w,h,hw=>by
  refine wp_block (wp_mono (zb7 hT hm hcall hx x hc h (K:=st7 id K) hw) fun e a1 w1 ⟨hp,M1,σ1,q1,q2,q3⟩ => ?_)
  cases e with
  | exit j =>
   simp only [Exit.inBlock]
   simp only [st7] at q3
   split
   ·rename_i e; rw [if_pos e] at q3; exact ⟨fun _ e=>(by cases e),M1,σ1,q1,q2,q3⟩
   ·rename_i e; rw [if_neg e] at q3; exact ⟨hp,M1,σ1,q1,q2,q3⟩
  | normal=>exact ⟨hp,M1,σ1,q1,q2,q3⟩
  | panic ch=>exact absurd rfl (hp ch)
  | goto l=>exact ⟨hp,M1,σ1,q1,q2,q3⟩
  | ret=>exact ⟨hp,M1,σ1,q1,q2,q3⟩
  | outgrown=>exact ⟨hp,M1,σ1,q1,q2,q3⟩
 | .loop x,hc,K,M,σ,a,w,h,hw=>by
  have hw:ee7 σ.H.length nt (fc7 P ty call ord n nt x) n K σ = true:=hw
  have hc:okX nt x = true:=hc
  have go:∀ (m:Nat) {M1:Mp} {σ1:AS} {a1:Act} {w1:World},St E nt M1 σ1 a1 w1 → Stp M σ a w M1 σ1 a1 w1 (qu7 x) → ee7 σ.H.length nt (fc7 P ty call ord n nt x) m K σ1 = true → Code.rounds P x (fun e a' w'=>(∀ ch,e ≠ .panic ch) ∧ After E nt M σ a w (qu7 x) (fun σ=>K e σ = true) a' w') m a1 w1:=by
   intro m
   induction m with
   | zero=>intro M1 σ1 a1 w1 _ _ h; cases h
   | succ m ih =>
    intro M1 σ1 a1 w1 h1 hst hw
    rw [rounds_succ]
    refine wp_mono (zb7 hT hm hcall hx x hc h1 hw) fun e a2 w2 ⟨hp,M2,σ2,q1,q2,q3⟩ => ?_
    have q4:=hst.trans q2 (fun _ h=>h) (fun _ h=>h)
    cases e with
    | normal =>
     simp only [jl7] at q3
     split at q3
     ·exact ih q1 q4 q3
     simp only [Bool.and_eq_true,decide_eq_true_eq] at q3
     obtain ⟨⟨g1,g2⟩,g3⟩:=q3
     refine ih (q1.norm g1 g2) ⟨?_,q4.kp.norm q4.len,q4.tm⟩ g3
     show σ.H.length ≤ (kk7 σ.H.length (canon σ.H.length nt σ2) σ2.H).length
     rw [yc7 g1]; omega
    | panic ch=>exact absurd rfl (hp ch)
    | exit id=>exact ⟨hp,M2,σ2,q1,q4,q3⟩
    | goto l=>exact ⟨hp,M2,σ2,q1,q4,q3⟩
    | ret=>exact ⟨hp,M2,σ2,q1,q4,q3⟩
    | outgrown=>exact ⟨hp,M2,σ2,q1,q4,q3⟩
  exact wp_loop_rounds _ (go n h (Stp.refl _ _ _ _ _) hw)
 | .label l,_,_,_,_,_,_,_,h=>by cases h
 | .goto l,_,_,_,_,_,_,_,h=>by cases h
 | .scope b,_,_,_,_,_,_,_,h=>by cases h
 | .rangeFunc ..,_,_,_,_,_,_,_,h=>by cases h
 | .refuse y,_,_,_,_,_,_,_,h=>by cases h
theorem ij7 (hx:ec7 call) {K:AS → Bool}:∀ (l:List Oper) {σ:AS},dl7 P ty call ops l K σ = true → ∃ σ,K σ = true
 | [],_,h=>⟨_,h⟩
 | o :: l,_,h=>by
  obtain ⟨σ',h⟩:=un7 hx h
  exact ij7 hx l h
theorem ng7 (hx:ec7 call) {fins:List Nat} {L:AS → Bool}:∀ (m:Nat) {dy:Bool} {l:Array Bool} {σ:AS},nj7 P ty call ops fins L m dy l σ = true → ∃ σ,L σ = true
 | 0,_,_,_,h=>by
  simp only [nj7,Bool.and_eq_true] at h
  exact ⟨_,h.2⟩
 | m + 1,dy,l,σ,h=>by
  unfold nj7 at h
  split at h
  ·obtain ⟨σ',h⟩:=af7 hx h
   exact ng7 hx m h
  split at h
  ·obtain ⟨σ',h⟩:=af7 hx h
   exact ng7 hx m h
  ·simp only [Bool.and_eq_true,List.all_eq_true,Bool.not_eq_true'] at h
   obtain ⟨h1,h2⟩:=h
   cases hr:Region.ready .any ops l with
   | nil=>rw [hr] at h1; cases h1
   | cons i r =>
    obtain ⟨σ',h⟩:=un7 hx (h2 i (by rw [hr]; exact List.mem_cons_self ..)).2
    exact ng7 hx m h
theorem rq7 (hx:ec7 call) {q:Bool × List Nat} {K:AS → Bool} (h:aq7 P ty call nt ops q K σ = true):∃ σ,K σ = true:=by
 unfold aq7 at h
 simp only [Bool.and_eq_true] at h
 obtain ⟨-,h⟩:=h
 split at h
 ·obtain ⟨σf,h⟩:=ye7 hx _ h
  simp only [Bool.and_eq_true] at h
  exact ⟨_,h.2⟩
 ·exact ng7 hx _ h
theorem nb7 (hx:ec7 call):∀ (c:Code) {K:Exit → AS → Bool} {σ:AS},fc7 P ty call ord n nt c K σ = true → ∃ e σ,K e σ = true
 | .skip,_,_,h=>⟨_,_,h⟩
 | .exit _,_,_,h=>⟨_,_,h⟩
 | .ret,_,_,h=>⟨_,_,h⟩
 | .region id ops dr,K,σ,h=>by
  cases dr with
  | true =>
   obtain ⟨σ',h⟩:=rq7 hx (show aq7 P ty call nt ops (ord id) (K .normal) σ = true from h)
   exact ⟨_,_,h⟩
  | false =>
   obtain ⟨σ',h⟩:=ij7 hx _ (show dl7 P ty call ops ops.toList (K .normal) σ = true from h)
   exact ⟨_,_,h⟩
 | .seq x y,K,σ,h=>by
  obtain ⟨e,σ',h⟩:=nb7 hx x (K:=jl7 (fc7 P ty call ord n nt y K) K) h
  cases e with
  | normal=>exact nb7 hx y h
  | _=>exact ⟨_,_,h⟩
 | .cond x y z,K,σ,h=>by
  unfold fc7 at h
  split at h
  ·split at h
   ·exact nb7 hx y h
   ·exact nb7 hx z h
  ·cases h
 | .block id x,K,σ,h=>by
  obtain ⟨e,σ',h⟩:=nb7 hx x (K:=st7 id K) h
  cases e with
  | exit j =>
   simp only [st7] at h
   split at h <;> exact ⟨_,_,h⟩
  | _=>exact ⟨_,_,h⟩
 | .loop x,K,σ,h=>by
  have go:∀ (n0 m:Nat) {σ:AS},ee7 n0 nt (fc7 P ty call ord n nt x) m K σ = true → ∃ e σ,K e σ = true:=by
   intro n0 m
   induction m with
   | zero=>intro σ h; cases h
   | succ m ih =>
    intro σ h
    obtain ⟨e,σ',h⟩:=nb7 hx x h
    cases e with
    | normal =>
     simp only [jl7] at h
     split at h
     ·exact ih h
     ·simp only [Bool.and_eq_true] at h
      exact ih h.2
    | _=>exact ⟨_,_,h⟩
  exact go _ _ h
 | .label l,_,_,h=>by cases h
 | .goto l,_,_,h=>by cases h
 | .scope b,_,_,h=>by cases h
 | .rangeFunc ..,_,_,h=>by cases h
 | .refuse y,_,_,h=>by cases h
end
structure FnX where
 code:Code
 res:List ResultVar
 nt:Nat
 ord:Nat → Bool × List Nat
def jr7 (P : Program) (f : FuncId) (t : FnX) : Prop := ∃ fn, P.funcs[f]? = some fn ∧ fn.body = some t.code ∧ (fn.name == "runtime.NumGoroutine") = false ∧ fn.ntmps = t.nt ∧ fn.results.toList = t.res ∧ okX t.nt t.code = true
def ew7 (P:Program) (f:FuncId):Bool :=
 match P.funcs[f]? with
 | some fn=>match fn.body with
  | some c => !(fn.name == "runtime.NumGoroutine") && okX fn.ntmps c
  | none=>false
 | none=>false
def yv7 (P:Program) (ord:FuncId → Nat → Bool × List Nat) (fs:List FuncId) (f:FuncId):Option FnX :=
 if fs.contains f then
  match P.funcs[f]? with
  | some fn=>match fn.body with
   | some c=>some ⟨c,fn.results.toList,fn.ntmps,ord f⟩
   | none=>none
  | none=>none
 else none
theorem kq7 {P:Program} {ord:FuncId → Nat → Bool × List Nat} {fs:List FuncId} (h:fs.all (ew7 P) = true) (f:FuncId) (t:FnX) (ht:yv7 P ord fs f = some t):jr7 P f t:=by
 unfold yv7 at ht
 split at ht
 ·rename_i hm
  have hb:=List.all_eq_true.1 h f (by simpa using hm)
  unfold ew7 at hb
  split at ht
  ·rename_i fn hf
   rw [hf] at hb
   simp only at hb
   split at ht
   ·rename_i c hc
    rw [hc] at hb
    simp only [Bool.and_eq_true,Bool.not_eq_true'] at hb
    cases ht
    exact ⟨fn,hf,hc,hb.1,rfl,rfl,hb.2⟩
   ·cases ht
  ·cases ht
 ·cases ht
def ui7 (P:Program) (ty:Ty) (T:FuncId → Option FnX) (S:List Sum) (n d:Nat):Nat → bd7
 | 0,_,_,_,_,_=>false
 | k + 1,pu,f,args,H,K=>match S.find? (wv7 H d f args) with
  | some s=>K (shR H.length s.r) (H ++ shH H.length s.G)
  | none=>match T f with
   | some t=>decide (args.length ≤ t.nt) && (if pu.isNone then fc7 P ty (ui7 P ty T S n d k) t.ord n t.nt t.code (yr7 ty t.res (gcX H.length K)) ⟨cm7 0 args,H⟩
    else args.all (nf7 H d) && fc7 P ty (ui7 P ty T S n d k) t.ord n t.nt t.code (yr7 ty t.res (fun r G=>match fr7 r with
     | true=>K r H
     | false=>gcB 0 (fun r G=>plR r && G.all cs7 && K (shR H.length r) (H ++ shH H.length G)) r G)) ⟨cm7 0 (me7 H d args),[]⟩)
   | none=>false
section
variable {P:Program} {ty:Ty}
theorem bg7 (hT:ob7 P ty) (hm:P.follows .mixedOrders = true) {call:bd7} (hcall:∀ pu f args H K,call pu f args H K = true → ab7 P pu f args H (fun r H=>K r H = true)) (hx:ec7 call) {f:FuncId} {t:FnX} (hf:jr7 P f t) {n:Nat} {args:List RV} (hn:args.length ≤ t.nt) {H:List Root} {K:RV → List Root → Bool}
  (h:fc7 P ty call t.ord n t.nt t.code (yr7 ty t.res K) ⟨cm7 0 args,H⟩ = true):ab7 P none f args H (fun r H=>K r H = true):=by
 obtain ⟨fn,h1,h2,h3,h4,h5,h6⟩:=hf
 refine ⟨⟨fn,t.code,h1,h3,h2⟩,fun E M w vs hrel hc=>calls_of_wp h1 h2 ?_⟩
 have hst:=St.enter hrel hc (n:=t.nt) hn
 rw [h4]
 refine wp_mono (zb7 hT hm hcall hx t.code h6 hst h) fun e a' w' ⟨hp,M',σ',q1,q2,q3⟩ => ?_
 have fin:(decide (xj7 ty σ' t.res).1 && K (one (xj7 ty σ' t.res).2) σ'.H) = true → a'.defers = [] ∧ ∃ v,(results fn a'.tmps).run P w' = .ok v w' ∧ ∃ M' H' r v',Ending.returned v = .returned v' ∧ Rel E M' H' w' ∧ Kp M H w M' H' w' ∧ ha7 M' H' w' r v' ∧ (∀ g,(none:Pu) = some g → hc7 (g.map M.phi) w w') ∧ H.length ≤ H'.length ∧ K r H' = true:=by
  intro hr
  simp only [Bool.and_eq_true,decide_eq_true_eq] at hr
  obtain ⟨g1,g2⟩:=hr
  obtain ⟨v,k1,k2⟩:=pk7 hT q1 h5 g1
  exact ⟨q1.df,v,k2,M',σ'.H,_,v,rfl,q1.rel,q2.kp,k1,fun g e=>(by cases e),q2.len,g2⟩
 cases e with
 | normal=>exact fin q3
 | ret=>exact fin q3
 | panic ch=>exact absurd rfl (hp ch)
 | exit id=>cases q3
 | goto l=>cases q3
 | outgrown=>cases q3
theorem vm7 {rs:List ResultVar} {K:RV → List Root → Bool} {e:Exit} {σ:AS} (h:yr7 ty rs K e σ = true):∃ r H,K r H = true:=by
 cases e with
 | ret=>simp only [yr7,Bool.and_eq_true] at h; exact ⟨_,_,h.2⟩
 | normal=>simp only [yr7,Bool.and_eq_true] at h; exact ⟨_,_,h.2⟩
 | _=>cases h
theorem qj7 (hT:ob7 P ty) (hm:P.follows .mixedOrders = true) {T:FuncId → Option FnX} {S:List Sum} {n d:Nat} (hF:∀ f t,T f = some t → jr7 P f t) (hS:∀ s ∈ S,bb7 P s):∀ k:Nat,(∀ (pu:Pu) (f:FuncId) (args:List RV) (H:List Root) (K:RV → List Root → Bool),ui7 P ty T S n d k pu f args H K = true → ab7 P pu f args H (fun r H=>K r H = true)) ∧ ec7 (ui7 P ty T S n d k)
 | 0=>⟨fun _ _ _ _ _ h=>(by cases h),fun _ _ _ _ _ h=>(by cases h)⟩
 | k + 1=>by
  obtain ⟨ih1,ih2⟩:=qj7 hT hm hF hS k
  refine ⟨fun pu f args H K h => ?_,fun pu f args H K h => ?_⟩
  ·simp only [ui7] at h
   split at h
   ·rename_i s hs
    exact yl7 (hS s (List.mem_of_find?_eq_some hs)) (List.find?_some hs) h
   split at h
   ·rename_i t ht
    simp only [Bool.and_eq_true,decide_eq_true_eq] at h
    obtain ⟨h7,h⟩:=h
    split at h
    ·rename_i hpu
     obtain rfl:pu = none:=by cases pu <;> first | rfl | cases hpu
     exact km7 (bg7 hT hm ih1 ih2 (hF f t ht) h7 h)
    ·simp only [Bool.and_eq_true] at h
     obtain ⟨h8,h⟩:=h
     have hk:=bg7 hT hm ih1 ih2 (hF f t ht) (args:=me7 H d args) (by rw [eg7]; exact h7) h
     refine om7 d h8 ⟨hk.1,fun E M w vs hr hc=>(hk.2 E M w vs hr hc).mono ?_⟩
     rintro e w' ⟨M',G,r,v,rfl,g1,g2,g3,g4,g5,g6⟩
     split at g6
     ·rename_i hs
      exact ⟨M',G,r,v,rfl,g1,g2,g3,g4,g5, .inl ⟨hs,g6⟩⟩
     ·unfold gcB at g6
      simp only [Bool.and_eq_true,decide_eq_true_eq] at g6
      obtain ⟨⟨q1,q2⟩,q3⟩:=g6
      refine ⟨_,_,_,v,rfl,g1.ren q1 q2,fun x u c => ?_,g3.ren q1,g4,Nat.zero_le _, .inr q3⟩
      have:=(g2 x u c).ren (ids:=qg7 0 G 100000 (jo7 r ++ zp7 (G.take 0)) []) q1
      rw [yg7 (n:=0) (vj7 c)] at this
      exact this
   ·cases h
  ·simp only [ui7] at h
   split at h
   ·exact ⟨_,_,h⟩
   split at h
   ·rename_i t ht
    simp only [Bool.and_eq_true] at h
    obtain ⟨-,h⟩:=h
    split at h
    ·obtain ⟨e,σ,h⟩:=nb7 ih2 _ h
     obtain ⟨r,H',h⟩:=vm7 h
     exact yt7 h
    ·simp only [Bool.and_eq_true] at h
     obtain ⟨e,σ,h⟩:=nb7 ih2 _ h.2
     obtain ⟨r,H',h⟩:=vm7 h
     split at h
     ·exact ⟨_,_,h⟩
     ·obtain ⟨r,H',h⟩:=xt7 h
      simp only [Bool.and_eq_true] at h
      exact ⟨_,_,h.2⟩
   ·cases h
end
def xw7:List AV → Bool
 | []=>false
 | .nils :: _=>true
 | .nilp :: _=>true
 | _ :: l=>xw7 l
def iw7 (ty:Ty):Ty:=fun t=>⟨(ty t).sz,(ty t).bytes,(ty t).k,(ty t).zero,if xw7 (ty t).zero then some [] else none⟩
theorem tr7 {P:Program} {ty:Ty} (h:ob7 P ty):ob7 P (iw7 ty):=fun t=>by
 refine ⟨?_,(h t).i⟩
 have hk:=(h t).k
 show kOk P (iw7 ty) t (ty t).k
 cases hh:(ty t).k <;> rw [hh] at hk <;> exact hk
def px7:FuncId → Nat → Bool × List Nat
 | 5,n=>match n with | 4=>(false,[]) | _=>(false,[])
 | 6,n=>match n with | 4=>(true,[7]) | 18=>(false,[]) | 23=>(true,[17,19]) | _=>(false,[])
 | 7,n=>match n with | 11=>(true,[13]) | 16=>(false,[16]) | _=>(false,[])
 | 8,n=>match n with | 3=>(false,[]) | 10=>(false,[]) | 13=>(false,[]) | 15=>(false,[]) | _=>(false,[])
 | 10,n=>match n with | 6=>(false,[]) | _=>(false,[])
 | 11,n=>match n with | 2=>(false,[9,11]) | _=>(false,[])
 | 16,n=>match n with | 9=>(false,[]) | 13=>(false,[]) | 14=>(false,[]) | _=>(false,[])
 | 18,n=>match n with | 1=>(false,[]) | _=>(false,[])
 | 24,n=>match n with | 1=>(false,[]) | _=>(false,[])
 | 27,n=>match n with | 11=>(false,[14,16]) | 19=>(false,[11]) | _=>(false,[])
 | 28,n=>match n with | 1=>(false,[]) | _=>(false,[])
 | 29,n=>match n with | 15=>(true,[2]) | _=>(false,[])
 | 30,n=>match n with | 11=>(false,[]) | 15=>(false,[]) | _=>(false,[])
 | 33,n=>match n with | 25=>(false,[11,13]) | _=>(false,[])
 | 34,n=>match n with | 8=>(false,[]) | 13=>(false,[]) | _=>(false,[])
 | 39,n=>match n with | 3=>(true,[11]) | 4=>(false,[]) | _=>(false,[])
 | 40,n=>match n with | 3=>(true,[12]) | 4=>(false,[]) | _=>(false,[])
 | 48,n=>match n with | 6=>(true,[8]) | 20=>(true,[11,13]) | _=>(false,[])
 | 49,n=>match n with | 1=>(true,[10]) | 2=>(false,[]) | 4=>(false,[]) | _=>(false,[])
 | 58,n=>match n with | 19=>(false,[]) | _=>(false,[])
 | 59,n=>match n with | 9=>(false,[13]) | _=>(false,[])
 | 60,n=>match n with | 6=>(false,[]) | _=>(false,[])
 | 61,n=>match n with | 8=>(false,[9]) | _=>(false,[])
 | 64,n=>match n with | 10=>(false,[18,20]) | _=>(false,[])
 | 70,n=>match n with | 1=>(true,[6]) | 5=>(true,[7,9]) | _=>(false,[])
 | 72,n=>match n with | 2=>(true,[6]) | _=>(false,[])
 | 79,n=>match n with | 4=>(false,[]) | 6=>(true,[15,17]) | _=>(false,[])
 | 80,n=>match n with | 5=>(false,[]) | 11=>(true,[15,17]) | 17=>(false,[]) | 23=>(true,[15,17]) | 35=>(false,[]) | _=>(false,[])
 | 86,n=>match n with | 3=>(true,[13,15]) | _=>(false,[])
 | 91,n=>match n with | 3=>(true,[21,23]) | _=>(false,[])
 | 116,n=>match n with | 1=>(false,[]) | 2=>(false,[]) | 3=>(false,[]) | _=>(false,[])
 | 117,n=>match n with | 0=>(true,[13,15]) | _=>(false,[])
 | 119,n=>match n with | 0=>(true,[7,9]) | _=>(false,[])
 | _,_=>(false,[])
def ax7:List FuncId:=[4,5,6,7,8,9,10,11,12,13,14,15,16,17,18,19,20,21,22,23,24,25,26,27,28,29,30,31,32,33,34,35,36,37,38,39,40,41,42,43,44,45,46,47,48,49,50,51,53,54,55,56,57,58,59,60,61,62,63,64,65,66,67,68,69,70,71,72,73,74,75,76,77,78,79,80,81,82,83,84,85,86,87,88,89,90,91,115,116,117,118,119]
def slL (sz:Nat) (l:List (List AV)):AV := .sl l.length sz (fun i j=>nth (l.getD i []) j)
def tyX:Ty:=iw7 ty
theorem ut7:ob7 Tryz.prog tyX:=tr7 zv7
theorem iu7:ax7.all (ew7 Tryz.prog) = true:=by decide +kernel
noncomputable def runX (S:List Sum):bd7:=ui7 Tryz.prog tyX (yv7 Tryz.prog px7 ax7) S 80 8 40
theorem bo7 {S:List Sum} (hS:∀ s ∈ S,bb7 Tryz.prog s) {pu:Pu} {f:FuncId} {args:List RV} {H:List Root} {K:RV → List Root → Bool} (h:runX S pu f args H K = true):ab7 Tryz.prog pu f args H (fun r H=>K r H = true) :=
 (qj7 ut7 (by kernel_rfl) (kq7 iu7) hS 40).1 _ _ _ _ _ h
theorem ra7 {S:List Sum} (hS:∀ s ∈ S,bb7 Tryz.prog s) (s:Sum) (h:runX S none s.f s.args [] (gcB 0 fun r G=>leR 8 r s.r && leH 8 G s.G) = true):bb7 Tryz.prog s:=bt7 (ho7 (H:=[]) (K:=fun r G=>leR 8 r s.r && leH 8 G s.G) (bo7 hS h))
theorem pa7:∀ s ∈ ([]:List Sum),bb7 Tryz.prog s:=fun _ h=>by cases h
theorem da7 {s:Sum} {S:List Sum} (h:bb7 Tryz.prog s) (hS:∀ s ∈ S,bb7 Tryz.prog s):∀ x ∈ s :: S,bb7 Tryz.prog x:=fun x hx=>by
 rcases List.mem_cons.1 hx with rfl | hx
 ·exact h
 ·exact hS x hx
def i6 (n:Int):AV := .int .i64 n
def zr:AV:=slL 1 [[i6 0],[i6 0],[i6 0]]
def zm:AV:=slL 1 [[zr],[zr],[zr]]
def pp7:RV := .agg [i6 40,i6 1,i6 5,i6 1,i6 3,slL 2 [[i6 60,i6 2]],slL 4 [[i6 2,i6 5,i6 90,i6 1]],zm,zm]
def g2:RV := .agg [i6 2,slL 3 [[i6 0,i6 1,i6 0],[i6 1,i6 0,i6 0]]]
def g3:RV := .agg [i6 3,slL 3 [[i6 1,i6 2,i6 0],[i6 2,i6 1,i6 1]]]
def g4:RV := .agg [i6 3,slL 3 [[i6 2,i6 1,i6 0],[i6 1,i6 2,i6 1]]]
def fx7 (a b c:Int):AV:=slL 1 [[i6 a],[i6 b],[i6 c]]
def m17:AV:=slL 1 [[fx7 0 5 0],[fx7 0 0 7],[zr]]
def pv7:RV := .agg [i6 40,i6 1,i6 5,i6 1,i6 3,slL 2 [[i6 60,i6 2]],slL 4 [[i6 2,i6 5,i6 90,i6 1]],m17,zm]
def nt7:List Root:=[.live false 2 1 (.ints .i64 [0,0,0]), .live false 2 1 (.ints .i64 [0,0,0]), .live false 2 1 (.ints .i64 [0,0,0])]
def s5:Sum:=⟨5,[pp7], .c (i6 0),[]⟩
def av7:Sum:=⟨70,[.c (i6 2), .c (i6 0)], .agg [.h 0 0 2, .h 1 0 2],[.live false 2 1 (.ints .i64 [0,1152921504606846976]), .live false 3 1 (.ints .i64 [-1, -1])]⟩
def zu7:Sum:=⟨70,[.c (i6 3), .c (i6 1)], .agg [.h 0 0 3, .h 1 0 3],[.live false 2 1 (.ints .i64 [1152921504606846976,0,1152921504606846976]), .live false 3 1 (.ints .i64 [-1, -1, -1])]⟩
def fw7:Sum:=⟨48,[g2, .c (i6 0)], .tup [.agg [.h 0 0 2, .h 1 0 2], .c (i6 0)],[.live false 2 1 (.ints .i64 [0,0]), .live false 3 1 (.ints .i64 [-1,0])]⟩
def s27:Sum:=⟨27,[pp7], .c (.h 0 0 1),[.live false 2 1 (.ints .i64 [2])]⟩
def s5b:Sum:=⟨5,[pv7], .c (i6 0),[]⟩
def s64:Sum:=⟨64,[pp7, .c (i6 0)], .agg [i6 3, .h 0 0 2],[.live false 102 3 (.gen [[i6 1,i6 2,i6 0],[i6 2,i6 1,i6 1]])]⟩
def sv7:Sum:=⟨48,[g3, .c (i6 1)], .tup [.agg [.h 0 0 3, .h 1 0 3], .c (i6 0)],[.live false 2 1 (.ints .i64 [1152921504606846976,0,0]), .live false 3 1 (.ints .i64 [-1, -1,0])]⟩
def tw7:Sum:=⟨48,[g4, .c (i6 1)], .tup [.agg [.h 0 0 3, .h 1 0 3], .c (i6 0)],[.live false 2 1 (.ints .i64 [1152921504606846976,0,1]), .live false 3 1 (.ints .i64 [-1, -1,1])]⟩
def s39:Sum:=⟨39,[pp7, .c (i6 0)], .c (.h 0 2 1),[.live false 2 1 (.ints .i64 [1152921504606846976,0,0])]⟩
def s40:Sum:=⟨40,[pp7, .c (i6 0)], .c (.h 0 2 1),[.live false 2 1 (.ints .i64 [1152921504606846976,0,1])]⟩
def s16:Sum:=⟨16,[pp7], .c (.h 0 0 1),[.live false 60 1 (.ints .u64 [1])]⟩
def s9:Sum:=⟨9,[], .agg [i6 40,i6 1,i6 5,i6 1,i6 3, .h 0 0 1, .h 1 0 1, .h 2 0 3, .h 6 0 3],[.live false 51 2 (.gen [[i6 60,i6 2]]), .live false 58 4 (.gen [[i6 2,i6 5,i6 90,i6 1]]), .live false 30 1 (.own [[.h 3 0 3],[.h 4 0 3],[.h 5 0 3]])] ++ nt7 ++ [.live false 30 1 (.own [[.h 7 0 3],[.h 8 0 3],[.h 9 0 3]])] ++ nt7⟩
def s6:Sum:=⟨6,[pp7], .tup [.c (.h 0 0 1), .c (i6 0)],[.live false 3 1 (.ints .i64 [0])]⟩
def s7:Sum:=⟨7,[pp7, .c (slL 1 [[i6 0]])], .tup [.c (.h 0 0 1), .c (i6 0)],[.live false 32 2 (.own [[i6 0, .h 1 0 1]]), .live false 3 1 (.ints .i64 [0])]⟩
def s11:Sum:=⟨11,[], .c (.bool true),[]⟩
theorem ph7:bb7 Tryz.prog s5:=ra7 (S:=[]) (pa7) s5 (by decide +kernel)
theorem us7:bb7 Tryz.prog s5b:=ra7 (S:=[]) (pa7) s5b (by decide +kernel)
theorem xl7:bb7 Tryz.prog av7:=ra7 (S:=[]) (pa7) av7 (by decide +kernel)
theorem hm7:bb7 Tryz.prog zu7:=ra7 (S:=[]) (pa7) zu7 (by decide +kernel)
theorem rw7:bb7 Tryz.prog s9:=ra7 (S:=[]) (pa7) s9 (by decide +kernel)
theorem mq7:bb7 Tryz.prog fw7:=ra7 (S:=[av7]) (da7 xl7 pa7) fw7 (by decide +kernel)
theorem hr7:bb7 Tryz.prog sv7:=ra7 (S:=[zu7]) (da7 hm7 pa7) sv7 (by decide +kernel)
theorem wr7:bb7 Tryz.prog tw7:=ra7 (S:=[zu7]) (da7 hm7 pa7) tw7 (by decide +kernel)
theorem xp7:bb7 Tryz.prog s64:=ra7 (S:=[s5]) (da7 ph7 pa7) s64 (by decide +kernel)
theorem qp7:bb7 Tryz.prog s27:=ra7 (S:=[s5,av7,fw7]) (da7 ph7 (da7 xl7 (da7 mq7 pa7))) s27 (by decide +kernel)
theorem ou7:bb7 Tryz.prog s39:=ra7 (S:=[s5,s64,sv7]) (da7 ph7 (da7 xp7 (da7 hr7 pa7))) s39 (by decide +kernel)
theorem ft7:bb7 Tryz.prog s40:=ra7 (S:=[s5,s64,tw7]) (da7 ph7 (da7 xp7 (da7 wr7 pa7))) s40 (by decide +kernel)
theorem ns7:bb7 Tryz.prog s16:=ra7 (S:=[s5,s27,s39,s40]) (da7 ph7 (da7 qp7 (da7 ou7 (da7 ft7 pa7)))) s16 (by decide +kernel)
theorem mw7:bb7 Tryz.prog s6:=ra7 (S:=[s5,s16]) (da7 ph7 (da7 ns7 pa7)) s6 (by decide +kernel)
theorem kw7:bb7 Tryz.prog s7:=ra7 (S:=[s5,s27]) (da7 ph7 (da7 qp7 pa7)) s7 (by decide +kernel)
theorem ju7:bb7 Tryz.prog s11:=ra7 (S:=[s5,s5b]) (da7 ph7 (da7 us7 pa7)) s11 (by decide +kernel)
theorem ll7 {P:Program} {f:FuncId} (h:ab7 P none f [] [] (fun r _=>r = .c (.bool true))):gu7 P f [] (fun r=>r = .c (.bool true)):=by
 refine ⟨h.1,fun rho w vs hrho hc => ?_⟩
 cases hc
 have hrel:Rel ⟨w,rho⟩ ⟨fun _=>0,rho,fun _=>none⟩ [] w:=⟨Below.refl _ _,fun _ _ _ _ _ h=>(by cases h),fun _ _ _ _ _ h=>(by cases h),fun _ _ _ _ h=>(by cases h),fun _ _ _ _ h=>(by cases h),fun _ _ _ _ _ _ _ _ h=>(by cases h),hrho,fun b hb => .inl hb,⟨fun _ _ h=>(by cases h),fun _ _ _ _ _ _ _ h=>(by cases h),fun _ _ _ h=>(by cases h)⟩⟩
 refine (h.2 _ _ w [] hrel rfl).mono ?_
 rintro e w' ⟨M',H',r,v,rfl,h1,h2,h3,h4,h5,rfl⟩
 exact ⟨_,v,rho,rfl,rfl,h3,fun b hb => .inl hb,h1.bel⟩
theorem awake21_p:gu7 Tryz.prog 4 [] (fun r=>r = .c (.bool true)) :=
 ll7 (wk7 (fun r G h=>by
  simp only [Bool.and_eq_true] at h
  split at h
  ·rfl
  ·cases h.1) (bo7 (S:=[s9,s6,s7,s11]) (da7 rw7 (da7 mw7 (da7 kw7 (da7 ju7 pa7)))) (f:=4) (args:=[]) (H:=[]) (K:=fun r _=>(match r with | .c (.bool true)=>true | _=>false) && true) (by decide +kernel)))
end Go.Proofs.YtbfbjghfcajddaaGreat.Ab
namespace Go.Proofs.YtbfbjghfcajddaaGreat
open Go.RowKit
theorem wl7 (w:World):Calls Tryz.prog 4 #[] w fun e w'=>e = .returned (.bool true) ∧ Below w.heap.size w w':=by
 refine (Ab.awake21_p.2 (fun _=>False) w [] (fun _ h=>h.elim) rfl).mono ?_
 rintro e w' ⟨r,v,rho',rfl,rfl,h1, -,h2⟩
 obtain rfl:v = .bool true:=h1
 exact ⟨rfl,h2⟩
theorem ml7 {w:World} {F:Nat → Prop} {x:va7} {cs:List Value} {v1 v2 v3:Value} {n3:Nat} {a3:Option Addr} {c3:Nat} {sat:Int} (h:pb7.rep w F x cs) (h3:v3 = .slice a3 n3 c3) :
  Calls Tryz.prog 3 #[.agg cs.toArray,v1,v2, .agg #[.int .i64 sat,v3]] w fun e w'=>e = .returned (.bool true) ∧ Below w.heap.size w w':=by
 have hrep:=h
 obtain ⟨s,c,co,ti,rfl, -,k1,k2, -, -⟩:=h
 obtain ⟨a1,b1,off1,c1,hs1, -, -, -, -, -, -⟩:=sd7 k1
 obtain ⟨a2,b2,off2,c2,hs2,hlc2,hc2, -, -, -, -⟩:=zc7 k2
 obtain rfl:=List.cons.inj hs1 |>.1
 obtain rfl:=List.cons.inj hs2 |>.1
 subst h3
 have hs0:=TSt.start w 28 32 [.int .i64 x.fin, .int .i64 x.tmany, .int .i64 x.troom, .int .i64 x.bmany, .int .i64 x.broom, .slice a1 x.sats.length c1, .slice a2 x.custs.length c2,co,ti] [.int .i64 sat, .slice a3 n3 c3]
 go_enter Tryz.func3,Tryz.ntmps3
 go_upto_region 1 with fail
 generalize (w.alloc (.cells #[.int .i64 x.fin, .int .i64 x.tmany, .int .i64 x.troom, .int .i64 x.bmany, .int .i64 x.broom, .slice a1 x.sats.length c1, .slice a2 x.custs.length c2,co,ti] 28)).alloc (.cells #[.int .i64 sat, .slice a3 n3 c3] 32) = w1 at hs0 ⊢
 have HREP:=hid (pb7.below hrep hs0.bel)
 have HS:=hid hs0
 clear hs0 hrep hs1 hs2 k1 k2
 go_wp2_with fail
 refine (wl7 _).mono ?_
 rintro e w2 ⟨rfl,hb2⟩
 have HS2:=hid (HS.out.below hb2)
 have HREP2:=hid (pb7.below HREP.out hb2)
 clear HS HREP hb2
 go_upto_region 3 with fail
 obtain ⟨q0,q1,q2,q3,q4,q5,q6,q7,q8⟩:=is7 HS2.out.one
 obtain ⟨p0,p1⟩:=yw7 HS2.out.two
 have HB2:=hid HS2.out.bel
 by_cases hc:x.custs.length > 60
 ·have hc':(x.custs.length:Int) > 60:=by omega
  go_wp2
  go_ret
  exact ⟨rfl,HB2.out⟩
 ·have hc' : ¬ (x.custs.length:Int) > 60:=by omega
  by_cases hd:n3 > 60
  ·have hd':(n3:Int) > 60:=by omega
   go_wp2
   go_ret
   exact ⟨rfl,HB2.out⟩
  ·have hd' : ¬ (n3:Int) > 60:=by omega
   go_wp2_with fail
   refine (he7 HREP2.out).mono ?_
   rintro e w4 ⟨rfl,hb4⟩
   have HS4:=hid (HS2.out.below hb4)
   have HREP4:=hid (pb7.below HREP2.out hb4)
   have HB4:=hid HS4.out.bel
   clear q0 q1 q2 q3 q4 q5 q6 q7 q8 p0 p1 HS2 HREP2 HB2 hb4
   by_cases hk:check x = 0
   ·rw [hk]
    go_wp2
    go_ret
    exact ⟨rfl,HB4.out⟩
   ·obtain ⟨q0,q1,q2,q3,q4,q5,q6,q7,q8⟩:=is7 HS4.out.one
    have HK:=hid hk
    have hk2 : ¬ check x = 0:=hk
    have hk3:=tu7 hk
    clear hk
    go_wp2_with fail
    refine (hi7 HREP4.out HK.out).mono ?_
    rintro e w5 ⟨rfl,hb5⟩
    have HS5:=hid (HS4.out.below hb5)
    have HREP5:=hid (pb7.below HREP4.out hb5)
    clear q0 q1 q2 q3 q4 q5 q6 q7 q8 HS4 HREP4 HB4 hb5
    obtain ⟨q0,q1,q2,q3,q4,q5,q6,q7,q8⟩:=is7 HS5.out.one
    go_wp2_with fail
    refine (el7 HREP5.out HK.out _).mono ?_
    rintro e w6 ⟨rfl,hb6⟩
    have HS6:=hid (HS5.out.below hb6)
    have HREP6:=hid (pb7.below HREP5.out hb6)
    clear q0 q1 q2 q3 q4 q5 q6 q7 q8 HS5 HREP5 hb6
    obtain ⟨q0,q1,q2,q3,q4,q5,q6,q7,q8⟩:=is7 HS6.out.one
    go_wp2_with fail
    refine (he7 HREP6.out).mono ?_
    rintro e w7 ⟨rfl,hb7⟩
    have HS7:=hid (HS6.out.below hb7)
    have HREP7:=hid (pb7.below HREP6.out hb7)
    clear q0 q1 q2 q3 q4 q5 q6 q7 q8 HS6 HREP6 hb7
    obtain ⟨q0,q1,q2,q3,q4,q5,q6,q7,q8⟩:=is7 HS7.out.one
    go_wp2_with fail
    refine (he7 HREP7.out).mono ?_
    rintro e w8 ⟨rfl,hb8⟩
    have HS8:=hid (HS7.out.below hb8)
    have HREP8:=hid (pb7.below HREP7.out hb8)
    clear q0 q1 q2 q3 q4 q5 q6 q7 q8 HS7 HREP7 hb8
    obtain ⟨q0,q1,q2,q3,q4,q5,q6,q7,q8⟩:=is7 HS8.out.one
    obtain ⟨p0,p1⟩:=yw7 HS8.out.two
    go_wp2_with fail
    refine (xm7 HREP8.out HK.out _ _ _).mono ?_
    rintro e w9 ⟨rfl,hb9⟩
    have HS9:=hid (HS8.out.below hb9)
    have HB9:=hid HS9.out.bel
    clear q0 q1 q2 q3 q4 q5 q6 q7 q8 p0 p1 HS8 HREP8 hb9 HS9
    go_wp2
    go_ret
    exact ⟨rfl,HB9.out⟩
end Go.Proofs.YtbfbjghfcajddaaGreat
