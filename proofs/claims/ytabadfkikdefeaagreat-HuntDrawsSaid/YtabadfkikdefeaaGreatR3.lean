/- Texts of the proof, joined: AX, EncA, AdA, Run, Dec, Deep, Frame, Dice, Up, Split, StrM, Parse1, ParseP, Words, Next, Reader, RowL, TruckR, BikeR, Clos, TryC, Try, DiceH, CallFz, DiceF, Awake25, EffB, RunB, GlC. -/
import Derived.Recover
import Derived.Test.YtabadfkikdefeaaGreatQ5
import Derived.Test.YtabadfkikdefeaaGreatP1
set_option linter.all false
set_option maxRecDepth 100000
set_option maxHeartbeats 6400000
namespace Go.Proofs.YtabadfkikdefeaaGreat.Ab
open Go.RowKit
def Rd:Nat→CK→AV→Prop
 | _,.i k,x=>∃n,x = .int k n∧inK k n
 | 0,.s ..,_=>False
 | d+1,.s _ ck b,x=>∃n f,x = .sl n ck.length f∧n≤b∧∀i,i<n→∀(j:Nat) (q:CK),ck[j]? = some q→Rd d q (f i j)
section
variable {P:Program} {ty:Ty} {E:Env} {M:Mp} {H:List Root} {w:World} {rho:Nat→Prop} {E0:Nat}
end
abbrev I6 (n:Int):AV:=.int .i64 n
def ix2 (a b:AV):Nat→AV
 | 0=>a
 | _=>b
def ix3 (a b c:AV):Nat→AV
 | 0=>a
 | 1=>b
 | _=>c
def ix4 (a b c d:AV):Nat→AV
 | 0=>a
 | 1=>b
 | 2=>c
 | _=>d
abbrev mbb7 (l:List Int):AV:=.sl l.length 1 (fun i _=>I6 (l.getD i 0))
def stN (l:List ra7) (i:Nat):ra7:=l.getD i ⟨0,0⟩
abbrev vfb7 (l:List ra7):AV:=.sl l.length 2 (fun i=>ix2 (I6 (stN l i).sat) (I6 (stN l i).load))
theorem asb7 (p:Prop) [Decidable p]:(decide p=true)=p:=by simp
theorem qqb7 (p:Prop) [Decidable p]:(decide p=false)=¬p:=by simp
theorem bqb7 {b:ByteArray}{p:RV→Prop}:(∃r,wx7 (.c (.str b)) r∧p r)=p (.c (.str b)):=propext ⟨fun ⟨_,⟨_,e,e2⟩,h⟩=>by subst e;rcases e2 with e2 | e2 <;> (subst e2;exact h),fun h=>⟨_,⟨_,rfl,.inl rfl⟩,h⟩⟩
attribute [go_sem ↓ low] ytb7
attribute [go_sem ↓] qpb7 vtb7 tnb7 jqb7 dlb7 psb7 wmb7 ehb7 xjb7 lpb7 dvb7 wtb7 lub7 qtb7 evb7 ptb7 fvb7 ztb7 jtb7 cvb7 yub7 ntb7 npb7 zmb7 stb7
attribute [go_sem] dqb7 zrb7 osb7 llb7 zub7 sub7 tub7 emb7 go7 yqb7 lsb7 cqb7 vrb7 vjb7 dub7 qub7 pub7 hub7 bvb7 gub7 ivb7 ktb7 fub7 bub7 iub7 xtb7 eub7 ssb7 job7 appW zW ckE cnb7 keb7 lhb7 yib7 nib7 ulb7 okb7 zhb7 gkb7 njb7 tfb7 pnb7 ykb7 List.drop_nil Option.toList_none Option.toList_some yrb7 omb7 utb7 mpb7 iv7 Option.map_some Option.map_none List.drop_zero List.drop_succ_cons zsb7 renG hp7 ts7 ao7 eib7 fob7 cjb7 sdb7 eob7 xx7 lkb7 rub7 nlb7 ahb7 nkb7 amb7 mhb7 ghb7 aib7 xqb7 esb7 rrb7 wrb7 fpb7 irb7 jbb7 zfb7 ddb7 pos okI List.cons_append List.replicate_succ List.replicate_zero lpK ctb7 Int.toNat_zero asb7 qqb7 Bool.and_eq_true Bool.not_eq_true' and_imp mq7 fxT gets gh7 wq7 vmb7 pw7 vv7 AV.scp List.take_succ_cons List.take_zero List.take_nil epb7 wkb7 ukb7 xnb7 xkb7 arb7 thb7 wib7 csb7 dob7 plb7 wqb7 gvb7 oub7 strOf AV.strOf inb7 wnb7 nrb7 jvb7 qsb7 kub7 uub7 eqb7 hsb7 lqb7 rqb7 frb7 dsb7 kvb7 jub7 erb7 aqb7 elb7 fkb7 mlb7 vob7 true_or or_true false_or or_false nsb7 ppb7 mub7 zpb7 bnb7 t_n t_e t_r b_n b_e b_r c_t r_r r_n isV guardOf bm7 pgs rgs rds opV pmb7 AS.rd lk hib7 ksb7 hqb7 zqb7 wpb7 oa7 rl7 anb7 vld at2 gl7 aa7 tab Row.get Row.len Row.isBox Row.one otb7 ns7 nth ll7 hjb7 lcb7 se7 hmb7 unV bs7 mmV sb7 mt7 qjb7 kjb7 nl7 mv7 Row.put pat zbb7 ca7 jjb7 chunk takeN px7 rep mf7 sj7 rh7 obb7 zOk zeros uw7 ta7 Row.app Row.drop bb7 an7 hh7 frz frzH Root.mark xh7 oib7 one kpb7 knb7 bqb7 okT okR yl7 ncb7 yx7 zl7 rf7 rn7 dv7 skb7 vgb7 opD ljb7 ix2 ix3 ix4 Int.toNat_natCast tyM vpb7 njL AV.nj kN inK isb7 orb7 if_true if_false true_and and_true forall_const implies_true false_implies imp_self List.length_cons List.length_nil List.map_cons List.map_nil List.nil_append List.cons_append Bool.false_eq_true Bool.true_and ne_eq not_false_eq_true decide_true decide_false Decidable.not_not Nat.add_zero Nat.zero_add Nat.zero_mul
attribute [go_sem_proc ↓] reduceIte
attribute [go_sem_proc] reduceCtorEq Nat.reduceAdd Nat.reduceLT Nat.reduceEqDiff Nat.reduceMul Nat.reduceLeDiff Nat.reduceSub
def Fwd {α:Type} (S:Shape α) (e:α→Nat→AV):Prop:=∀{w:World} {F:Nat→Prop} {x:α} {cs:List Value},S.rep w F x cs→∀j,j<S.sz→∃u,cs[j]? = some u∧lb7 F w (e x j) u
def Bwd {α:Type} (S:Shape α) (e:α→Nat→AV) (ok:α→Prop):Prop:=∀{w:World} {F:Nat→Prop} {x:α} {cs:List Value},cs.length=S.sz→(∀j,j<S.sz→∃u,cs[j]? = some u∧lb7 F w (e x j) u)→ok x→S.rep w F x cs
theorem bv7 {α:Type}{l:List α}{i:Nat}(h:i<l.length) (z:α):l.getD i z=l[i]:=by
 rw[List.getD_eq_getElem?_getD,List.getElem?_eq_getElem h];rfl
section
variable {α:Type} {S:Shape α} {h0:0<S.sz} {e:α→Nat→AV} {ok:α→Prop} {w:World} {F:Nat→Prop}
theorem fs (z:α) (hS:Fwd S e) {l:List α}{v:Value}(h:(ua7 S h0).rep w F l [v]):lb7 F w (.sl l.length S.sz (fun i=>e (l.getD i z))) v:=by
 obtain⟨a,b,off,c,e1,h1,h2,h3,h4⟩:=h
 cases e1
 refine⟨a,b,off,c,rfl,h1,h2,h3,fun i hi j hj=>?_⟩
 obtain⟨es,k1,k2⟩:=h4 i hi
 obtain⟨u,k3,k4⟩:=hS k1 j hj
 show ∃u,_=some u∧lb7 F w (e (l.getD i z) j) u
 rw[bv7 hi]
 exact⟨u,by rw[k2 j hj,k3],k4⟩
theorem mr7:∀(n:Nat) {p:Nat→Value→Prop},(∀j,j<n→∃u,p j u)→∃es:List Value,es.length=n∧∀j u,es[j]? = some u→p j u
 | 0,_,_=>⟨[],rfl,fun _ _ h=>by simp at h⟩
 | n+1,p,h=>by
  obtain⟨u,hu⟩:=h 0 (Nat.succ_pos _)
  obtain⟨es,h1,h2⟩:=mr7 n (p:=fun j=>p (j+1)) (fun j hj=>h (j+1) (by omega))
  refine⟨u::es,by simp[h1],fun j v hj=>?_⟩
  cases j with
  | zero=>simp at hj;subst hj;exact hu
  | succ j=>exact h2 j v (by simpa using hj)
theorem bs (z:α) (hS:Bwd S e ok) {l:List α}{v:Value}(h:lb7 F w (.sl l.length S.sz (fun i=>e (l.getD i z))) v) (ho:∀x∈l,ok x):(ua7 S h0).rep w F l [v]:=by
 obtain⟨a,b,off,c,rfl,h1,h2,h3,h4⟩:=h
 refine⟨a,b,off,c,rfl,h1,h2,h3,fun i hi=>?_⟩
 obtain⟨es,k1,k2⟩:=mr7 S.sz (h4 i hi)
 have k3:∀j,j<S.sz→w.cell? ⟨b,off+i*S.sz+j,none⟩=es[j]? ∧ ∃u,es[j]? = some u∧lb7 F w (e l[i] j) u:=fun j hj=>by
  have hg:es[j]? = some es[j]:=List.getElem?_eq_getElem (by omega)
  obtain⟨k4,k5⟩:=k2 j _ hg
  have k5:lb7 F w (e (l.getD i z) j) es[j]:=k5
  rw[bv7 hi]at k5
  exact⟨by rw[k4,hg],_,hg,k5⟩
 exact⟨es,hS k1 (fun j hj=>(k3 j hj).2) (ho _ (List.getElem_mem hi)),fun j hj=>(k3 j hj).1⟩
end
theorem tqb7:Fwd kw7 (fun x _=>I6 x):=by
 rintro w F x cs ⟨rfl,-⟩ j hj
 have hj:j<1:=hj
 obtain rfl:j=0:=by omega
 exact⟨_,rfl,rfl⟩
theorem cob7:Bwd kw7 (fun x _=>I6 x) nb7:=by
 intro w F x cs hl h ho
 obtain⟨u,h1,h2⟩:=h 0 Nat.one_pos
 match cs,hl with
 | [v],_=>cases h1;exact⟨by rw[show u = .int .i64 x from h2],ho⟩
theorem u8_f:Fwd u8S (fun x _=>.int .u8 x):=by
 rintro w F x cs ⟨rfl,-⟩ j hj
 have hj:j<1:=hj
 obtain rfl:j=0:=by omega
 exact⟨_,rfl,rfl⟩
theorem vub7:Bwd u8S (fun x _=>.int .u8 x) (fun x=>0≤x∧x≤255):=by
 intro w F x cs hl h ho
 obtain⟨u,h1,h2⟩:=h 0 Nat.one_pos
 match cs,hl with
 | [v],_=>cases h1;exact⟨by rw[show u = .int .u8 x from h2],ho⟩
theorem snb7:Fwd peb7 (fun x=>ix2 (I6 x.sat) (mbb7 x.stops)):=by
 rintro w F x cs ⟨v,rfl,-,h⟩ j hj
 have hj:j<2:=hj
 match j,hj with
 | 0,_=>exact⟨_,rfl,rfl⟩
 | 1,_=>exact⟨_,rfl,fs 0 tqb7 h⟩
theorem drb7 {a b:AV}{w:World}{F:Nat→Prop}{cs:List Value}(hl:cs.length=2) (h:∀j,j<2→∃u,cs[j]? = some u∧lb7 F w (ix2 a b j) u):∃u v,cs=[u,v]∧lb7 F w a u∧lb7 F w b v:=by
 match cs,hl with
 | [u,v],_ =>
  obtain⟨u',h1,h2⟩:=h 0 (by decide)
  obtain⟨v',h3,h4⟩:=h 1 (by decide)
  cases h1;cases h3
  exact⟨_,_,rfl,h2,h4⟩
def eq7 (x:ra7):Prop:=nb7 x.sat∧nb7 x.load
theorem seb7:Bwd em7 (fun x=>ix2 (I6 x.sat) (I6 x.load)) eq7:=by
 intro w F x cs hl h ho
 obtain⟨u,v,rfl,h1,h2⟩:=drb7 hl h
 exact⟨by rw[show u = .int .i64 x.sat from h1,show v = .int .i64 x.load from h2],ho⟩
section
variable {w:World} {F:Nat→Prop}
end
section
variable {f:FuncId}
theorem yi7 {P:Program}{args:List RV}{post:RV→Prop}(hE:Enters P f) (h:∀(rho:Nat→Prop) (w:World) (vs:List Value),kb7 rho w args vs →
  Calls P f vs.toArray w fun e w'=>∃r v,e = .returned v∧post r∧uc7 (fun b=>w.heap.size≤b∧b<w'.heap.size) w' r v∧Below w.heap.size w w'):cf7 P f args post :=
 ⟨hE,fun rho w vs _ _ hc=>(h rho w vs hc).mono fun e w' ⟨r,v,h1,h2,h3,h4⟩=>⟨r,v,_,h1,h2,h3,fun b hb=>.inr hb,h4⟩⟩
end
theorem id7 [Pan] {P:Program}{pu:Pu}{f:FuncId}{H:List Root}{args args':List RV}{post:RV→Prop}{K:RV→List Root→Prop}(hp:cf7 P f args' post) (ho:yl7 H args) (he:zl7 H args=args') (hH:rf7 H args=H) (hK:∀r,post r→K r H):ga7 P pu f args H K :=
 sib7 hp ho (by rw[he];exact nm7 _) (by rw[hH];exact hK)
variable {P:Program} {ty:Ty}
theorem bl7.env [Pan] {E:Env}{d:List Deferred}{M:Mp}{H:List Root}{w w':World}{ch:List PanicEntry}(h:bl7 ⟨E.W0,E.rho0,d,E.ex,E.exk⟩ M H w ch w'):bl7 E M H w ch w':=by
 obtain⟨M2,H2,r,v,e,k1,k2⟩:=h
 exact⟨M2,H2,r,v,e,k1.env2,k2⟩
theorem db7 [Pan] (hT : qb7 P ty) (hm : P.follows .mixedOrders = true) {f : FuncId} {fn : Func} {c : Code} (ord : Nat → List Nat × Nat × Option DD) (hf : P.funcs[f]? = some fn) (hb : fn.body = some c) (hname : (fn.name == "runtime.NumGoroutine") = false) {n : Nat} (hnt : fn.ntmps = n) {rs : List ResultVar} (hr : fn.results.toList = rs)
  (hok:okC n ord c=true) {args:List RV} (hn:args.length≤n) {H:List Root} {K:RV→List Root→Prop}
  (h:awp P ty ord c (sjb7 ty rs K) ⟨dv7 0 args,H⟩):ga7 P none f args H K:=by
 refine⟨⟨fn,c,hf,hname,hb⟩,fun E M w vs hrel hc=>calls_of_wp hf hb ?_⟩
 have hst:=St.enter (hrel.env []) rfl hc (n:=n) hn
 rw[hnt]
 refine wp_mono (ef7 hT hm c hok hst h) fun e a' w' hA=>?_
 rcases hA with ⟨hp,M',σ',q1,q2,q3⟩ | ⟨ch,rfl,hdf,hP⟩
 case inr=>exact⟨hdf,.inr ⟨ch,rfl,hP.env⟩⟩
 have fin:(xh7 ty σ' rs).1∧K (one (xh7 ty σ' rs).2) σ'.H→a'.defers=[]∧∃v,(results fn a'.tmps).run P w' = .ok v w'∧((∃M' H' r v',Ending.returned v = .returned v'∧Rel E M' H' w'∧Kp M H w M' H' w'∧ha7 M' H' w' r v'∧(∀g,(none:Pu)=some g→ac7 (g.map M.phi) w w')∧H.length≤H'.length∧K r H')∨∃ch,Ending.returned v = .panicked ch∧bl7 E M H w ch w'):=by
  rintro⟨h1,h2⟩
  obtain⟨v,k1,k2⟩:=wf7 hT q1 hr h1
  exact⟨q1.df,v,k2,.inl ⟨M',σ'.H,_,v,rfl,q1.rel.env2,q2.kp,k1,fun g e=>(by cases e),q2.len,h2⟩⟩
 cases e with
 | normal=>exact fin q3
 | ret=>exact fin q3
 | panic ch=>exact absurd rfl (hp ch)
 | exit id=>exact q3.elim
 | goto l=>exact q3.elim
 | outgrown=>exact q3.elim
instance (k:IntKind) (n:Int):Decidable (inK k n):=match k with
 | .i8=>inferInstanceAs (Decidable (_∧_))
 | .i16=>inferInstanceAs (Decidable (_∧_))
 | .i32=>inferInstanceAs (Decidable (_∧_))
 | .i64=>inferInstanceAs (Decidable (_∧_))
 | .u8=>inferInstanceAs (Decidable (_∧_))
 | .u16=>inferInstanceAs (Decidable (_∧_))
 | .u32=>inferInstanceAs (Decidable (_∧_))
 | .u64=>inferInstanceAs (Decidable (_∧_))
instance decNo:Decidable no.1:=isFalse id
instance (op:BinOp) (a b:Int):Decidable (hmb7 op a b).1:=by
 unfold hmb7;split <;> first | exact isTrue trivial | exact decNo
instance (op:BinOp) (k:IntKind) (a b:Int):Decidable (se7 op k a b).1:=by
 unfold se7;split <;> infer_instance
instance (op:BinOp) (a b:ByteArray):Decidable (zhb7 op a b).1:=by
 unfold zhb7;split <;> first | exact isTrue trivial | exact decNo | exact inferInstanceAs (Decidable (_≤_))
instance (s:ByteArray) (a b:Int):Decidable (okb7 s a b).1:=inferInstanceAs (Decidable (_∧_))
instance (op:BinOp) (t:TyK) (x y:RV):Decidable (lcb7 op t x y).1:=by
 unfold lcb7
 split
 ·infer_instance
 ·split
  ·split <;> first | exact isTrue trivial | exact decNo
  ·exact decNo
 ·infer_instance
 ·exact decNo
instance (op:UnOp) (x:RV):Decidable (unV op x).1:=by
 unfold unV
 split
 ·split <;> first | exact isTrue trivial | exact decNo
 ·split <;> first | infer_instance | exact decNo
 ·exact decNo
instance (a b c:RV):Decidable (mt7 a b c).1:=by
 unfold mt7;split <;> first | exact isTrue trivial | exact decNo | infer_instance
instance (H:List Root) (id st len:Nat):Decidable (vld H id st len):=by
 unfold vld;split <;> infer_instance
instance (H:List Root) (id n:Nat):Decidable (anb7 H id n):=by
 unfold anb7;split <;> infer_instance
instance (H:List Root) (id st len:Nat):Decidable (an7 H id st len):=by
 unfold an7;split <;> infer_instance
instance (k:TyK) (H:List Root) (x:RV):Decidable (hjb7 k H x).1:=by
 unfold hjb7;repeat' split
 all_goals first | exact decNo | exact isTrue trivial | infer_instance
instance (k:TyK) (H:List Root) (x:RV) (f:Nat):Decidable (rl7 k H x f).1:=by
 unfold rl7;repeat' split
 all_goals first | exact decNo | exact isTrue trivial | infer_instance
instance (ty:Ty) (k:TyK) (H:List Root) (x y:RV):Decidable (ll7 ty k H x y).1:=by
 unfold ll7;repeat' split
 all_goals first | exact decNo | exact isTrue trivial | infer_instance
instance (c:Option CK):Decidable (ykb7 c).1:=by
 unfold ykb7;split <;> first | exact decNo | exact isTrue trivial
instance (e:TyE) (H:List Root) (x:RV):Decidable (gl7 e H x).1:=by
 unfold gl7;repeat' split
 all_goals first | exact decNo | exact isTrue trivial | infer_instance
instance decNth:∀(l:List RV) (i:Nat),Decidable (kjb7 l i).1
 | [],_=>decNo
 | _::_,0=>isTrue trivial
 | _::l,i+1=>decNth l i
instance (x:RV) (i:Nat):Decidable (qjb7 x i).1:=by
 unfold qjb7;repeat' split
 all_goals first | exact decNo | exact isTrue trivial | infer_instance
instance (s k:TyK) (x:RV):Decidable (bs7 s k x).1:=by
 unfold bs7;repeat' split
 all_goals first | exact decNo | exact isTrue trivial | infer_instance
instance (b:Bool) (x y:RV):Decidable (mmV b x y).1:=by
 unfold mmV;repeat' split
 all_goals first | exact decNo | exact isTrue trivial | infer_instance
instance (k:TyK) (x y:RV):Decidable (keb7 k x y).1:=by
 unfold keb7;repeat' split
 all_goals first | exact decNo | exact isTrue trivial | infer_instance
instance (H:List Root) (x:RV):Decidable (ulb7 H x).1:=by
 unfold ulb7;repeat' split
 all_goals first | exact decNo | exact isTrue trivial | infer_instance
instance (k:TyK) (x y:RV):Decidable (nib7 k x y).1:=by
 unfold nib7;repeat' split
 all_goals first | exact decNo | exact isTrue trivial | infer_instance
instance (ty:Ty) (k:TyK) (x y:RV):Decidable (lhb7 ty k x y).1:=by
 unfold lhb7;repeat' split
 all_goals first | exact decNo | exact isTrue trivial | infer_instance
instance (k:TyK) (x y z:RV):Decidable (yib7 k x y z).1:=by
 unfold yib7;repeat' split
 all_goals first | exact decNo | exact isTrue trivial | infer_instance
instance (ty:Ty) (k:TyK) (rd:Operand→Bool×RV) (x:RV) (a b c:Option Operand):Decidable (cnb7 ty k rd x a b c).1:=by
 unfold cnb7;repeat' split
 all_goals first | exact decNo | exact isTrue trivial | infer_instance
instance decG (g:Bool):∀l:List Bool,Decidable (gOk g l)
 | []=>isTrue trivial
 | h::l => @instDecidableAnd _ _ (inferInstance) (decG g l)
instance decBd (pl:Nat→Nat×Nat) (rd:Operand→Bool×RV):∀(l:List AV) (ps:List (Nat×Operand)),Decidable (sb7 pl rd l ps).1
 | l,[]=>isTrue trivial
 | l,(i,x)::ps => @instDecidableAnd _ _ (inferInstance) (decBd pl rd _ ps)
instance (rd:Operand→Bool×RV) (fn:Fn) (a:List Operand) (l:List RV):Decidable (gkb7 rd fn a l).1:=by
 unfold gkb7;repeat' split
 all_goals first | (unfold njb7;split <;> first | exact decNo | exact isTrue trivial) | exact decNo
instance (ty:Ty) (H:List Root) (b:Builtin) (ts:List TypeId) (l:List RV):Decidable (pmb7 ty H b ts l).1:=by
 unfold pmb7;repeat' split
 all_goals first | exact decNo | exact isTrue trivial | infer_instance
instance (ty:Ty) (g:Bool) (rd:Operand→Bool×RV) (H:List Root) (o:Op):Decidable (opV ty g rd H o).1:=by
 unfold opV;repeat' split
 all_goals first | exact decNo | exact isTrue trivial | infer_instance
example:decide (lcb7 .add .b (.c (.int .i64 3)) (.c (.int .i64 4))).1=true:=by decide +kernel
example:(match (if (lcb7 .add .b (.c (.int .i64 3)) (.c (.int .i64 4))).1 then (lcb7 .add .b (.c (.int .i64 3)) (.c (.int .i64 4))).2 else .c .junk) with | .c (.int _ n)=>n==7 | _=>false)=true:=by decide +kernel
def it7 (H:List Root):Nat→AV→AV
 | k+1,.ptr id n i o=>match aa7 H id with
  | .live _ _ sz r=>.rp (sz-o) (fun j=>it7 H k (r.get i (o+j)))
  | .dead=>.junk
 | k+1,.h id st len=>match aa7 H id with
  | .live _ _ sz r=>.sl len sz (fun i j=>it7 H k (r.get (st+i) j))
  | .dead=>.junk
 | _,a=>a
def ch7 (H:List Root):Nat→AV→Bool
 | k+1,.ptr id n i o=>match aa7 H id with
  | .live _ _ sz r=>decide (r.len=n∧i<n)&&(List.range (sz-o)).all fun j=>ch7 H k (r.get i (o+j))
  | .dead=>false
 | k+1,.h id st len=>match aa7 H id with
  | .live _ _ sz r=>decide (st+len=r.len)&&(List.range len).all fun i=>(List.range sz).all fun j=>ch7 H k (r.get (st+i) j)
  | .dead=>false
 | _,.junk=>true
 | _,a=>a.fr
theorem vd7.up {M:Mp}{H:List Root}{w:World}{bx:Bool}{a:AV}{v:Value}(h:vd7 M H w bx a v):Con M H w a v:=by
 unfold vd7 at h;split at h
 ·exact h
 ·exact Con.of0 h
theorem ey7 {E:Env}{M:Mp}{H:List Root}{w:World}(h:Rel E M H w):∀(k:Nat) {x:AV}{v:Value},ch7 H k x=true→Con M H w x v→lb7 (jp7 M H) w (it7 H k x) v:=by
 have plain:∀{x:AV} {v:Value},x.fr=true→Con M H w x v→lb7 (jp7 M H) w x v:=fun hx hc=>az7 hx (fun _=>.inl) hc
 intro k
 induction k with
 | zero =>
  intro x v ho hc
  cases x with
  | junk=>trivial
  | _=>exact plain ho hc
 | succ k ih =>
  intro x v ho hc
  cases x with
  | ptr id n i o =>
   simp only[ch7]at ho
   simp only[it7]
   split at ho
   ·rename_i fz t sz r hr
    simp only[Bool.and_eq_true,decide_eq_true_eq,List.all_eq_true,List.mem_range]at ho
    obtain⟨⟨hl,hi⟩,hf⟩:=ho
    have hv:=(hc.2 _ _ _ _ hr).2 hl
    obtain⟨cur,c1,c2,c3,c4,c5,c6⟩:=h.row _ _ _ _ _ hr
    refine⟨M.phi id,M.off id+i*sz+o,hv,.inr ⟨id,fz,t,sz,_,hr,rfl⟩,fun j hj=>?_⟩
    obtain⟨u,u1,u2,u3⟩:=c6 i (by omega) (o+j) (by omega)
    refine⟨u, ?_,ih (hf j hj) u3.up⟩
    simp only[World.cell?,c1]
    rw[Nat.add_assoc]
    simpa using u1
   ·cases ho
  | h id st len =>
   simp only[ch7]at ho
   simp only[it7]
   split at ho
   ·rename_i fz t sz r hr
    simp only[Bool.and_eq_true,decide_eq_true_eq,List.all_eq_true,List.mem_range]at ho
    obtain⟨e,hf⟩:=ho
    obtain⟨cap,cur,ad,rfl,k1,k2,k3,k4,k7⟩:=(hc.2 _ _ _ _ hr).2 e
    obtain⟨cur2,c1,c2,c3,c4,c5,c6⟩:=h.row _ _ _ _ _ hr
    refine⟨_,M.phi id,M.off id+st*sz,cap,rfl,k1,k2,fun _=>⟨congrArg some (k7 (by omega)),.inr ⟨id,fz,t,sz,r,hr,rfl⟩⟩,fun i hi j hj=>?_⟩
    obtain⟨u,u1,u2,u3⟩:=c6 (st+i) (by omega) j hj
    refine⟨u, ?_,ih (hf i hi j hj) u3.up⟩
    rw[show M.off id+st*sz+i*sz+j=M.off id+(st+i)*sz+j by rw[Nat.add_mul];omega]
    simp[World.cell?,c1,u1]
   ·cases ho
  | junk=>trivial
  | _=>exact plain ho hc
def adb7 (H:List Root) (k:Nat):List AV→List AV
 | []=>[]
 | a::l=>it7 H k a::adb7 H k l
def ilb7 (H:List Root) (k:Nat):RV→RV
 | .c a=>.c (it7 H k a)
 | .agg l=>.agg (adb7 H k l)
 | .fn f l nb=>.fn f (adb7 H k l) nb
 | .tup l=>.tup l
 | .ifc t x=>.ifc t x
def qi7 (H:List Root) (k:Nat):List RV→List RV
 | []=>[]
 | a::l=>ilb7 H k a::qi7 H k l
def el7 (H:List Root) (k:Nat):RV→Bool
 | .c a=>ch7 H k a
 | .agg l=>l.all (ch7 H k)
 | .fn _ l _=>l.all (ch7 H k)
 | .tup _=>false
 | .ifc .. => false
section
variable {P:Program} {E:Env} {M:Mp} {H:List Root} {w:World}
theorem on7 (h:Rel E M H w) (k:Nat):∀{l:List AV}{vs:List Value},l.all (ch7 H k)=true→mb7 M H w l vs→hc7 (jp7 M H) w (adb7 H k l) vs
 | [],_,_,hc=>hc
 | _::_,_,ho,⟨v,r,e,h1,h2⟩=>by
  simp only[List.all_cons,Bool.and_eq_true]at ho
  exact⟨v,r,e,ey7 h k ho.1 h1,on7 h k ho.2 h2⟩
theorem feb7 (h:Rel E M H w) (k:Nat) {x:RV}{v:Value}(ho:el7 H k x=true) (hc:ha7 M H w x v):vc7 (jp7 M H) w (ilb7 H k x) v:=by
 cases x with
 | c a=>exact ey7 h k ho hc
 | agg l=>obtain⟨vs,e,hc⟩:=hc;exact⟨vs,e,on7 h k ho hc⟩
 | fn f l nb=>obtain⟨vs,e,hc⟩:=hc;exact⟨vs,e,on7 h k ho hc⟩
 | tup=>cases ho
 | ifc=>cases ho
theorem uj7 (h:Rel E M H w) (k:Nat):∀{l:List RV}{vs:List Value},l.all (el7 H k)=true→ab7 M H w l vs→kb7 (jp7 M H) w (qi7 H k l) vs
 | [],_,_,hc=>hc
 | _::_,_,ho,⟨v,r,e,h1,h2⟩=>by
  simp only[List.all_cons,Bool.and_eq_true]at ho
  exact⟨v,r,e,feb7 h k ho.1 h1,uj7 h k ho.2 h2⟩
theorem hbb7 {M:Mp}{H:List Root}{w:World}{rho:Nat→Prop}{x:AV}{v:Value}(hs:x.scal=true) (h:Con M H w x v):lb7 rho w x v:=by
 cases x <;> first | exact h | cases hs
theorem tu7 {M:Mp}{H:List Root}{w:World}{rho:Nat→Prop}:∀{l:List AV}{vs:List Value},vw7 l=true→mb7 M H w l vs→hc7 rho w l vs
 | [],_,_,h=>h
 | _::_,_,hs,⟨v,r,e,h1,h2⟩=>by
  simp only[vw7,Bool.and_eq_true]at hs
  exact⟨v,r,e,hbb7 hs.1 h1,tu7 hs.2 h2⟩
theorem tn7 {M:Mp}{H:List Root}{w:World}{rho:Nat→Prop}{x:RV}{v:Value}(hs:ieb7 x=true) (h:ha7 M H w x v):vc7 rho w x v:=by
 cases x with
 | c a=>exact hbb7 hs h
 | agg l=>obtain⟨vs,e,h⟩:=h;exact⟨vs,e,tu7 hs h⟩
 | fn=>cases hs
 | tup=>cases hs
 | ifc=>cases hs
theorem sq7 {M:Mp}{H:List Root}{w:World}{rho:Nat→Prop}:∀{l:List RV}{vs:List Value},zm7 l=true→ab7 M H w l vs→kb7 rho w l vs
 | [],_,_,h=>h
 | _::_,_,hs,⟨v,r,e,h1,h2⟩=>by
  simp only[zm7,Bool.and_eq_true]at hs
  exact⟨v,r,e,tn7 hs.1 h1,sq7 hs.2 h2⟩
theorem bg7 {M:Mp}{H:List Root}{w:World}{rho:Nat→Prop}{x:RV}{v:Value}(hs:io7 x=true) (h:ha7 M H w x v):uc7 rho w x v:=by
 cases x with
 | tup l=>obtain⟨vs,e,h⟩:=h;exact⟨vs,e,sq7 hs h⟩
 | c a=>exact tn7 (x:=.c a) hs h
 | agg l=>exact tn7 (x:=.agg l) hs h
 | fn f l nb=>cases hs
 | ifc=>cases hs
end
variable {P:Program}
def only:Nat→List Root→List Root
 | _,[]=>[]
 | 0,r::l=>r::l.map fun _=>.dead
 | k+1,_::l=>.dead::only k l
theorem kv7:∀(k:Nat) (H:List Root),(only k H).length=H.length
 | _,[]=>by cases ‹Nat› <;> rfl
 | 0,_::_=>by simp[only]
 | k+1,_::l=>by simp[only,kv7 k l]
theorem xu7:∀(l:List Root) (i:Nat),aa7 (l.map fun _=>Root.dead) i = .dead
 | [],_=>rfl
 | _::_,0=>rfl
 | _::l,i+1=>xu7 l i
theorem mn7:∀(k:Nat) (H:List Root) (i:Nat),aa7 (only k H) i=if i=k then aa7 H k else .dead
 | k,[],i=>by
  have e:only k []=[]:=by cases k <;> rfl
  rw[e]
  split <;> rfl
 | 0,r::l,i=>by
  cases i with
  | zero=>rfl
  | succ i=>rw[if_neg (by omega)];exact xu7 l i
 | k+1,r::l,i=>by
  cases i with
  | zero=>rw[if_neg (by omega)];rfl
  | succ i =>
   show aa7 (only k l) i=_
   rw[mn7 k l i]
   by_cases e:i=k
   ·rw[if_pos e,if_pos (by omega)];rfl
   ·rw[if_neg e,if_neg (by omega)]
theorem ly7:∀(l:List AV) (o:Nat),l.all AV.fr=true→(nth l o).fr=true∨nth l o = .junk
 | [],_,_=>.inr rfl
 | a::l,o,h=>by
  simp only[List.all_cons,Bool.and_eq_true]at h
  cases o with
  | zero=>exact .inl h.1
  | succ o=>exact ly7 l o h.2
def Env.frm (w:World) (rho:Nat→Prop) (g:Nat) (hg:∀w,jg7 w):Env:=⟨w,rho,[],fun b=>b=g,.inr hg⟩
section
variable {E:Env} {M:Mp} {H:List Root} {w w':World}
theorem Rel.only (hgl:∀w,jg7 w) (h:Rel E M H w) {k:Nat}{t:TypeId}{sz:Nat}{l:List AV}(hk:aa7 H k = .live false t sz (.box l)) (hl:l.all AV.fr=true):Rel (Env.frm w M.rho (M.phi k) hgl) ⟨M.phi,M.off,M.rho,fun _=>none⟩ (only k H) w:=by
 have lift:∀{i:Nat} {fz:Bool} {t2:TypeId} {s2:Nat} {r2:Row},aa7 (Ab.only k H) i = .live fz t2 s2 r2→i=k∧aa7 H k = .live fz t2 s2 r2:=fun {i fz t2 s2 r2} hr=>by
  rw[mn7]at hr
  split at hr
  ·rename_i e;exact⟨e,hr⟩
  ·cases hr
 refine⟨⟨rfl,rfl,rfl,Nat.le_refl _,fun _ _ _=>rfl⟩,fun i fz t2 s2 r2 hr=>?_,fun i fz t2 s2 r2 hr=>?_,fun i t2 s2 r2 hr=>?_,fun i t2 s2 r2 hr=>?_,fun i j t1 s1 r1 t2 s2 r2 hi hj _=>by rw[(lift hi).1,(lift hj).1],h.rlt,⟨fun b hb=>.inl hb,h.glob⟩,⟨fun _ _ h=>(by cases h),fun _ _ _ _ _ _ _ h=>(by cases h),fun _ _ _ h=>(by cases h)⟩⟩
 ·obtain⟨rfl,-⟩:=lift hr;exact .inr rfl
 ·obtain⟨rfl,hr⟩:=lift hr
  obtain⟨cur,c1,c2,c3,c4,c5,c6⟩:=h.row _ _ _ _ _ hr
  refine⟨cur,c1,c2,c3,c4,c5,fun a ha o ho=>?_⟩
  obtain⟨v,v1,v2,v3⟩:=c6 a ha o ho
  refine⟨v,v1,v2, ?_⟩
  rw[hk]at hr
  cases hr
  unfold vd7 at v3 ⊢
  simp only[Row.isBox,if_true]at v3 ⊢
  have hf:(nth l o).fr=true∨nth l o = .junk:=ly7 l o hl
  rcases hf with hf | hf
  ·have v3:Con M H w (nth l o) v:=v3
   show Con _ _ w (nth l o) v
   cases hx:nth l o <;> rw[hx]at hf v3 <;> first | exact v3 | cases hf
  ·show Con _ _ w (nth l o) v
   rw[hf];trivial
 ·obtain⟨rfl,hr⟩:=lift hr;rw[hk]at hr;cases hr
 ·obtain⟨rfl,hr⟩:=lift hr;exact h.thaw _ _ _ _ hr
theorem Rel.back (hgl:∀w,jg7 w) (h:Rel E M H w) {k:Nat}{t:TypeId}{sz:Nat}{l l':List AV}(hk:aa7 H k = .live false t sz (.box l)) {M2:Mp}{H2:List Root}(q1:Rel (Env.frm w M.rho (M.phi k) hgl) M2 H2 w') (q2:Kp ⟨M.phi,M.off,M.rho,fun _=>none⟩ (Ab.only k H) w M2 H2 w')
  (hk':aa7 H2 k = .live false t sz (.box l')) (hl':l'.all AV.fr=true) :
  Rel E ⟨M.phi,M.off,M2.rho,M.tau⟩ (ca7 H k (.live false t sz (.box l'))) w'∧Kp M H w ⟨M.phi,M.off,M2.rho,M.tau⟩ (ca7 H k (.live false t sz (.box l'))) w'∧ac7 (some (M.phi k)) w w':=by
 have hlt:k<H.length:=yb7 hk
 have hsz:w.heap.size≤w'.heap.size:=q1.bel.size
 have hblk:∀b,b<w.heap.size→b≠M.phi k→w'.heap[b]? = w.heap[b]? := fun b hb hne=>q1.bel.block b hb hne
 have hrho:∀b,M.rho b→M2.rho b:=fun b hb=>by
  obtain⟨b',o',e,hb',-⟩:=q2 (.rp 0 fun _=>.junk) (.pointer (some ⟨b,0,none⟩)) ⟨b,0,rfl,hb,fun j hj=>absurd hj (Nat.not_lt_zero _)⟩
  simp only[Value.pointer.injEq,Option.some.injEq,Addr.mk.injEq]at e
  rw[e.1];exact hb'
 have hko:aa7 (Ab.only k H) k = .live false t sz (.box l):=by rw[mn7,if_pos rfl,hk]
 have hphi:M2.phi k=M.phi k:=pu7 (M:=⟨M.phi,M.off,M.rho,fun _=>none⟩) q2 (by unfold iv7;rw[hko];exact⟨rfl,rfl⟩) (by unfold iv7;rw[hk'];exact⟨rfl,rfl⟩)
 obtain⟨cur,a1,a2,a3,a4,a5,a6⟩:=h.row _ _ _ _ _ hk
 obtain⟨cur2,b1,b2,b3,b4,b5,b6⟩:=q1.row _ _ _ _ _ hk'
 obtain⟨o1,s1⟩:=a5 rfl
 obtain⟨o2,s2⟩:=b5 rfl
 rw[hphi]at b1
 rw[o2]at b3 b6
 have hbr:∀b,M.rho b→w'.heap[b]? = w.heap[b]? := fun b hb=>hblk b (h.rlt b hb) fun e=>h.thaw _ _ _ _ hk (e ▸ hb)
 have hbt:∀b q,M.tau b=some q→w'.heap[b]? = w.heap[b]? := fun b q hq=>hblk b (h.tau.lt hq) fun e=>h.tau.row _ _ _ _ _ _ _ hq hk e.symm
 have hn:∀b,M2.rho b→M.rho b∨w.heap.size≤b∨b=M.phi k:=fun b hb=>q1.src.1 b hb
 have at3:∀{i:Nat} {fz:Bool} {t2:TypeId} {sz2:Nat} {r2:Row},aa7 (ca7 H k (.live false t sz (.box l'))) i = .live fz t2 sz2 r2→(i=k∧fz=false∧t2=t∧sz2=sz∧r2 = .box l')∨(i≠k∧aa7 H i = .live fz t2 sz2 r2):=fun {i fz t2 sz2 r2} hr=>by
  rw[jb7]at hr
  by_cases e:i=k
  ·rw[if_pos ⟨e,hlt⟩]at hr
   cases hr;exact .inl ⟨e,rfl,rfl,rfl,rfl⟩
  ·rw[if_neg (fun hh=>e hh.1)]at hr;exact .inr ⟨e,hr⟩
 have hne:∀{i:Nat} {fz:Bool} {t2:TypeId} {sz2:Nat} {r2:Row},i≠k→aa7 H i = .live fz t2 sz2 r2→M.phi i≠M.phi k:=fun {i fz t2 sz2 r2} e hr he=>by
  cases fz with
  | false=>exact e (h.inj _ _ _ _ _ _ _ _ hr hk he)
  | true=>exact h.thaw _ _ _ _ hk (he ▸ h.froz _ _ _ _ hr)
 have hkp:Kp M H w ⟨M.phi,M.off,M2.rho,M.tau⟩ (ca7 H k (.live false t sz (.box l'))) w':=by
  intro a v c
  cases a with
  | ptr id n i o =>
   refine⟨⟨by rw[da7];exact c.1.1,c.1.2⟩,fun fz t2 sz2 r2 hr=>?_⟩
   rcases at3 hr with ⟨rfl,rfl,rfl,rfl,rfl⟩ | ⟨-,hr⟩
   ·have:=c.2 _ _ _ _ hk;exact this
   ·exact c.2 _ _ _ _ hr
  | h id st len =>
   refine⟨⟨by rw[da7];exact c.1.1,c.1.2⟩,fun fz t2 sz2 r2 hr=>?_⟩
   rcases at3 hr with ⟨rfl,rfl,rfl,rfl,rfl⟩ | ⟨e,hr⟩
   ·obtain⟨c1,c2⟩:=c.2 _ _ _ _ hk
    refine⟨c1,fun hh=>?_⟩
    obtain⟨cap,cu,ad,k1,k2,k3,k4,k5,k6⟩:=c2 hh
    rw[a1]at k4
    cases k4
    exact⟨cap,cur2,ad,k1,k2,k3,b1,by show M.off id+_=_;omega,k6⟩
   ·obtain⟨c1,c2⟩:=c.2 _ _ _ _ hr
    refine⟨c1,fun hh=>?_⟩
    obtain⟨cap,cu,ad,k1,k2,k3,k4,k5⟩:=c2 hh
    exact⟨cap,cu,ad,k1,k2,k3,by rw[show (Mp.phi ⟨M.phi,M.off,M2.rho,M.tau⟩ id)=M.phi id from rfl,hblk _ (h.lt hr) (hne e hr)];exact k4,k5⟩
  | ws=>exact WSl.keep (fg7.of rfl hbt) c
  | wu=>obtain⟨n,hb',c⟩:=c;exact⟨n,hb',WSl.keep (fg7.of rfl hbt) c⟩
  | wp=>exact WPt.keep (fg7.of rfl hbt) c
  | junk=>trivial
  | _=>exact lb7.keep hbr hrho c
 refine⟨⟨⟨q1.bel.os.trans h.bel.os,q1.bel.tape.trans h.bel.tape,q1.bel.output.trans h.bel.output,Nat.le_trans h.bel.size hsz,fun b hb hx=>?_⟩,fun i fz t2 s2 r2 hr=>?_,fun i fz t2 s2 r2 hr=>?_,fun i t2 s2 r2 hr=>?_,fun i t2 s2 r2 hr=>?_,fun i j t1 s1 r1 t2 s2 r2 hi hj he=>?_,fun b hb=>q1.rlt b hb,⟨fun b hb=>?_,h.src.2.mono hrho⟩, ?_⟩,hkp,hsz,fun b hb hx=>hblk b hb fun e=>hx (by rw[e])⟩
 ·have hb1:=h.bel.size
  refine (hblk b (by omega) fun e=>?_).trans (h.bel.block b hb hx)
  rcases h.low _ _ _ _ _ hk with h1 | h1
  ·omega
  ·exact hx (e ▸ h1)
 ·rcases at3 hr with ⟨rfl,rfl,rfl,rfl,rfl⟩ | ⟨-,hr⟩
  ·exact h.low _ _ _ _ _ hk
  ·exact h.low _ _ _ _ _ hr
 ·rcases at3 hr with ⟨rfl,rfl,rfl,rfl,rfl⟩ | ⟨e,hr⟩
  ·refine⟨cur2,b1,b2,by show M.off i+_≤_;rw[o1];exact b3,⟨1,by show M.off i+_=_;omega⟩,fun _=>⟨o1,s2⟩,fun a ha o ho=>?_⟩
   obtain⟨v,v1,v2,v3⟩:=b6 a ha o ho
   refine⟨v,by rw[show (Mp.off ⟨M.phi,M.off,M2.rho,M.tau⟩ i)=0 from o1];exact v1,v2, ?_⟩
   unfold vd7 at v3 ⊢
   simp only[Row.isBox,if_true]at v3 ⊢
   have v3:Con M2 H2 w' (nth l' o) v:=v3
   show Con _ _ w' (nth l' o) v
   have hf:(nth l' o).fr=true∨nth l' o = .junk:=ly7 l' o hl'
   rcases hf with hf | hf
   ·cases hx:nth l' o <;> rw[hx]at hf v3 <;> first | exact v3 | cases hf
   ·rw[hf];trivial
  ·exact (h.row _ _ _ _ _ hr).keep hkp hbr hrho (hblk _ (h.lt hr) (hne e hr))
 ·rcases at3 hr with ⟨-,h1,-⟩ | ⟨-,hr⟩
  ·cases h1
  ·exact hrho _ (h.froz _ _ _ _ hr)
 ·rcases at3 hr with ⟨rfl,-,rfl,rfl,rfl⟩ | ⟨e,hr⟩
  ·have:=q1.thaw _ _ _ _ hk'
   rwa [hphi]at this
  ·intro hb
   rcases hn _ hb with h1 | h1 | h1
   ·exact h.thaw _ _ _ _ hr h1
   ·have:=h.lt hr;have h1:w.heap.size≤M.phi i:=h1;omega
   ·exact hne e hr h1
 ·rcases at3 hi with ⟨e1,-⟩ | ⟨e1,hi2⟩ <;> rcases at3 hj with ⟨e2,-⟩ | ⟨e2,hj2⟩
  ·rw[e1,e2]
  ·subst e1;exact absurd he.symm (hne e2 hj2)
  ·subst e2;exact absurd he (hne e1 hi2)
  ·exact h.inj _ _ _ _ _ _ _ _ hi2 hj2 he
 ·rcases hn b hb with h1 | h1 | h1
  ·exact h.src.1 b h1
  ·exact .inr (.inl (Nat.le_trans h.bel.size h1))
  ·exact .inr (by rw[h1];exact h.low _ _ _ _ _ hk)
 ·refine h.tau.keep rfl hbt (fun b q hq hb=>?_) fun b q i fz t2 s2 r2 hq hr=>?_
  ·rcases hn b hb with h1 | h1 | h1
   ·exact (h.tau.new b q hq).2 h1
   ·have:=h.tau.lt hq;omega
   ·exact h.tau.row _ _ _ _ _ _ _ hq hk h1.symm
  ·rcases at3 hr with ⟨rfl,-,rfl,rfl,rfl⟩ | ⟨-,hr⟩
   ·exact h.tau.row _ _ _ _ _ _ _ hq hk
   ·exact h.tau.row _ _ _ _ _ _ _ hq hr
def AV.onl (k:Nat):AV→Bool
 | .ptr id .. => decide (id=k)
 | a=>a.fr
def ipb7 (k:Nat):RV→Bool
 | .c a=>a.onl k
 | _=>false
theorem pib7 {M2:Mp}(hp:M2.phi=M.phi) (ho:M2.off=M.off) (hr:M2.rho=M.rho) {k:Nat}{x:RV}{v:Value}(hx:ipb7 k x=true) (h:ha7 M H w x v):ha7 M2 (only k H) w x v:=by
 cases x with
 | c a =>
  have h:Con M H w a v:=h
  have hx:a.onl k=true:=hx
  show Con M2 (only k H) w a v
  cases a with
  | ptr id n i o =>
   obtain rfl:id=k:=by simpa[AV.onl]using hx
   refine⟨⟨by rw[kv7];exact h.1.1,h.1.2⟩,fun fz t sz r hr2=>?_⟩
   rw[mn7,if_pos rfl]at hr2
   have:=h.2 _ _ _ _ hr2
   rw[hp,ho];exact this
  | h=>cases hx
  | ws=>cases hx
  | wu=>cases hx
  | wp=>cases hx
  | junk=>trivial
  | _=>exact lb7.keep (fun _ _=>rfl) (fun b hb=>by rw[hr];exact hb) h
 | _=>cases hx
theorem ev7 {M2:Mp}(hp:M2.phi=M.phi) (ho:M2.off=M.off) (hr:M2.rho=M.rho) {k:Nat}:∀{l:List RV}{vs:List Value},l.all (ipb7 k)=true→ab7 M H w l vs→ab7 M2 (only k H) w l vs
 | [],_,_,h=>h
 | _::_,_,hx,⟨v,r,e,h1,h2⟩=>by
  simp only[List.all_cons,Bool.and_eq_true]at hx
  exact⟨v,r,e,pib7 hp ho hr hx.1 h1,ev7 hp ho hr hx.2 h2⟩
def klb7:RV→Bool
 | .ifc _ x=>io7 x
 | x=>io7 x
theorem leb7 {M2:Mp}{H2:List Root}{x:RV}{v:Value}(hs:klb7 x=true) (h:ha7 M H w x v):ha7 M2 H2 w x v:=by
 cases x with
 | ifc t x =>
  obtain⟨u,rfl,h⟩:=h
  exact⟨u,rfl,uc7.up (bg7 (rho:=M2.rho) hs h)⟩
 | c a=>exact uc7.up (x:=.c a) (bg7 (rho:=M2.rho) hs h)
 | agg l=>exact uc7.up (x:=.agg l) (bg7 (rho:=M2.rho) hs h)
 | fn=>cases hs
 | tup l=>exact uc7.up (x:=.tup l) (bg7 (rho:=M2.rho) hs h)
def tsb7 (k:Nat) (t:TypeId) (sz:Nat) (H:List Root) (C:List Root→Prop) (H':List Root):Prop:=∃l',aa7 H' k = .live false t sz (.box l')∧l'.all AV.fr=true∧C (ca7 H k (.live false t sz (.box l')))
abbrev vhb7 [Pan] (k:Nat) (t:TypeId) (sz:Nat) (H:List Root):Pan:=⟨fun r H'=>klb7 r=true∧tsb7 k t sz H (Pan.px r) H'⟩
theorem ae7 [X:Pan] (hgl:∀w,jg7 w) {f:FuncId}{args:List RV}{k:Nat}{t:TypeId}{sz:Nat}{l:List AV}{K:RV→List Root→Prop}(hk:aa7 H k = .live false t sz (.box l)) (hl:l.all AV.fr=true) (ha:args.all (ipb7 k)=true)
  (hc : @ga7 P (vhb7 k t sz H) none f args (only k H) (fun r H'=>io7 r=true∧tsb7 k t sz H (K r) H')):ga7 P (some (some k)) f args H K:=by
 refine⟨hc.1,fun E M w vs h hv=>?_⟩
 refine (hc.2 _ ⟨M.phi,M.off,M.rho,fun _=>none⟩ w vs (h.only hgl hk hl) (ev7 (M:=M) (M2:=⟨M.phi,M.off,M.rho,fun _=>none⟩) rfl rfl rfl ha hv)).mono ?_
 rintro e w' (⟨M2,H2,r,v,rfl,q1,q2,q3,q4,q5,q6,l',q7,q8,q9⟩ | ⟨ch,rfl,M2,H2,r,v,rfl,q1,q2,q5,q3,q6,l',q7,q8,q9⟩)
 ·obtain⟨r1,r2,r3⟩:=h.back hgl hk q1 q2 q7 q8
  exact .inl ⟨_,_,r,v,rfl,r1,r2,uc7.up (bg7 (rho:=M2.rho) q6 q3),fun g e=>(by cases e;exact r3),by rw[da7];exact Nat.le_refl _,q9⟩
 ·obtain⟨r1,r2,r3⟩:=h.back hgl hk q1 q2 q7 q8
  exact .inr ⟨_,rfl,_,_,r,v,rfl,r1,r2,by rw[da7];exact Nat.le_refl _,leb7 q6 q3,q9⟩
end
theorem di7 (x:Root) (S:List Root):∀R:List Root,aa7 (R++x::S) R.length=x
 | []=>rfl
 | _::R=>di7 x S R
theorem og7 (x y:Root) (S:List Root):∀R:List Root,ca7 (R++x::S) R.length y=R++y::S
 | []=>rfl
 | z::R=>by show z::ca7 (R++x::S) R.length y=_;rw[og7 x y S R];rfl
abbrev eU (l:List Int):AV:=.sl l.length 1 (fun i _=>.int .u32 (l.getD i 0))
def qa7 (l:List Int) (u:Nat):Root:=.live false 214 2 (.box [eU l,I6 u])
theorem np7:cib7 Tryz.prog 216=true:=by kernel_rfl
def nc7:RV:=.ifc 216 (.agg [])
theorem wfb7 [Pan] {R S:List Root}{l:List Int}{u:Nat}{K:RV→List Root→Prop}(hl:l.length≤1000000) (hu:u≤l.length)
  (hK:u<l.length→K (.c (.int .u32 (l.getD u 0))) (R++qa7 l (u+1)::S))
  (hP:¬u<l.length→Pan.px nc7 (R++qa7 l u::S)) :
  ga7 Tryz.prog none 168 [.c (.ptr R.length 1 0 0)] (R++qa7 l u::S) K:=by
 refine db7 bc7 (by kernel_rfl) (fun n=>match n with | 1=>([0,4,1,2,3,5,6,7,8,9],0,none) | 4=>([0,4,1,2,3,5,6,7,8,9,10,11],0,none) | _=>([],0,none)) Tryz.func168 rfl (by kernel_rfl) Tryz.ntmps168 (congrArg Array.toList Tryz.results168) (by kernel_rfl) (by simp) ?_
 simp -implicitDefEqProofs only [go_sem,qa7,di7,og7,np7]
 refine⟨fun h=>hP (by omega),fun h=>⟨by omega,by omega,by omega, ?_⟩⟩
 rw[show ((u:Int)+1-1).toNat=u by omega,show (u:Int)+1=((u+1:Nat):Int) by omega]
 exact hK (by omega)
def ct7 (x:Int) (n:Int):Int:=x % n
theorem ueb7 [Pan] {R S:List Root}{l:List Int}{u:Nat}{n:Int}{K:RV→List Root→Prop}(hl:l.length≤1000000) (hu:u≤l.length) (hr:∀i,0≤l.getD i 0∧l.getD i 0≤4294967295) (hn:n≤1000000)
  (h0:n<1→K (.c (I6 0)) (R++qa7 l u::S))
  (hK:1≤n→u<l.length→K (.c (I6 (ct7 (l.getD u 0) n))) (R++qa7 l (u+1)::S))
  (hP:1≤n→¬u<l.length→Pan.px nc7 (R++qa7 l u::S)) :
  ga7 Tryz.prog none 121 [.c (.ptr R.length 1 0 0),.c (I6 n)] (R++qa7 l u::S) K:=by
 refine db7 bc7 (by kernel_rfl) (fun _=>([],0,none)) Tryz.func121 rfl (by kernel_rfl) Tryz.ntmps121 (congrArg Array.toList Tryz.results121) (by kernel_rfl) (by simp) ?_
 simp -implicitDefEqProofs only [go_sem]
 refine⟨fun h=>h0 h,fun h=>wfb7 hl hu (fun h1=>?_) (fun h1=>hP (by omega) h1)⟩
 have hx:=hr u
 have hK:=hK (by omega) h1
 generalize l.getD u 0=x at *
 simp -implicitDefEqProofs only [go_sem]
 have e1:=Int.emod_nonneg x (show n≠0 by omega)
 have e2:=Int.emod_lt_of_pos x (show 0<n by omega)
 rw[Int.tmod_eq_emod_of_nonneg hx.1]
 exact⟨by omega,by omega,by omega,by omega,hK⟩
def upK:CK→CK
 | .i k=>.i k
 | .s t ck b=>.s t (upKs ck) (b+1)
where upKs:List CK→List CK
 | []=>[]
 | q::l=>upK q::upKs l
def upA:AV→AV
 | .ws t ck n=>.ws t (upK.upKs ck) n
 | .wu t ck b=>.wu t (upK.upKs ck) b
 | .wp t ck o=>.wp t (upK.upKs ck) o
 | x=>x
def upL:List AV→List AV
 | []=>[]
 | x::l=>upA x::upL l
mutual
def upR:RV→RV
 | .c a=>.c (upA a)
 | .agg l=>.agg (upL l)
 | .fn f l nb=>.fn f (upL l) nb
 | .tup l=>.tup (hpb7 l)
 | .ifc t x=>.ifc t (upR x)
def hpb7:List RV→List RV
 | []=>[]
 | x::l=>upR x::hpb7 l
end
def upW:Row→Row
 | .box l=>.box (upL l)
 | .own l=>.own (l.map upL)
 | r=>r
def mnb7:Root→Root
 | .live fz t sz r=>.live fz t sz (upW r)
 | .dead=>.dead
def upH:List Root→List Root
 | []=>[]
 | r::l=>mnb7 r::upH l
def upT:Tm→Tm
 | []=>[]
 | (k,g,v)::l=>(k,g,upR v)::upT l
def upM (M:Mp):Mp:=⟨M.phi,M.off,M.rho,fun b=>(M.tau b).map fun q=>(q.1,upK.upKs q.2)⟩
section
variable {P:Program} {E:Env} {nt:Nat} {M:Mp} {H:List Root} {σ:AS} {a:Act} {w:World}
theorem qe7:∀l:List CK,(upK.upKs l).length=l.length
 | []=>rfl
 | _::l=>by simp[upK.upKs,qe7 l]
theorem sz7:∀(l:List CK) (j:Nat) (q:CK),(upK.upKs l)[j]? = some q→∃q0,l[j]? = some q0∧q=upK q0
 | [],j,q,h=>by simp[upK.upKs]at h
 | x::l,0,q,h=>⟨x,rfl,by simpa[upK.upKs]using h.symm⟩
 | x::l,j+1,q,h=>by simpa using sz7 l j q (by simpa[upK.upKs]using h)
theorem rz7 {b:Nat}{t:TypeId}{ck:List CK}(h:M.tau b=some (t,ck)):(upM M).tau b=some (t,upK.upKs ck):=by
 show (M.tau b).map _=_
 rw[h];rfl
theorem bu7 {b:Nat}{q:TypeId×List CK}(h:(upM M).tau b=some q):∃q0,M.tau b=some q0∧q=(q0.1,upK.upKs q0.2):=by
 have h:(M.tau b).map _=some q:=h
 cases hq:M.tau b with
 | none=>rw[hq]at h;cases h
 | some q0=>rw[hq]at h;exact⟨q0,rfl,(Option.some.inj h).symm⟩
theorem WSl.up {t:TypeId}{ck:List CK}{n:Nat}{v:Value}(h:WSl M w t ck n v):WSl (upM M) w t (upK.upKs ck) n v:=by
 obtain⟨x,c,rfl,h1,h2,h3,h4⟩:=h
 refine⟨x,c,rfl,h1,h2,h3,fun ad e=>?_⟩
 obtain⟨b,cur,e,g1,g2,g3⟩:=h4 ad e
 exact⟨b,cur,e,rz7 g1,g2,by rw[qe7];exact g3⟩
theorem ip7.up {q:CK}{v:Value}(h:ip7 M w q v):ip7 (upM M) w (upK q) v:=by
 cases q with
 | i k=>exact h
 | s t ck b=>obtain⟨n,h1,h2⟩:=h;exact⟨n,by omega,h2.up⟩
theorem ie7 {id:Nat}{fz:Bool}{t:TypeId}{sz:Nat}{r:Row}:∀{H:List Root},aa7 (upH H) id = .live fz t sz r→∃r0,aa7 H id = .live fz t sz r0∧r=upW r0:=by
 intro H
 induction H generalizing id with
 | nil=>intro h;cases h
 | cons x l ih =>
  cases id with
  | zero =>
   intro h
   cases x with
   | dead=>cases h
   | live fz' t' sz' r'=>cases h;exact⟨r',rfl,rfl⟩
  | succ id=>exact fun h=>ih h
theorem vs7:∀H:List Root,(upH H).length=H.length
 | []=>rfl
 | _::l=>by simp[upH,vs7 l]
theorem ho7 (r:Row):(upW r).len=r.len:=by
 cases r with
 | own l=>simp[upW,Row.len]
 | _=>rfl
theorem qgb7 (r:Row):(upW r).one=r.one:=by cases r <;> rfl
theorem ymb7 (l:List (List AV)) (i:Nat):(l.map upL).getD i []=upL (l.getD i []):=by
 simp only[List.getD_eq_getElem?_getD,List.getElem?_map]
 cases l[i]? <;> rfl
theorem igb7 (r:Row):(upW r).isBox=r.isBox:=by cases r <;> rfl
theorem iz7:∀(l:List AV) (o:Nat),nth (upL l) o=upA (nth l o)
 | [],_=>rfl
 | _::_,0=>rfl
 | _::l,o+1=>by simp only[upL,nth];exact iz7 l o
theorem Con.up {x:AV}{v:Value}(h:Con M H w x v):Con (upM M) (upH H) w (upA x) v:=by
 cases x with
 | ptr id n i o =>
  refine⟨⟨by rw[vs7];exact h.1.1,h.1.2⟩,fun fz t sz r hr=>?_⟩
  obtain⟨r0,k1,rfl⟩:=ie7 hr
  rw[ho7]
  exact h.2 _ _ _ _ k1
 | h id st len =>
  refine⟨⟨by rw[vs7];exact h.1.1,h.1.2⟩,fun fz t sz r hr=>?_⟩
  obtain⟨r0,k1,rfl⟩:=ie7 hr
  rw[ho7]
  exact h.2 _ _ _ _ k1
 | ws t ck n=>exact WSl.up h
 | wu t ck b=>obtain⟨n,hb,h⟩:=h;exact⟨n,hb,WSl.up h⟩
 | wp t ck o =>
  obtain⟨b,cur,i,rfl,h1,h2,h3⟩:=h
  exact⟨b,cur,i,by rw[qe7],rz7 h1,h2,by rw[qe7];exact h3⟩
 | junk=>trivial
 | _=>exact h
theorem mb7.up:∀{l:List AV}{vs:List Value},mb7 M H w l vs→mb7 (upM M) (upH H) w (upL l) vs
 | [],_,h=>h
 | _::_,_,⟨v,r,e,h1,h2⟩=>⟨v,r,e,h1.up,mb7.up h2⟩
mutual
theorem ha7.up:∀{x:RV}{v:Value},ha7 M H w x v→ha7 (upM M) (upH H) w (upR x) v
 | .c _,_,h=>Con.up h
 | .agg _,_,⟨vs,e,h⟩=>⟨vs,e,mb7.up h⟩
 | .fn _ _ _,_,⟨vs,e,h⟩=>⟨vs,e,mb7.up h⟩
 | .tup _,_,⟨vs,e,h⟩=>⟨vs,e,ab7.up h⟩
 | .ifc _ _,_,⟨u,e,h⟩=>⟨u,e,ha7.up h⟩
theorem ab7.up:∀{x:List RV}{vs:List Value},ab7 M H w x vs→ab7 (upM M) (upH H) w (hpb7 x) vs
 | [],_,h=>h
 | _::_,_,⟨v,r,e,h1,h2⟩=>⟨v,r,e,ha7.up h1,ab7.up h2⟩
end
theorem Rel.up (h:Rel E M H w):Rel E (upM M) (upH H) w:=by
 refine⟨h.bel,fun id fz t sz r hr=>?_,fun id fz t sz r hr=>?_,fun id t sz r hr=>?_,fun id t sz r hr=>?_,fun i j t s r t' s' r' hi hj he=>?_,h.rlt,h.src,⟨fun b q hq=>?_,fun b q id fz t sz r hq hr=>?_,fun b t ck hq=>?_⟩⟩
 ·obtain⟨r0,k1,rfl⟩:=ie7 hr;exact h.low _ _ _ _ _ k1
 ·obtain⟨r0,k1,rfl⟩:=ie7 hr
  obtain⟨cur,c1,c2,c3,c4,c5,c6⟩:=h.row _ _ _ _ _ k1
  refine⟨cur,c1,c2,by rw[ho7];exact c3,c4,by rw[qgb7];exact c5,fun i hi o ho2=>?_⟩
  rw[ho7]at hi
  obtain⟨v,q1,q2,q3⟩:=c6 i hi o ho2
  refine⟨v,q1,q2, ?_⟩
  unfold vd7 at q3 ⊢
  rw[igb7]
  cases r0 with
  | box l =>
   simp only[Row.isBox,if_true]at q3 ⊢
   show Con _ _ w (nth (upL l) o) v
   rw[iz7]
   exact q3.up
  | own l =>
   simp only[Row.isBox,if_true]at q3 ⊢
   show Con _ _ w (nth ((l.map upL).getD i []) o) v
   rw[ymb7,iz7]
   exact q3.up
  | _=>exact q3
 ·obtain⟨r0,k1,rfl⟩:=ie7 hr;exact h.froz _ _ _ _ k1
 ·obtain⟨r0,k1,rfl⟩:=ie7 hr;exact h.thaw _ _ _ _ k1
 ·obtain⟨r0,k1,rfl⟩:=ie7 hi
  obtain⟨r1,k2,rfl⟩:=ie7 hj
  exact h.inj _ _ _ _ _ _ _ _ k1 k2 he
 ·obtain⟨q0,k1,rfl⟩:=bu7 hq;exact h.tau.new b q0 k1
 ·obtain⟨q0,k1,rfl⟩:=bu7 hq
  obtain⟨r0,k2,rfl⟩:=ie7 hr
  exact h.tau.row _ _ _ _ _ _ _ k1 k2
 ·obtain⟨q0,k1,e⟩:=bu7 hq
  cases e
  obtain⟨cur,c1,c2,c3,c4⟩:=h.tau.cells b q0.1 q0.2 k1
  refine⟨cur,c1,by rw[qe7];exact c2,by rw[qe7];exact c3,fun k hk=>?_⟩
  obtain⟨v,v1,v2⟩:=c4 k hk
  refine⟨v,v1,fun q hq2=>?_⟩
  rw[qe7]at hq2
  obtain⟨q1,k3,rfl⟩:=sz7 _ _ _ hq2
  exact (v2 _ k3).up
theorem ubb7:∀(tm:Tm) (t:Nat),lk (upT tm) t=((lk tm t).1,upR (lk tm t).2)
 | [],_=>rfl
 | (k,g,v)::l,t=>by
  simp only[upT,lk]
  split
  ·rfl
  ·exact ubb7 l t
def upS (σ:AS):AS:=⟨upT σ.tm,upH σ.H⟩
theorem St.up (h:St E nt M σ a w):St E nt (upM M) (upS σ) a w:=by
 refine⟨h.rel.up,fun t ht=>?_,fun t ht=>?_,h.sz,h.df⟩
 ·have ht:(lk (upT σ.tm) t).1=true:=ht
  show ha7 _ _ w (lk (upT σ.tm) t).2 _
  rw[ubb7]at ht ⊢
  exact (h.tms t ht).up
 ·have ht:(lk (upT σ.tm) t).1=false:=ht
  rw[ubb7]at ht
  exact h.off t ht
end
inductive Tr where
 | d (u:Bool)
 | no
 | br (w:Bool) (i:Nat) (t r:Tr)
inductive Pl where
 | a
 | s (p q:Pl)
 | c (p q:Pl)
 | b (p:Pl)
 | k (ks:List Nat) (p q:Pl)
 | t (lq:List Nat) (T:Tr) (r fins:List Nat)
section
variable (P:Program) (ty:Ty)
end
section
variable {P:Program} {ty:Ty} {E:Env} {nt:Nat} {M:Mp} {σ:AS} {a:Act} {w w0:World} {ops:Array Oper} {K:AS→Prop} {Q:Exit→Act→World→Prop} {fins r:List Nat}
section
variable {ord:Nat→List Nat×Nat×Option DD} {Q:Exit→AS→Prop} {p q:Pl}
end
end
end Go.Proofs.YtabadfkikdefeaaGreat.Ab










namespace Go.Proofs.YtabadfkikdefeaaGreat.Ab
open Go.RowKit
section
variable {P:Program} {ops:Array Oper} {a:Act} {w:World} {o:Oper} {v:Value}
theorem oe7 (hg:o.guard=none) (f:Nat→Option Bool):Region.wanted o f=true:=by
 unfold Region.wanted;rw[hg]
theorem deb7 {Q:Exit→Act→List Frame→World→Prop}{i:Nat}{rest:List Nat}{cs cs':List Frame}(ho:ops[i]? = some o) (hg:o.guard=none) (hx:(execOp a.eval o).run P w = .ok .recover w) (hr:recoverD cs=some (v,cs')) (hn:wpOpsS P ops Q rest (a.put o.dst v) cs' w):wpOpsS P ops Q (i::rest) a cs w:=by
 unfold wpOpsS
 simp only[ho,oe7 hg,if_true,hx,hr]
 exact hn
theorem shb7 {Q:Exit→Act→List Frame→World→Prop}{i:Nat}{rest:List Nat}{cs:List Frame}(ho:ops[i]? = some o) (hg:o.guard=none) (hx:(execOp a.eval o).run P w = .ok .recover w) (hr:recoverD cs=none) (hn:wpOpsS P ops Q rest (a.put o.dst .nilIface) cs w):wpOpsS P ops Q (i::rest) a cs w:=by
 unfold wpOpsS
 simp only[ho,oe7 hg,if_true,hx,hr]
 exact hn
theorem wu7 {Q:Exit→Act→List Frame→World→Prop}{i:Nat}{rest:List Nat}{cs:List Frame}(ho:ops[i]? = some o) (hg:o.guard=none) (hx:(execOp a.eval o).run P w = .ok (.value v) w) (hn:wpOpsS P ops Q rest (a.put o.dst v) cs w):wpOpsS P ops Q (i::rest) a cs w:=by
 unfold wpOpsS
 simp only[ho,oe7 hg,if_true,hx]
 exact hn
theorem jc7 {Q:Exit→Act→World→Prop}{l:List Oper}(hg:o.guard=none) (hx:(execOp a.eval o).run P w = .ok (.value v) w) (hn:wpList P ops Q l (a.put o.dst v) w):wpList P ops Q (o::l) a w:=by
 unfold wpList
 rw[if_pos (oe7 hg _)]
 refine .inl ?_
 unfold Oper.wp
 rw[hx]
 exact hn
theorem dib7 [Pan] {ty:Ty}{E:Env}{nt:Nat}{M:Mp}{σ:AS}{Q:Exit→Act→World→Prop}{l:List Oper}{K:AS→Prop}(hT:qb7 P ty) (h:St E nt M σ a w) (hd:∀t,o.dst=some t→t<nt) (hw:mk7 P ty none none ops σ o K)
  (hn:∀M' σ' a' w',St E nt M' σ' a' w'→Kp M σ.H w M' σ'.H w'→σ.H.length≤σ'.H.length→K σ'→wpList P ops Q l a' w') (hP:∀ch w',bl7 E M σ.H w ch w'→Q (.panic ch) a w'):wpList P ops Q (o::l) a w:=by
 have:=ep7 (Q:=Q) (next:=wpList P ops Q l) hT h hd hw (fun M' σ' a' w' q1 _ q3 q4=>hn M' σ' a' w' q1 q3.kp q3.len q4) hP
 unfold wpList
 split
 ·rename_i hwt;rw[if_pos hwt]at this;exact .inl this
 ·rename_i hwt;rw[if_neg hwt]at this;exact this
end
def GoK (E:Env) (nt:Nat) (M:Mp) (H:List Root) (w:World) (Z:Act→World→Prop) (σ':AS):Prop:=∀M' a' w',St E nt M' σ' a' w'→Kp M H w M' σ'.H w'→Z a' w'
section
variable {P:Program} {ty:Ty} {E:Env} {nt:Nat} {M:Mp} {σ:AS} {a:Act} {w:World} {Q:Exit→Act→World→Prop}
def GoE (E:Env) (nt:Nat) (M:Mp) (H:List Root) (w:World) (Q:Exit→Act→World→Prop) (e:Exit) (σ':AS):Prop:=GoK E nt M H w (Q e) σ'
theorem ws7 {M0:Mp}{H0:List Root}{w0:World}(hT:qb7 P ty) (hm:P.follows .mixedOrders=true) (ord:Nat→List Nat×Nat×Option DD) {c:Code}(hok:okC nt ord c=true) (h:St E nt M σ a w) (h0:Kp M0 H0 w0 M σ.H w) (hw:awp P ty ord c (GoE E nt M0 H0 w0 Q) σ):c.wp P Q a w :=
 wp_mono (ef7 hT hm c hok h hw) fun e a' w' hA=>by
  rcases hA with ⟨-,M2,σ2,r1,r2,r3⟩ | ⟨ch,-,-,hp⟩
  ·exact r3 M2 a' w' r1 (h0.trans r2.kp)
  ·exact (pa7 hp).elim
theorem xab7 {M0:Mp}{H0:List Root}{w0:World}(hT:qb7 P ty) (hm:P.follows .mixedOrders=true) (ord:Nat→List Nat×Nat×Option DD) {x y:Code}(hok:okC nt ord x=true) (h:St E nt M σ a w) (h0:Kp M0 H0 w0 M σ.H w) (hw:awp P ty ord x (GoE E nt M0 H0 w0 (Exit.then (y.wp P Q) Q)) σ):(Code.seq x y).wp P Q a w :=
 wp_seq (ws7 hT hm ord hok h h0 hw)
end
theorem bn7 (x:Root):∀R:List Root,aa7 (R++[x]) R.length=x
 | []=>rfl
 | _::R=>bn7 x R
theorem kk7 (x y:Root):∀R:List Root,ca7 (R++[x]) R.length y=R++[y]
 | []=>rfl
 | z::R=>by show z::ca7 (R++[x]) R.length y=_;rw[kk7 x y R];rfl
theorem bdb7 (p q r:Value) (w:World):CallsD Tryz.prog 120 #[p,q,r] .returning w fun e u' w'=>(∃v,e = .returned v)∧u' = .returning∧w'=w:=by
 refine callsD_of_wpS Tryz.func120 rfl fun c₀ cs hu=>?_
 rw[Tryz.ntmps120]
 apply wpS_seq
 apply wpS_region
 refine shb7 (i:=0) rfl rfl rfl (by simp[recoverD,hu]) ?_
 refine wu7 (i:=1) rfl rfl rfl ?_
 refine wpS_of_wp (wp_seq (wp_region_list ?_))
 refine jc7 rfl rfl ?_
 refine jc7 (v:=.bool false) rfl (by kernel_rfl) ?_
 refine wp_cond_false (by kernel_rfl) (wp_skip ?_)
 refine⟨rfl,.returning,by rw[← hu],.tuple #[], ?_,⟨_,rfl⟩,rfl,rfl⟩
 kernel_rfl
section
variable {P:Program} {ops:Array Oper} {a:Act} {w w':World} {o:Oper} {v:Value}
theorem rcb7 {Q:Exit→Act→World→Prop}{l:List Oper}(hg:o.guard=none) (hx:(execOp a.eval o).run P w = .ok (.value v) w') (hn:wpList P ops Q l (a.put o.dst v) w'):wpList P ops Q (o::l) a w:=by
 unfold wpList
 rw[if_pos (oe7 hg _)]
 refine .inl ?_
 unfold Oper.wp
 rw[hx]
 exact hn
theorem cz7 {Q:Exit→Act→World→Prop}{l:List Oper}(hg:o.guard=none) (hx:(execOp a.eval o).run P w = .ok .skip w) (hn:wpList P ops Q l (a.put o.dst (.tuple #[])) w):wpList P ops Q (o::l) a w:=by
 unfold wpList
 rw[if_pos (oe7 hg _)]
 refine .inl ?_
 unfold Oper.wp
 rw[hx]
 exact hn
theorem St.belowN {E:Env}{nt:Nat}{M:Mp}{σ:AS}(h:St E nt M σ a w) (hb:Below w.heap.size w w'):St E nt M σ a w' :=
 ⟨h.rel.below hb,fun t ht=>(Kp.below h.rel hb).R (h.tms t ht),h.off,h.sz,h.df⟩
end
abbrev ux7 (u:Int):Root:=.live false 3 1 (.box [I6 u])
abbrev nx7 (b:Bool):Root:=.live false 4 1 (.box [.bool b])
abbrev vx7 (n:Nat):Root:=.live false 107 1 (.box [.ptr n 1 0 0])
theorem gd7 (R S:List Root) (i:Nat):aa7 (R++S) (R.length+i)=aa7 S i:=by
 induction R with
 | nil=>simp
 | cons a R ih=>rw[List.length_cons,show R.length+1+i=(R.length+i)+1 by omega];exact ih
theorem cg7 (R S:List Root):aa7 (R++S) R.length=aa7 S 0:=gd7 R S 0
theorem rg7 (R S:List Root) (i:Nat) (y:Root):ca7 (R++S) (R.length+i) y=R++ca7 S i y:=by
 induction R with
 | nil=>simp
 | cons a R ih=>rw[List.length_cons,show R.length+1+i=(R.length+i)+1 by omega];show a::ca7 (R++S) (R.length+i) y=_;rw[ih];rfl
theorem ki7 (R S:List Root) (y:Root):ca7 (R++S) R.length y=R++ca7 S 0 y:=rg7 R S 0 y
def dcX (l:AV) (u:Nat):Root:=.live false 214 2 (.box [l,I6 u])
def mj7 (H R:List Root) (x:Int) (y:Bool) (l:AV) (u:Nat):List Root:=H++ux7 x::nx7 y::dcX l u::vx7 (H.length+2)::R
theorem bcb7 {E:Env}{M:Mp}{H R:List Root}{x:Int}{y:Bool}{l:AV}{u:Nat}{w:World}{p q r v:Value}(h:Rel E M (mj7 H R x y l u) w)
  (hp:Con M (mj7 H R x y l u) w (.ptr (H.length+3) 1 0 0) p) (hq:Con M (mj7 H R x y l u) w (.ptr H.length 1 0 0) q) (hr:Con M (mj7 H R x y l u) w (.ptr (H.length+1) 1 0 0) r) (hv:ha7 M (mj7 H R x y l u) w nc7 v) :
  CallsD Tryz.prog 120 #[p,q,r] (.panicking [{ v:=v,recovered:=false }]) w fun e u' w'=>(∃v,e = .returned v)∧u' = .panicking [{ v:=v,recovered:=true }]∧∃M',Rel E M' (mj7 H R u false l u) w'∧Kp M (mj7 H R x y l u) w M' (mj7 H R u false l u) w':=by
 obtain⟨z,rfl,hz⟩:=hv
 obtain⟨zs,rfl,hzs⟩:=hz
 obtain rfl:zs=[]:=hzs
 refine callsD_of_wpS Tryz.func120 rfl fun c₀ cs hm=>?_
 rw[Tryz.ntmps120]
 have st:=St.enter (h.env []) rfl (args:=[.c (.ptr (H.length+3) 1 0 0),.c (.ptr H.length 1 0 0),.c (.ptr (H.length+1) 1 0 0)]) (vs:=[p,q,r]) ⟨p,_,rfl,hp,q,_,rfl,hq,r,_,rfl,hr,rfl⟩ (n:=21) (by simp)
 apply wpS_seq
 apply wpS_region
 refine deb7 (i:=0) (v:=.iface 216 (.agg #[])) (cs':={ c₀ with mode:=.panicking [{ v:=.iface 216 (.agg #[]),recovered:=true }] }::cs) rfl rfl rfl (by simp[recoverD,hm]) ?_
 replace st:=st.putV (d:=some 6) (g:=true) (r:=.c .junk) (v:=.iface 216 (.agg #[])) (by simp) (fun _=>trivial) (fun e=>by cases e)
 refine wu7 (i:=1) (v:=.iface 216 (.agg #[])) rfl rfl (by kernel_rfl) ?_
 replace st:=st.putV (d:=some 3) (g:=true) (r:=.c .junk) (v:=.iface 216 (.agg #[])) (by simp) (fun _=>trivial) (fun e=>by cases e)
 refine wpS_of_wp (wp_seq (wp_region_list ?_))
 refine jc7 (v:=.iface 216 (.agg #[])) rfl (by kernel_rfl) ?_
 replace st:=st.putV (d:=some 7) (g:=true) (r:=.c .junk) (v:=.iface 216 (.agg #[])) (by simp) (fun _=>trivial) (fun e=>by cases e)
 refine jc7 (v:=.bool true) rfl (by kernel_rfl) ?_
 replace st:=st.putV (d:=some 8) (g:=true) (r:=.c .junk) (v:=.bool true) (by simp) (fun _=>trivial) (fun e=>by cases e)
 refine wp_cond_true (by kernel_rfl) (wp_seq (wp_seq (wp_region_list ?_)))
 refine jc7 (v:=.iface 216 (.agg #[])) rfl (by kernel_rfl) ?_
 replace st:=st.putV (d:=some 10) (g:=true) (r:=.c .junk) (v:=.iface 216 (.agg #[])) (by simp) (fun _=>trivial) (fun e=>by cases e)
 refine jc7 (v:=.tuple #[.agg #[],.bool true]) rfl (by kernel_rfl) ?_
 replace st:=st.putV (d:=some 11) (g:=true) (r:=.c .junk) (v:=.tuple #[.agg #[],.bool true]) (by simp) (fun _=>trivial) (fun e=>by cases e)
 refine jc7 (v:=.tuple #[.agg #[],.bool true]) rfl (by kernel_rfl) ?_
 replace st:=st.putV (d:=some 9) (g:=true) (r:=.c .junk) (v:=.tuple #[.agg #[],.bool true]) (by simp) (fun _=>trivial) (fun e=>by cases e)
 refine jc7 (v:=.agg #[]) rfl (by kernel_rfl) ?_
 replace st:=st.putV (d:=some 12) (g:=true) (r:=.c .junk) (v:=.agg #[]) (by simp) (fun _=>trivial) (fun e=>by cases e)
 refine jc7 (v:=.bool true) rfl (by kernel_rfl) ?_
 replace st:=st.putV (d:=some 13) (g:=true) (r:=.c (.bool true)) (v:=.bool true) (by simp) (fun _=>rfl) (fun e=>by cases e)
 have hb:Below w.heap.size w (w.alloc (.cells #[] 216)):=(Below.refl _ _).alloc (Nat.le_refl _) _
 have kb:=Kp.below st.rel hb
 refine rcb7 (w':=w.alloc (.cells #[] 216)) (v:=.pointer (some ⟨w.heap.size,0,none⟩)) rfl (by kernel_rfl) ?_
 replace st:=(st.belowN hb).putV (d:=some 4) (g:=true) (r:=.c .junk) (v:=.pointer (some ⟨w.heap.size,0,none⟩)) (by simp) (fun _=>trivial) (fun e=>by cases e)
 refine cz7 rfl (by kernel_rfl) ?_
 replace st:=st.putV (d:=none) (g:=true) (r:=.c .junk) (v:=.tuple #[]) (by simp) (fun _=>trivial) (fun e=>by cases e)
 refine jc7 (v:=.bool true) rfl (by kernel_rfl) ?_
 replace st:=st.putV (d:=some 5) (g:=true) (r:=.c (.bool true)) (v:=.bool true) (by simp) (fun _=>rfl) (fun e=>by cases e)
 refine ws7 bc7 (by kernel_rfl) (fun _=>([],0,none)) (by kernel_rfl) st kb ?_
 simp -implicitDefEqProofs only [go_sem]
 refine fun _ M1 a1 w1 st kp=>?_
 refine ws7 bc7 (by kernel_rfl) (fun n=>match n with | 5=>([],1,some (.r 2)) | _=>([],0,none)) (by kernel_rfl) st kp ?_
 simp -implicitDefEqProofs only [go_sem,mj7,dcX,gd7,cg7,rg7,ki7]
 refine fun M2 a2 w2 st kp=>?_
 exact⟨st.df,_,rfl,.tuple #[],by kernel_rfl,⟨_,rfl⟩,rfl,M2,st.rel.env2,kp⟩
section
variable {P:Program} {ops:Array Oper} {a:Act} {w:World} {o:Oper} {v:Value}
theorem fy7 {Q:Exit→Act→World→Prop}{l:List Oper}{d:Deferred}(hg:o.guard=none) (hx:(execOp a.eval o).run P w = .ok (.defer d) w) (hn:wpList P ops Q l ({ a with defers:=d::a.defers }.put o.dst undef) w):wpList P ops Q (o::l) a w:=by
 unfold wpList
 rw[if_pos (oe7 hg _)]
 refine .inl ?_
 unfold Oper.wp
 rw[hx]
 exact hn
theorem cq7 [Pan] {ty:Ty}{E:Env}{nt:Nat}{M M0:Mp}{H0:List Root}{w0:World}{σ:AS}{Q:Exit→Act→World→Prop}{l:List Oper}(hT:qb7 P ty) (h:St E nt M σ a w) (h0:Kp M0 H0 w0 M σ.H w) (hd:∀t,o.dst=some t→t<nt) (hP:∀ch w',bl7 E M σ.H w ch w'→Q (.panic ch) a w')
  (hw:mk7 P ty none none ops σ o (GoK E nt M0 H0 w0 (fun a' w'=>wpList P ops Q l a' w'))):wpList P ops Q (o::l) a w :=
 dib7 hT h hd hw (fun M' σ' a' w' q1 q2 _ q4=>q4 M' a' w' q1 (h0.trans q2)) hP
theorem St.goT {E:Env}{nt:Nat}{M M':Mp}{σ:AS}{H':List Root}{w':World}(h:St E nt M σ a w) (hr:Rel E M' H' w') (hk:Kp M σ.H w M' H' w'):St E nt M' ⟨σ.tm,H'⟩ a w' :=
 ⟨hr,fun t ht=>hk.R (h.tms t ht),h.off,h.sz,h.df⟩
end
def xob7 (P:Program) (K:RV→List Root→Prop) (E:Env) (M:Mp) (H:List Root) (w:World) (e:Ending) (w':World):Prop :=
 (∃M' H' r v,e = .returned v∧Rel E M' H' w'∧Kp M H w M' H' w'∧ha7 M' H' w' r v∧(∀g,(none:Pu)=some g→ac7 (g.map M.phi) w w')∧H.length≤H'.length∧K r H')∨∃ch,e = .panicked ch∧bl7 E M H w ch w'
abbrev mib7:List ResultVar:=[.cell 4 3,.cell 5 4]
theorem ybb7 {K:RV→List Root→Prop}{E:Env}{d:List Deferred}{M M':Mp}{H:List Root}{w w':World}{σ':AS}{tmps:Array Value}{df:List Deferred}(st:St ⟨E.W0,E.rho0,d,E.ex,E.exk⟩ 20 M' σ' ⟨tmps,df⟩ w') (kp:Kp M H w M' σ'.H w') (hlen:H.length≤σ'.H.length) (h:sjb7 ty mib7 K .ret σ'):Leaves Tryz.prog Tryz.f46 tmps (xob7 Tryz.prog K E M H w) [] .returning w':=by
 obtain⟨v,k1,k2⟩:=wf7 bc7 st (fn:=Tryz.f46) (rs:=mib7) (congrArg Array.toList Tryz.results46) h.1
 exact⟨v,k2,.inl ⟨M',σ'.H,_,v,rfl,st.rel.env2,kp,k1,fun g e=>(by cases e),hlen,h.2⟩⟩
abbrev xk7 (p q r:Value):Deferred:=⟨.fn (.func 120) #[p,q,r], #[]⟩
abbrev veb7 (K:RV→List Root→Prop) (n:Nat) (l:AV):Pan:=⟨fun r H'=>∃H1 R u,r=nc7∧H1.length=n∧H'=mj7 H1 R 0 false l u∧K (.tup [.c (I6 u),.c (.bool false)]) (mj7 H1 R u false l u)⟩
section
variable {K:RV→List Root→Prop} {E:Env} {M M':Mp} {H:List Root} {w w':World} {σ':AS} {tmps:Array Value} {df:List Deferred} {p q r:Value}
theorem fdb7 (st:St ⟨E.W0,E.rho0,[xk7 p q r],E.ex,E.exk⟩ 20 M' σ' ⟨tmps,df⟩ w') (kp:Kp M H w M' σ'.H w') (hlen:H.length≤σ'.H.length) (h:sjb7 ty mib7 K .ret σ'):Leaves Tryz.prog Tryz.f46 tmps (xob7 Tryz.prog K E M H w) [xk7 p q r] .returning w':=by
 refine leaves_cons (f:=120) (args:=#[p,q,r]) (by simp) (by kernel_rfl) ((bdb7 p q r w').mono ?_)
 rintro e u' w'' ⟨⟨vv,rfl⟩,rfl,rfl⟩
 exact ybb7 st kp hlen h
theorem edb7 {n:Nat}{l:AV}{ch:List PanicEntry}{w2:World}(st:St ⟨E.W0,E.rho0,[xk7 p q r],E.ex,E.exk⟩ 20 M' σ' ⟨tmps,df⟩ w') (kp:Kp M H w M' σ'.H w') (hlen:H.length≤σ'.H.length) (hp:Con M' σ'.H w' (.ptr (n+3) 1 0 0) p) (hq:Con M' σ'.H w' (.ptr n 1 0 0) q) (hr:Con M' σ'.H w' (.ptr (n+1) 1 0 0) r)
  (l4:lk σ'.tm 4=(true,.c (.ptr n 1 0 0))) (l5:lk σ'.tm 5=(true,.c (.ptr (n+1) 1 0 0))) (hP : @bl7 (veb7 K n l) ⟨E.W0,E.rho0,[xk7 p q r],E.ex,E.exk⟩ M' σ'.H w' ch w2):Leaves Tryz.prog Tryz.f46 tmps (xob7 Tryz.prog K E M H w) [xk7 p q r] (.panicking ch) w2:=by
 obtain⟨M2,H2,rv,v,rfl,hrl,hk,hlen2,hv,H1,R,u,rfl,rfl,rfl,good⟩:=hP
 refine leaves_cons (f:=120) (args:=#[p,q,r]) (by simp) (by kernel_rfl) ((bcb7 hrl (hk _ _ hp) (hk _ _ hq) (hk _ _ hr) hv).mono ?_)
 rintro e u' w'' ⟨⟨vv,rfl⟩,rfl,M3,r1,r2⟩
 refine ybb7 (st.goT r1 (hk.trans r2)) ((kp.trans hk).trans r2) (Nat.le_trans hlen (Nat.le_trans hlen2 (by simp[mj7]))) ?_
 simp -implicitDefEqProofs only [go_sem,l4,l5,mj7,gd7,cg7]
 exact good
end
theorem us7 [Pan] {P:Program}{pu:Pu}{f:FuncId}{args:List RV}{H:List Root}{K K':RV→List Root→Prop}(hK:∀r H,K r H→K' r H) (h:ga7 P pu f args H K):ga7 P pu f args H K' :=
 ⟨h.1,fun E M w vs hr hc=>(h.2 E M w vs hr hc).mono fun e w' hh=>hh.imp (fun ⟨M',H',r,v,e1,e2,e3,e4,e5,e6,e7⟩=>⟨M',H',r,v,e1,e2,e3,e4,e5,e6,hK _ _ e7⟩) id⟩
theorem bfb7 {H:List Root}{l:AV}{f:Nat}{cs:List AV}{nb:Nat}{K:RV→List Root→Prop}(hl:(match l with | .junk=>false | _=>true)=true)
  (hb : @ga7 Tryz.prog (veb7 K H.length l) none f ((cs.take nb).map .c++([.c (.ptr (H.length+2) 1 0 0)]++(cs.drop nb).map .c)) (mj7 H [] 0 false l 0) (fun _ H'=>∃H1 R u,H1.length=H.length∧H'=mj7 H1 R 0 false l u∧K (.tup [.c (I6 u),.c (.bool true)]) (mj7 H1 R u true l u))) :
  ga7 Tryz.prog none 46 [.c l,.fn f cs nb] H K:=by
 refine⟨⟨_,_,Tryz.func46,by kernel_rfl,rfl⟩,fun E M w vs hrel hc=>calls_of_wp_defers (R:=xob7 Tryz.prog K E M H w) Tryz.func46 rfl ?_⟩
 rw[Tryz.ntmps46]
 have st:=St.enter (hrel.env []) rfl hc (n:=20) (by simp)
 refine xab7 bc7 (by kernel_rfl) (fun _=>([],0,none)) (by kernel_rfl) st (Kp.refl _ _ _) ?_
 simp -implicitDefEqProofs only [go_sem]
 clear st
 refine fun M1 a1 w1 st k1=>?_
 refine xab7 bc7 (by kernel_rfl) (fun _=>([],0,none)) (by kernel_rfl) st k1 ?_
 simp -implicitDefEqProofs only [go_sem,bn7,kk7]
 clear st k1
 refine⟨hl,hl,fun M1 a1 w1 st k1=>?_⟩
 simp only[List.length_append,List.append_assoc,List.cons_append,List.nil_append,List.length_cons,List.length_nil,Nat.zero_add,Nat.reduceAdd,Nat.add_assoc]at st k1
 refine wp_seq (wp_region_list ?_)
 refine cq7 bc7 st k1 (by simp) (fun ch w' hp=>(pa7 hp).elim) ?_
 simp -implicitDefEqProofs only [go_sem]
 clear st k1
 refine fun M1 a1 w1 st k1=>?_
 obtain⟨caps,e10,p,_,rfl,hp,q,_,rfl,hq,r,_,rfl,hr,rfl⟩:=st.rd (x:=.tmp 10) rfl
 refine fy7 (d:=⟨.fn (.func 120) #[p,q,r], #[]⟩) rfl ?_ ?_
 ·unfold execOp
  simp only[resolve,e10]
  kernel_rfl
 replace st:St ⟨E.W0,E.rho0,[xk7 p q r],E.ex,E.exk⟩ 20 M1 _ { a1 with defers:=xk7 p q r::a1.defers } w1:=⟨st.rel.env [xk7 p q r],st.tms,st.off,st.sz,congrArg (List.cons _) st.df⟩
 clear e10
 show Code.wp _ _ _ { a1 with defers:=xk7 p q r::a1.defers } w1
 refine wp_seq (wp_seq (wp_region_list ?_))
 refine cq7 bc7 st (Kp.refl _ _ _) (by simp) (fun ch w' hp=>(pa7 hp).elim) ?_
 simp -implicitDefEqProofs only [go_sem]
 clear st
 refine fun M2 a2 w2 st k2=>?_
 obtain⟨caps,e11,hx⟩:=st.rd (x:=.tmp 11) rfl
 refine jc7 (v:=.bool true) rfl ?_ ?_
 ·unfold execOp
  simp only[e11]
  kernel_rfl
 replace st:=st.putV (d:=some 12) (g:=true) (r:=.c (.bool true)) (v:=.bool true) (by simp) (fun _=>rfl) (fun e=>by cases e)
 refine wp_cond_true (st.rd (x:=.tmp 12) rfl) (wp_region_list ?_)
 refine cq7 bc7 st k2 (by simp) (fun ch w' hp=>(pa7 hp).elim) ?_
 simp -implicitDefEqProofs only [go_sem]
 clear st k2 e11 hx
 refine fun M2 a2 w2 st k2=>?_
 refine cq7 bc7 st k2 (by simp) (fun ch w' hp=>(pa7 hp).elim) ?_
 simp -implicitDefEqProofs only [go_sem,gd7]
 clear st k2
 refine fun M2 a2 w2 st k2=>?_
 refine @cq7 Tryz.prog _ _ _ _ (veb7 K H.length l) ty _ 20 M2 M1 _ w1 _ _ _ bc7 st k2 (by simp) (fun ch w' hP=>?_) ?_
 ·have hd:a2.defers=[xk7 p q r]:=st.df
  show Leaves _ _ a2.tmps _ a2.defers _ _
  rw[hd]
  exact edb7 (df:=a2.defers) st (k1.trans k2) (by simp) (k2 _ _ hp) (k2 _ _ hq) (k2 _ _ hr) rfl rfl hP
 simp -implicitDefEqProofs only [go_sem,enb7]
 refine @us7 (veb7 K H.length l) _ _ _ _ _ _ _ ?_ hb
 rintro _ _ ⟨H1,R,u,hlen,rfl,good⟩
 refine fun M2 a2 w2 st k2=>?_
 show Code.wp _ _ _ a2 w2
 refine xab7 bc7 (by kernel_rfl) (fun n=>match n with | 5=>([],1,some (.r 4)) | _=>([],0,none)) (by kernel_rfl) st k2 ?_
 simp -implicitDefEqProofs only [go_sem,mj7,dcX,← hlen,gd7,cg7,rg7,ki7]
 clear st k2
 refine fun M2 a2 w2 st k2=>?_
 refine wp_ret ?_
 have hd:a2.defers=[xk7 p q r]:=st.df
 show Leaves _ _ a2.tmps _ a2.defers _ _
 rw[hd]
 simp only[← hlen]at k1
 refine fdb7 (df:=a2.defers) st (k1.trans k2) (by simp only[List.length_append];omega) ?_
 simp -implicitDefEqProofs only [go_sem,gd7,cg7]
 exact good
theorem zkb7 {H:List Root}{l:AV}{f:Nat}{cs:List AV}{K:RV→List Root→Prop}(hl:(match l with | .junk=>false | _=>true)=true)
  (hb : @ga7 Tryz.prog (veb7 K H.length l) none f (.c (.ptr (H.length+2) 1 0 0)::cs.map .c) (mj7 H [] 0 false l 0) (fun _ H'=>∃H1 R u,H1.length=H.length∧H'=mj7 H1 R 0 false l u∧K (.tup [.c (I6 u),.c (.bool true)]) (mj7 H1 R u true l u))) :
  ga7 Tryz.prog none 46 [.c l,.fn f cs] H K:=bfb7 (nb:=0) hl hb
theorem cr7 (S:List Root):∀(R:List Root) (k:Nat),k<R.length→aa7 (R++S) k=aa7 R k
 | [],_,h=>by simp at h
 | _::_,0,_=>rfl
 | _::R,k+1,h=>cr7 S R k (by simpa using h)
theorem aq7 (H:List Root):∀x:RV,(rn7 H x).length=H.length
 | .c a=>dd7 [a] H
 | .agg l=>dd7 l H
 | .fn _ l _=>dd7 l H
 | .tup _=>rfl
 | .ifc _ _=>rfl
theorem wcb7 [Pan] {P:Program}{f:FuncId}{H:List Root}{x y:RV}{args:List RV}{K:RV→List Root→Prop}(ho:okR H x) (he:mcb7 (yx7 H x) y) (h:ga7 P none f (y::args) (rn7 H x) K):ga7 P none f (x::args) H K:=by
 refine⟨h.1,fun E M w vs hr hc=>?_⟩
 obtain⟨v,vs',rfl,hx,hargs⟩:=hc
 obtain⟨M',-,-,r1,r2,r3,-⟩:=bk7 hr ho hx
 refine (h.2 E M' w _ r1 ⟨v,vs',rfl,vc7.up (r3.eqv he),r2.RL hargs⟩).mono ?_
 rintro e w' (⟨M2,H2,r,u,rfl,q1,q2,q3,q4,q5,q6⟩ | ⟨ch,rfl,M2,H2,r,u,rfl,q1,q2,q3,q4⟩)
 ·exact .inl ⟨M2,H2,r,u,rfl,q1,r2.trans q2,q3,fun g e=>(by cases e),(aq7 H x) ▸ q5,q6⟩
 ·exact .inr ⟨_,rfl,M2,H2,r,u,rfl,q1,r2.trans q2,(aq7 H x) ▸ q3,q4⟩
theorem kib7 [Pan] {A B C D:Root}{S:List Root}{l:List Int}{u:Nat}{K:RV→List Root→Prop}(hl:l.length≤1000000) (hu:u≤l.length)
  (hK:u<l.length→K (.c (.int .u32 (l.getD u 0))) (A::B::C::D::qa7 l (u+1)::S))
  (hP:¬u<l.length→Pan.px nc7 (A::B::C::D::qa7 l u::S)) :
  ga7 Tryz.prog (some (some 4)) 168 [.c (.ptr 4 1 0 0)] (A::B::C::D::qa7 l u::S) K:=by
 refine ae7 (fun _=>trivial) (k:=4) (t:=214) (sz:=2) (l:=[eU l,I6 u]) rfl rfl rfl ?_
 refine @wfb7 (vhb7 4 214 2 (A::B::C::D::qa7 l u::S)) [.dead,.dead,.dead,.dead] (S.map fun _=>.dead) l u _ hl hu (fun h=>⟨rfl,[eU l,I6 (u+1:Nat)],rfl,rfl,hK h⟩) (fun h=>⟨rfl,[eU l,I6 u],rfl,rfl,hP h⟩)
theorem oz7 [Pan] {A B C D:Root}{S:List Root}{l:List Int}{u:Nat}{n:Int}{K:RV→List Root→Prop}(hl:l.length≤1000000) (hu:u≤l.length) (hr:∀i,0≤l.getD i 0∧l.getD i 0≤4294967295) (hn:n≤1000000)
  (h0:n<1→K (.c (I6 0)) (A::B::C::D::qa7 l u::S))
  (hK:1≤n→u<l.length→K (.c (I6 (ct7 (l.getD u 0) n))) (A::B::C::D::qa7 l (u+1)::S))
  (hP:1≤n→¬u<l.length→Pan.px nc7 (A::B::C::D::qa7 l u::S)) :
  ga7 Tryz.prog (some (some 4)) 121 [.c (.ptr 4 1 0 0),.c (I6 n)] (A::B::C::D::qa7 l u::S) K:=by
 refine ae7 (fun _=>trivial) (k:=4) (t:=214) (sz:=2) (l:=[eU l,I6 u]) rfl rfl rfl ?_
 refine @ueb7 (vhb7 4 214 2 (A::B::C::D::qa7 l u::S)) [.dead,.dead,.dead,.dead] (S.map fun _=>.dead) l u n _ hl hu hr hn (fun h=>⟨rfl,[eU l,I6 u],rfl,rfl,h0 h⟩) (fun h1 h=>⟨rfl,[eU l,I6 (u+1:Nat)],rfl,rfl,hK h1 h⟩) (fun h1 h=>⟨rfl,[eU l,I6 u],rfl,rfl,hP h1 h⟩)
section
variable [Pan] {A B C D:Root} {S:List Root} {K:RV→List Root→Prop}
theorem p5 (hK:K (.c (I6 2)) (A::B::C::D::qa7 [7,9] 1::S)):ga7 Tryz.prog (some (some 4)) 121 [.c (.ptr 4 1 0 0),.c (I6 5)] (A::B::C::D::qa7 [7,9] 0::S) K :=
 oz7 (l:=[7,9]) (u:=0) (by decide) (by decide) (fun i=>by rcases i with _ | _ | _ <;> simp) (by decide) (fun h=>absurd h (by decide)) (fun _ _=>hK) (fun _ h=>absurd (by decide) h)
theorem p0 (hK:K (.c (I6 0)) (A::B::C::D::qa7 [7,9] 1::S)):ga7 Tryz.prog (some (some 4)) 121 [.c (.ptr 4 1 0 0),.c (I6 0)] (A::B::C::D::qa7 [7,9] 1::S) K :=
 oz7 (l:=[7,9]) (u:=1) (by decide) (by decide) (fun i=>by rcases i with _ | _ | _ <;> simp) (by decide) (fun _=>hK) (fun h=>absurd h (by decide)) (fun h=>absurd h (by decide))
theorem n9 (hK:K (.c (.int .u32 9)) (A::B::C::D::qa7 [7,9] 2::S)):ga7 Tryz.prog (some (some 4)) 168 [.c (.ptr 4 1 0 0)] (A::B::C::D::qa7 [7,9] 1::S) K :=
 kib7 (l:=[7,9]) (u:=1) (by decide) (by decide) (fun _=>hK) (fun h=>absurd (by decide) h)
end
theorem jrb7 [Pan] {K:RV→List Root→Prop}(hK:∀r,K r [.live false 68 1 (.box [.h 7 0 3]),.live true 268 1 (.ints .u32 [7,9]),ux7 0,nx7 false,dcX (eU [7,9]) 2,vx7 4,.live false 3 1 (.ints .i64 [2,0,9]),.live false 3 1 (.ints .i64 [2,0,9])]):ga7 Tryz.prog none 167 [.c (.ptr 4 1 0 0),.c (.ptr 0 1 0 0)] (mj7 [.live false 68 1 (.box [.nils]),.live true 268 1 (.ints .u32 [7,9])] [] 0 false (eU [7,9]) 0) K:=by
 refine db7 bc7 (by kernel_rfl) (fun n=>match n with | 0=>([1,3,5],0,some (.t [4] (.br 0 0 (.br 6 2 (.br 6 4 (.br 6 6 (.br 0 7 (.br 0 8 .d .no) .no) .no) .no) .no) (.br 6 2 (.br 0 0 (.br 6 4 (.br 6 6 (.br 0 7 (.br 0 8 .d .no) .no) .no) .no) (.br 6 4 (.br 0 0 (.br 6 6 (.br 0 7 (.br 0 8 .d .no) .no) .no) (.br 6 6 (.br 0 0 (.br 0 7 (.br 0 8 .d .no) .no) (.br 0 7 (.br 0 0 (.br 0 8 .d .no) (.br 0 8 (.br 0 0 .d .no) .no)) .no)) .no)) .no)) .no)) [9,10] [9,10])) | _=>([],0,none)) Tryz.func167 rfl (by kernel_rfl) Tryz.ntmps167 (congrArg Array.toList Tryz.results167) (by kernel_rfl) (by simp) ?_
 simp -implicitDefEqProofs only [go_sem,mj7,dcX]
 repeat' first | exact hK _ | decide | (refine p5 ?_;simp -implicitDefEqProofs only [go_sem,qa7]) | (refine p0 ?_;simp -implicitDefEqProofs only [go_sem,qa7]) | (refine n9 ?_;simp -implicitDefEqProofs only [go_sem,qa7]) | refine⟨?_, ?_⟩
theorem crb7 {xs ys:List Int}(hx:∀v∈xs,nb7 v) (hy:∀v∈ys,nb7 v):cf7 Tryz.prog 33 [.c (mbb7 xs),.c (mbb7 ys)] (fun r=>r = .c (.bool (decide (xs=ys)))) :=
 yi7 ⟨_,_,Tryz.func33,by kernel_rfl,rfl⟩ fun rho w vs hcv=>by
  obtain⟨_,_,rfl,h1,_,_,rfl,h2,rfl⟩:=hcv
  refine (meb7 (bs (e:=fun (x:Int) _=>I6 x) 0 cob7 h1 hx) (bs (e:=fun (x:Int) _=>I6 x) 0 cob7 h2 hy)).mono ?_
  rintro e w' ⟨rfl,n,rfl⟩
  exact⟨_,_,rfl,rfl,rfl,below_drewN (Below.refl _ _) n⟩
theorem ccb7:cf7 Tryz.prog 110 [] (fun r=>r = .c (.bool true)):=by
 refine jj7 bc7 (by kernel_rfl) (fun _=>([],0,none)) Tryz.func110 rfl (by kernel_rfl) Tryz.ntmps110 (congrArg Array.toList Tryz.results110) (by kernel_rfl) (by simp) ?_
 simp -implicitDefEqProofs only [go_sem]
 refine wcb7 (y:=.c (eU [7,9])) (by simp -implicitDefEqProofs only [go_sem]) ?_ ?_
 ·exact⟨_,rfl,.inr ⟨_,rfl,fun i _ j _=>by show Eqv ((Row.ints .u32 [7,9]).get (0+i) j) _;rw[Nat.zero_add];rfl⟩⟩
 refine zkb7 rfl (@jrb7 (veb7 _ _ _) _ fun r=>⟨[.live false 68 1 (.box [.h 7 0 3]),.live true 268 1 (.ints .u32 [7,9])],[_,_],2,rfl,rfl, ?_⟩)
 simp -implicitDefEqProofs only [go_sem,mj7,dcX]
 have w3:∀v∈[(2:Int),0,9],nb7 v:=by unfold nb7;decide
 refine⟨fun _=>⟨fun _=>hf7 (crb7 w3 w3) (by simp -implicitDefEqProofs only [go_sem]) ?_ (fun r h=>by subst h;rfl) ?_, ?_⟩, ?_⟩
 ·have q:∀i,i<3→∀j,j<1→Eqv ((Row.ints .i64 [2,0,9]).get (0+i) j) (I6 ([2,0,9].getD i 0)):=fun i _ j _=>by rw[Nat.zero_add];rfl
  exact⟨_,_,rfl,.inr ⟨_,rfl,.inr ⟨_,rfl,q⟩⟩,_,_,rfl,.inr ⟨_,rfl,.inr ⟨_,rfl,q⟩⟩,rfl⟩
 ·rintro r rfl
  simp[bb7,okT,yl7,okR,ncb7,wx7,mcb7,Eqv,yx7,frz,odb7]
  try simp[hh7,bb7,Eqv]
 ·exact fun h=>absurd h (by decide)
 ·exact fun h=>absurd h (by decide)
def frB:List AV→Bool
 | []=>true
 | a::l=>a.fr&&frB l
theorem my7 {H:List Root}:∀{l:List AV},frB l=true→bb7 H l∧frzH H l=H∧hh7 H l=l
 | [],_=>⟨trivial,rfl,rfl⟩
 | a::l,h=>by
  simp only[frB,Bool.and_eq_true]at h
  obtain⟨h1,h2⟩:=h
  obtain⟨g1,g2,g3⟩:=my7 (H:=H) h2
  cases a <;> first | (cases h1;done) | exact⟨g1,g2,by simp only[hh7,frz,g3]⟩
instance (k:TyK):Decidable (kN k):=by unfold kN;split <;> first | exact isTrue trivial | exact isFalse id
instance (sz:Nat) (r:Row) (i o:Nat) (cs:List AV):Decidable (r.put sz i o cs).1:=by
 unfold Row.put;split <;> first | exact isTrue trivial | exact isFalse id | infer_instance
def dmb7 (e:TyE) (H:List Root) (p v:RV) (K:List Root→Bool):Bool :=
 match p with
 | .c (.ptr id n i o)=>match aa7 H id with
  | .live fz t sz r=>(!fz&&decide ((oa7 v).length=e.sz∧r.len=n∧i<n∧o+e.sz≤sz∧0<e.sz∧kN e.k)) &&
   (if r.isBox then njL (oa7 v)&&K (ca7 H id (.live false t sz (r.put sz i o (oa7 v)).2))
   else frB (oa7 v)&&(decide (r.put sz i o (oa7 v)).1&&K (ca7 H id (.live false t sz (r.put sz i o (oa7 v)).2))))
  | .dead=>false
 | _=>false
theorem lib7 {e:TyE}{H:List Root}{p v:RV}{K:List Root→Bool}(h:dmb7 e H p v K=true):vjb7 e H p v (fun H=>K H=true):=by
 unfold dmb7 at h
 split at h
 ·rename_i id n i o
  split at h
  ·rename_i fz t sz r hr
   simp only[Bool.and_eq_true,Bool.not_eq_true',decide_eq_true_eq]at h
   obtain⟨⟨hf,hc⟩,h⟩:=h
   unfold vjb7
   simp only
   unfold mv7
   simp only[hr]
   refine⟨hf,hc, ?_⟩
   split at h
   ·rename_i hb
    rw[if_pos hb]
    simpa[Bool.and_eq_true]using h
   ·rename_i hb
    rw[if_neg hb]
    simp only[Bool.and_eq_true,decide_eq_true_eq]at h
    obtain⟨h1,h2,h3⟩:=h
    obtain⟨g1,g2,g3⟩:=my7 (H:=H) h1
    rw[g2,g3]
    exact⟨g1,by rw[hr,hf],h2,h3⟩
  ·cases h
 ·cases h
instance (k:TyK) (els:List (List AV)):Decidable (mf7 k els).1:=by
 unfold mf7;repeat' split
 all_goals first | exact isTrue trivial | exact isFalse id
def gmb7 (ty:Ty) (e:TypeId) (H:List Root) (n:Nat) (ok:Bool) (l:List AV) (K:RV→List Root→Bool):Bool :=
 match (ty e).wk with
 | some []=>ok&&(njL l&&(decide (0<(ty e).sz∧n*(ty e).sz≤16777216)&&K (.c (.h H.length 0 n)) (H++[.live false e (ty e).sz (.own (chunk (ty e).sz n l))])))
 | none=>ok&&(frB l&&(decide (mf7 (ty e).k (chunk (ty e).sz n l)).1&&(decide (0<(ty e).sz∧n*(ty e).sz≤16777216)&&K (.c (.h H.length 0 n)) (H++[.live false e (ty e).sz (mf7 (ty e).k (chunk (ty e).sz n l)).2]))))
 | _=>false
theorem ejb7 {ty:Ty}{e:TypeId}{H:List Root}{n:Nat}{q:Prop×List AV}[Decidable q.1] {K:RV→List Root→Bool}(h:gmb7 ty e H n (decide q.1) q.2 K=true) :
  ((ty e).wk=none∧jjb7 ty e H n q (fun r H=>K r H=true))∨((ty e).wk=some []∧llb7 ty e H n q (fun r H=>K r H=true)):=by
 unfold gmb7 at h
 split at h
 ·rename_i hw
  simp only[Bool.and_eq_true,decide_eq_true_eq]at h
  exact .inr ⟨hw,h⟩
 ·rename_i hw
  simp only[Bool.and_eq_true,decide_eq_true_eq]at h
  obtain⟨h1,h2,h3,h4,h5⟩:=h
  obtain⟨g1,g2,g3⟩:=my7 (H:=H) h2
  refine .inl ⟨hw, ?_⟩
  unfold jjb7
  rw[g2,g3]
  exact⟨h1,g1,h3,h4,h5⟩
 ·cases h
instance decFrz (H:List Root):∀l:List AV,Decidable (bb7 H l)
 | []=>isTrue trivial
 | .h id st len::l => @instDecidableAnd _ _ inferInstance (decFrz H l)
 | .ptr .. :: _=>isFalse id
 | .junk::_=>isFalse id
 | .ws .. :: _=>isFalse id
 | .wu .. :: _=>isFalse id
 | .wp .. :: _=>isFalse id
 | .int .. :: l=>decFrz H l
 | .bool .. :: l=>decFrz H l
 | .flt .. :: l=>decFrz H l
 | .str .. :: l=>decFrz H l
 | .nilp::l=>decFrz H l
 | .nils::l=>decFrz H l
 | .sl .. :: l=>decFrz H l
 | .rp .. :: l=>decFrz H l
def jnb7 (k:TyK) (z:List AV):Bool :=
 match k with
 | .i k=>match z with
  | [.int k' n]=>decide (k=k')&&decide (n=0)
  | _=>false
 | .b=>match z with
  | [.bool b] => !b
  | _=>false
 | .no=>false
 | .str=>decide (bb7 [] z)
 | .sc=>decide (bb7 [] z)
 | .st _=>decide (bb7 [] z)
 | .ar .. => decide (bb7 [] z)
 | .sl _=>decide (bb7 [] z)
theorem pz7 {k:TyK}{z:List AV}(h:jnb7 k z=true):zOk k z:=by
 cases k with
 | i k =>
  simp only[jnb7]at h
  split at h
  ·simp only[Bool.and_eq_true,decide_eq_true_eq]at h;obtain⟨rfl,rfl⟩:=h;rfl
  ·cases h
 | b =>
  simp only[jnb7]at h
  split at h
  ·simp only[Bool.not_eq_true']at h;subst h;rfl
  ·cases h
 | no=>cases h
 | _=>exact of_decide_eq_true (p:=bb7 [] z) h
def ny7 (ty:Ty) (k:TyK) (H:List Root) (n c:RV) (K:RV→List Root→Bool):Bool :=
 match k with
 | .sl e=>match n,c with
  | .c (.int _ n),.c (.int _ c)=>(decide (0≤n∧n≤1099511627776∧c=n∧0<(ty e).sz∧(ty e).bytes≤128)&&jnb7 (ty e).k (ty e).zero)&&K (.c (.h H.length 0 n.toNat)) (H++[.live false e (ty e).sz (jd7 (ty e).wk (ty e).k (ty e).zero n.toNat)])
  | _,_=>false
 | _=>false
theorem idb7 {ty:Ty}{k:TyK}{H:List Root}{n c:RV}{K:RV→List Root→Bool}(h:ny7 ty k H n c K=true):obb7 ty k H n c (fun r H=>K r H=true):=by
 unfold ny7 at h
 split at h
 ·split at h
  ·simp only[Bool.and_eq_true,decide_eq_true_eq]at h
   obtain⟨⟨⟨h1,h2,h3,h4,h5⟩,h6⟩,h7⟩:=h
   exact⟨⟨h1,h2,h3,h4,h5,pz7 h6⟩,h7⟩
  ·cases h
 ·cases h
instance (H:List Root) (x:RV):Decidable (ta7 H x).1:=by
 unfold ta7;repeat' split
 all_goals first | exact isFalse id | infer_instance
instance (r s:Row):Decidable (r.app s).1:=by
 unfold Row.app;split <;> first | exact isTrue trivial | exact isFalse id | infer_instance
def qnb7 (ty:Ty) (k:TyK) (H:List Root) (s x:RV) (K:RV→List Root→Bool):Bool :=
 match k with
 | .sl e=>(match (ty e).wk with
   | none=>true
   | some []=>true
   | _=>false)&&(decide ((ta7 H x).1∧(ta7 H x).2.2=(ty e).sz∧0<(ty e).sz∧(ty e).bytes≤128) &&
  match s with
  | .c .nils=>decide (0<(ta7 H x).2.1.len∧(ta7 H x).2.1.len≤1099511627776)&&K (.c (.h H.length 0 (ta7 H x).2.1.len)) (H++[.live false e (ty e).sz (ta7 H x).2.1])
  | .c (.h id st len)=>match aa7 H id with
   | .live fz t sz r=>decide (fz=false∧st=0∧len=r.len∧t=e∧sz=(ty e).sz∧len+(ta7 H x).2.1.len≤1099511627776)&&(decide (r.app (ta7 H x).2.1).1&&K (.c (.h id 0 (len+(ta7 H x).2.1.len))) (ca7 H id (.live false t sz (r.app (ta7 H x).2.1).2)))
   | .dead=>false
  | _=>false)
 | _=>false
theorem uhb7 {ty:Ty}{k:TyK}{H:List Root}{s x:RV}{K:RV→List Root→Bool}(h:qnb7 ty k H s x K=true):pcb7 ty k H s x (fun r H=>K r H=true):=by
 unfold qnb7 at h
 split at h
 ·rename_i e
  simp only[Bool.and_eq_true,decide_eq_true_eq]at h
  obtain⟨hw,⟨h1,h2,h3,h4⟩,h⟩:=h
  have hv:uw7 ty (.sl e) H s x (fun r H=>K r H=true):=by
   unfold uw7
   refine⟨h1,h2,h3,h4, ?_⟩
   split at h
   ·simpa[Bool.and_eq_true]using h
   ·split at h
    ·rename_i hr
     simp only[hr]
     simpa[Bool.and_eq_true]using h
    ·cases h
   ·cases h
  unfold pcb7
  simp only
  split
  ·exact hv
  ·exact hv
  ·rename_i hk;rw[hk]at hw;cases hw
 ·cases h
abbrev eg7:=Pu→FuncId→List RV→List Root→(RV→List Root→Bool)→Bool
section
variable (ty:Ty) (call:eg7)
def sab7 (pu:Pu) (tm:Tm) (rd:Operand→Bool×RV) (H:List Root) (o:Oper) (K:AS→Bool):Bool :=
 match o.op with
 | .box t x=>decide ((oa7 (rd x).2).length=(ty t).sz∧0<(ty t).sz∧njL (oa7 (rd x).2)=true)&&K ⟨wb7 tm true o.dst (.c (.ptr H.length 1 0 0)),H++[.live false t (ty t).sz (.box (oa7 (rd x).2))]⟩
 | .alloc t=>decide (0<(ty t).sz∧kN (ty t).k)&&K ⟨wb7 tm true o.dst (.c (.ptr H.length 1 0 0)),H++[.live false t (ty t).sz (.box (ty t).zero)]⟩
 | .store t p v=>pu.isNone&&dmb7 (ty t) H (rd p).2 (rd v).2 (fun H=>K ⟨wb7 tm true o.dst (.c .junk),H⟩)
 | .buildSlice t n ps=>match (ty t).k with
  | .sl e=>gmb7 ty e H n (decide (sb7 (fun i=>(i*(ty e).sz,(ty e).sz)) rd (rep (ty e).zero n) ps.toList).1) (sb7 (fun i=>(i*(ty e).sz,(ty e).sz)) rd (rep (ty e).zero n) ps.toList).2 (fun r H=>K ⟨wb7 tm true o.dst r,H⟩)
  | _=>false
 | .makeSlice t n c=>ny7 ty (ty t).k H (rd n).2 (rd c).2 (fun r H=>K ⟨wb7 tm true o.dst r,H⟩)
 | .call c=>match c.callee with
  | .builtin .append=>match c.args.toList with
   | [s,x]=>pu.isNone&&(decide (c.argTypes.toList=[c.argTypes.getD 0 0,c.argTypes.getD 0 0])&&qnb7 ty (ty (c.argTypes.getD 0 0)).k H (rd s).2 (rd x).2 (fun r H=>K ⟨wb7 tm true o.dst r,H⟩))
   | _=>false
  | .value f=>match (rd f).2 with
   | .fn f caps nb=>call pu f ((caps.take nb).map .c++(rds rd c.args.toList++(caps.drop nb).map .c)) H (fun r H=>K ⟨wb7 tm true o.dst r,H⟩)
   | _=>false
  | _=>false
 | _=>false
end
section
variable {P:Program} {ty:Ty} {call:eg7} {pu:Pu} {tm:Tm} {rd:Operand→Bool×RV} {H:List Root} {o:Oper} {K:AS→Bool}
theorem cgb7 (hcall:∀pu f args H K,call pu f args H K=true→ga7 P pu f args H (fun r H=>K r H=true)) (h:sab7 ty call pu tm rd H o K=true):eff P ty pu tm rd H o (fun σ=>K σ=true):=by
 have hpu:pu.isNone=true→pu=none:=fun h=>by cases pu <;> first | rfl | cases h
 obtain⟨d,op,ot,po,af,gd⟩:=o
 cases op with
 | box t x =>
  dsimp only [sab7]at h
  simp only[Bool.and_eq_true,decide_eq_true_eq]at h
  exact h
 | alloc t =>
  dsimp only [sab7]at h
  simp only[Bool.and_eq_true,decide_eq_true_eq]at h
  exact h
 | store t p v =>
  dsimp only [sab7]at h
  simp only[Bool.and_eq_true]at h
  obtain⟨h1,h2⟩:=h
  cases hpu h1
  exact⟨trivial,lib7 h2⟩
 | buildSlice t n ps =>
  dsimp only [sab7]at h
  dsimp only [eff]
  split at h
  ·rename_i hk
   simp only[hk]
   rcases ejb7 h with ⟨hw,h⟩ | ⟨hw,h⟩
   ·simp only[hw];exact h
   ·simp only[hw];exact h
  ·cases h
 | makeSlice t n c =>
  dsimp only [sab7]at h
  exact idb7 h
 | call c =>
  dsimp only [sab7]at h
  dsimp only [eff]
  split at h
  ·rename_i hc
   split at h
   ·rename_i hargs
    simp only[Bool.and_eq_true,decide_eq_true_eq]at h
    obtain⟨h1,h2,h3⟩:=h
    cases hpu h1
    simp only[hc,hargs]
    exact⟨trivial,bob7 h2 (uhb7 h3)⟩
   ·cases h
  ·rename_i hc
   split at h
   ·rename_i hf
    simp only[hc,hf]
    exact hcall _ _ _ _ _ h
   ·cases h
  ·cases h
 | _=>cases h
end
section
variable (ty:Ty) (call:eg7)
def opB (pu:Pu) (ops:Array Oper) (σ:AS) (o:Oper) (K:AS→Bool):Bool :=
 match guardOf σ.tm ops o.guard with
 | none=>false
 | some g=>decide (gOk g (bm7 σ.rd o.op)) &&
  (if isV o.op then (!g || decide (opV ty g σ.rd σ.H o.op).1)&&K ⟨wb7 σ.tm g o.dst (opV ty g σ.rd σ.H o.op).2,σ.H⟩
  else if g then sab7 ty call pu σ.tm σ.rd σ.H o K else K ⟨wb7 σ.tm g o.dst (.c .junk),σ.H⟩)
end
section
variable {P:Program} {ty:Ty} {call:eg7} {pu:Pu} {ops:Array Oper}
theorem fr7 (hcall:∀pu f args H K,call pu f args H K=true→ga7 P pu f args H (fun r H=>K r H=true)) {σ:AS}{o:Oper}{K:AS→Bool}(h:opB ty call pu ops σ o K=true):mk7 P ty pu none ops σ o (fun σ=>K σ=true):=by
 unfold opB at h
 unfold mk7
 split at h
 ·cases h
 ·rename_i g hg
  simp only[Bool.and_eq_true,decide_eq_true_eq]at h
  obtain⟨h1,h2⟩:=h
  split at h2
  ·rename_i hv
   rw[if_pos hv]
   unfold rr7
   simp only[hg]
   simp only[Bool.and_eq_true,Bool.or_eq_true,Bool.not_eq_true',decide_eq_true_eq]at h2
   exact⟨h1,trivial,fun e=>by rcases h2.1 with q | q <;> simp_all,h2.2⟩
  ·rename_i hv
   rw[if_neg hv]
   refine⟨trivial, ?_⟩
   unfold imb7
   simp only[hg]
   refine⟨h1,fun e=>?_,fun e=>?_⟩
   ·subst e;exact cgb7 hcall h2
   ·subst e;exact h2
theorem kx7 {f:FuncId}{args:List RV}{H:List Root}{K K':RV→List Root→Prop}(hK:∀r H,K r H→K' r H) (h:ga7 P pu f args H K):ga7 P pu f args H K' :=
 ⟨h.1,fun E M w vs hr hc=>(h.2 E M w vs hr hc).mono fun e w' hh=>hh.imp (fun ⟨M',H',r,v,e1,e2,e3,e4,e5,e6,e7⟩=>⟨M',H',r,v,e1,e2,e3,e4,e5,e6,hK _ _ e7⟩) id⟩
end
theorem gdb7 {rho:Nat→Prop}{w:World}{g:Nat}{x:AV}(h:glV g=some x) (_:jg7 w) (_:rho g):lb7 rho w x (.pointer (some ⟨g,0,none⟩)):=by cases h
theorem ibb7 {rho:Nat→Prop}{w:World}:uh7 rho w:=⟨trivial,fun _ _ h=>by cases h⟩
end Go.Proofs.YtabadfkikdefeaaGreat.Ab
