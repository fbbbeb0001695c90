/- Texts of the proof, joined: A10, Ty. -/
import Derived.Test.YtahffcepagopmaaProg
import Derived.Test.YtahffcepagopmaaQ3
set_option linter.all false
set_option maxRecDepth 100000
set_option maxHeartbeats 6400000
namespace Go.Proofs.Ytahffcepagopmaa.Ab
open Go.RowKit
section
variable {P:Program} {ty:Ty} {ord:Nat → List Nat × Nat × Option Nat} {Q:Exit → AS → Prop} {K:AS → Prop} {σ:AS} {nf:Nat} {ops:Array Oper} {o:Oper} {l:List Oper} {pu:Pu} {tm:Tm} {rd:Operand → Bool × RV} {H:List Root}
theorem awb7 (g:Bool):gOk g [] = True:=rfl
theorem zcc7 (g:Bool) (l:List Bool):gOk g (true :: l) = gOk g l:=by simp [gOk]
theorem ecc7 (g:Bool) (l:List Bool):gOk g (g :: l) = gOk g l:=by simp [gOk]
theorem gdc7 (g h:Bool) (l:List Bool):gOk (g && h) (h :: l) = gOk (g && h) l:=by cases g <;> cases h <;> simp [gOk]
theorem xcc7 (g h:Bool) (l:List Bool):gOk (g && h) (g :: l) = gOk (g && h) l:=by cases g <;> cases h <;> simp [gOk]
theorem wbc7 (b c:Bool):jcc7 b c false = (b && c):=by cases b <;> rfl
theorem kbc7 (b c:Bool):jcc7 b true c = (b || c):=by cases b <;> rfl
theorem qeb7 {pu:Pu} {f:FuncId} {a a':List RV} {H H':List Root} {K:RV → List Root → Prop} (h:a = a') (h2:H = H'):uu7 P pu f a H K = uu7 P pu f a' H' K:=by rw [h,h2]
theorem xzb7:awp P ty ord .skip Q σ = Q .normal σ:=rfl
theorem pbc7 {id:Nat}:awp P ty ord (.region id ops true) Q σ = sac7 P ty ops (ord id) (Q .normal) σ:=rfl
theorem hxb7 {id:Nat}:awp P ty ord (.region id ops false) Q σ = mw7 P ty ops.toList.length none ops ops.toList (Q .normal) σ:=rfl
theorem tcc7 {a b:Code}:awp P ty ord (.seq a b) Q σ = awp P ty ord a (qq7 (awp P ty ord b Q) Q) σ:=rfl
theorem ayb7 {x:Operand} {a b:Code}:awp P ty ord (.cond x a b) Q σ = zy7 (σ.rd x) (awp P ty ord a Q σ) (awp P ty ord b Q σ):=rfl
theorem fvb7 {id:Nat} {a:Code}:awp P ty ord (.block id a) Q σ = awp P ty ord a (inB id Q) σ:=rfl
theorem qac7 {id:Nat}:awp P ty ord (.exit id) Q σ = Q (.exit id) σ:=rfl
theorem mbc7:awp P ty ord .ret Q σ = Q .ret σ:=rfl
theorem rec7 {n:Nat} {dd:Option Nat}:sac7 P ty ops ([],n,dd) K σ = mw7 P ty n dd ops ops.toList K σ:=rfl
theorem eec7 {n i:Nat} {is:List Nat} {dd:Option Nat}:sac7 P ty ops (i :: is,n,dd) K σ = mw7 P ty n dd ops (pick ops (i :: is)) K σ:=rfl
theorem kdc7 {dd:Option Nat}:mw7 P ty nf dd ops [] K σ = K σ:=rfl
theorem iac7 {dd:Option Nat}:mw7 P ty nf dd ops (o :: l) K σ = bab7 P ty (nub7 nf l.length dd) dd ops σ o (mw7 P ty nf dd ops l K):=rfl
theorem kfc7 {n:Nat} {dd:Option Nat}:isW (nub7 nf n dd) = (n < nf):=by
 unfold nub7 isW
 by_cases h:nf ≤ n
 ·rw [if_pos h]; exact propext ⟨fun h=>h.elim,fun h2=>by omega⟩
 ·rw [if_neg h]; exact propext ⟨fun _=>by omega,fun _=>trivial⟩
theorem kec7 {dd:Option Nat}:bab7 P ty pu dd ops σ o K = if isV o.op = true then gpb7 ty (guardOf σ.tm ops o.guard) dd σ o K else stb dd (ljb7 σ.H) ∧ xac7 P ty (guardOf σ.tm ops o.guard) pu σ o K:=rfl
theorem sbc7 {A:Nat → Prop}:stb none A = True:=rfl
theorem ndc7 {A:Nat → Prop} {k:Nat}:stb (some k) A = A k:=rfl
theorem mcc7 {g:Bool}:xac7 P ty (some g) pu σ o K = (gOk g (hib7 σ.rd o.op) ∧ cvb7 g (eff P ty pu σ.tm σ.rd σ.H o K) (K ⟨vl7 σ.tm g o.dst (.c .junk),σ.H⟩)):=rfl
theorem bib7 {g g':Bool} {A B:Prop} (h:g = g'):cvb7 g A B = cvb7 g' A B:=by rw [h]
theorem jfc7 {A B:Prop}:cvb7 true A B = A:=by simp [cvb7]
theorem tec7 {g:Bool} {A B:Prop}:cvb7 g A B = ((g = true → A) ∧ (g = false → B)):=rfl
def putV (g:Bool) (tm:Tm) (H:List Root) (d:Option Nat) (q:Vo) (K:AS → Prop):Prop:=(g = true → q.1) ∧ K ⟨vl7 tm g d q.2,H⟩
theorem bdc7 {g:Bool} {dd:Option Nat}:gpb7 ty (some g) dd σ o K = (gOk g (hib7 σ.rd o.op) ∧ stb dd (fun k=>ljb7 σ.H k ∧ (g = true → (opV ty g σ.rd (eb7 σ.H k .dead) o.op).1)) ∧ putV g σ.tm σ.H o.dst (opV ty g σ.rd σ.H o.op) K):=rfl
theorem jac7 {d:Option Nat} {p:Prop} {v:RV}:putV true tm H d (p,v) K = (p ∧ K ⟨vl7 tm true d v,H⟩):=by simp [putV]
theorem yxb7 {g:Bool} {d:Option Nat} {p:Prop} {v:RV}:putV g tm H d (p,v) K = ((g = true → p) ∧ K ⟨vl7 tm g d v,H⟩):=rfl
theorem qxb7 {g:Bool} {d:Option Nat}:putV g tm H d no K = ((g = true → False) ∧ K ⟨vl7 tm g d (.c .junk),H⟩):=rfl
theorem zzb7 {t:Nat} {g:Bool} {v:RV}:vl7 tm g (some t) v = (t,g,v) :: tm:=rfl
theorem kwb7 {g:Bool} {v:RV}:vl7 tm g none v = tm:=rfl
section
variable {d:Option Nat} {t:TypeId} {p:String} {af:Array Edge} {gd:Option (Nat × Bool)}
theorem ybc7 {u:TypeId} {x:Operand}:eff P ty pu tm rd H ⟨d, .box u x,t,p,af,gd⟩ K = (((bd7 (rd x).2).length = (ty u).sz ∧ 0 < (ty u).sz ∧ njL (bd7 (rd x).2) = true) ∧ K ⟨vl7 tm true d (.c (.ptr H.length 1 0 0)),H ++ [.live false u (ty u).sz (.box (bd7 (rd x).2))]⟩):=rfl
theorem itb7 {u:TypeId}:eff P ty pu tm rd H ⟨d, .alloc u,t,p,af,gd⟩ K = ((0 < (ty u).sz ∧ kN (ty u).k) ∧ K ⟨vl7 tm true d (.c (.ptr H.length 1 0 0)),H ++ [.live false u (ty u).sz (.box (ty u).zero)]⟩):=rfl
theorem utb7 {u:TypeId} {x v:Operand}:eff P ty pu tm rd H ⟨d, .store u x v,t,p,af,gd⟩ K = (isW pu ∧ cbc7 (ty u) H (rd x).2 (rd v).2 (fun H=>K ⟨vl7 tm true d (.c .junk),H⟩)):=rfl
def eyb7 (wk:Option (List CK)) (ty:Ty) (e:TypeId) (H:List Root) (n:Nat) (q:Prop × List AV) (K:RV → List Root → Prop):Prop :=
 match wk with
 | none=>gbc7 ty e H n q K
 | some ck=>yac7 ty e ck n q (fun r=>K r H)
theorem tbc7 {e:TypeId} {n:Nat} {q:Prop × List AV} {K:RV → List Root → Prop}:eyb7 none ty e H n q K = gbc7 ty e H n q K:=rfl
theorem jbc7 {ck:List CK} {e:TypeId} {n:Nat} {q:Prop × List AV} {K:RV → List Root → Prop}:eyb7 (some ck) ty e H n q K = yac7 ty e ck n q (fun r=>K r H):=rfl
def pcc7 (wk:Option (List CK)) (ty:Ty) (e:TypeId) (H:List Root) (s x:RV) (K:RV → List Root → Prop):Prop :=
 match wk with
 | none=>iwb7 ty (.sl e) H s x K
 | some ck=>appW ty e ck s x (fun r=>K r H)
theorem ncc7 {e:TypeId} {s x:RV} {K:RV → List Root → Prop}:bbc7 ty (.sl e) H s x K = pcc7 (ty e).wk ty e H s x K:=rfl
theorem hdc7 {e:TypeId} {s x:RV} {K:RV → List Root → Prop}:pcc7 none ty e H s x K = iwb7 ty (.sl e) H s x K:=rfl
theorem qcc7 {ck:List CK} {e:TypeId} {s x:RV} {K:RV → List Root → Prop}:pcc7 (some ck) ty e H s x K = appW ty e ck s x (fun r=>K r H):=rfl
def rbc7 (ty:Ty) (k:TyK) (rd:Operand → Bool × RV) (H:List Root) (n:Nat) (ps:List (Nat × Operand)) (K:RV → List Root → Prop):Prop :=
 match k with
 | .sl e=>eyb7 (ty e).wk ty e H n (gh7 (fun i=>(i * (ty e).sz,(ty e).sz)) rd (rep (ty e).zero n) ps) K
 | _=>False
theorem lbc7 {u:TypeId} {n:Nat} {ps:Array (Nat × Operand)}:eff P ty pu tm rd H ⟨d, .buildSlice u n ps,t,p,af,gd⟩ K = rbc7 ty (ty u).k rd H n ps.toList (fun r H=>K ⟨vl7 tm true d r,H⟩):=by
 unfold eff rbc7
 dsimp only
 cases (ty u).k with
 | sl e =>
  unfold eyb7
  dsimp only
  cases (ty e).wk <;> rfl
 | _=>rfl
theorem pac7 {e:TypeId} {n:Nat} {ps:List (Nat × Operand)} {K:RV → List Root → Prop}:rbc7 ty (.sl e) rd H n ps K = eyb7 (ty e).wk ty e H n (gh7 (fun i=>(i * (ty e).sz,(ty e).sz)) rd (rep (ty e).zero n) ps) K:=rfl
theorem exb7 {u:TypeId} {x y:Operand}:eff P ty pu tm rd H ⟨d, .makeSlice u x y,t,p,af,gd⟩ K = xrb7 ty (ty u).k H (rd x).2 (rd y).2 (fun r H=>K ⟨vl7 tm true d r,H⟩):=rfl
theorem dcc7 {x y:Operand} {u:TypeId}:eff P ty pu tm rd H ⟨d, .call ⟨.builtin .append, #[x,y], #[u,u]⟩,t,p,af,gd⟩ K = (isW pu ∧ [u,u] = [u,u] ∧ bbc7 ty (ty u).k H (rd x).2 (rd y).2 (fun r H=>K ⟨vl7 tm true d r,H⟩)):=rfl
def bec7 (P:Program) (pu:Pu) (f:RV) (zs:List RV) (H:List Root) (K:RV → List Root → Prop):Prop :=
 match f with
 | .fn f caps=>uu7 P pu f (zs ++ caps.map .c) H K
 | _=>False
theorem hyb7 {x:Operand} {zs:Array Operand} {ts:Array TypeId}:eff P ty pu tm rd H ⟨d, .call ⟨.value x,zs,ts⟩,t,p,af,gd⟩ K = bec7 P pu (rd x).2 (rds rd zs.toList) H (fun r H=>K ⟨vl7 tm true d r,H⟩):=rfl
theorem udc7 {f:FuncId} {caps:List AV} {zs:List RV} {K:RV → List Root → Prop}:bec7 P pu (.fn f caps) zs H K = uu7 P pu f (zs ++ caps.map .c) H K:=rfl
end
theorem rcc7 {k:IntKind} {n:Int} {p:RV → Prop}:(∃ r,bzb7 (.c (.int k n)) r ∧ p r) = p (.c (.int k n)):=propext ⟨fun ⟨_,⟨_,e,e2⟩,h⟩=>by subst e; rcases e2 with e2 | e2 <;> (subst e2; exact h),fun h=>⟨_,⟨_,rfl, .inl rfl⟩,h⟩⟩
theorem wyb7 {b:Bool} {p:RV → Prop}:(∃ r,bzb7 (.c (.bool b)) r ∧ p r) = p (.c (.bool b)):=propext ⟨fun ⟨_,⟨_,e,e2⟩,h⟩=>by subst e; rcases e2 with e2 | e2 <;> (subst e2; exact h),fun h=>⟨_,⟨_,rfl, .inl rfl⟩,h⟩⟩
def lpK {ι:Type} (vy:List Nat) (n:Nat) (inv:ι → Prop) (vals:ι → List RV) (H:ι → List Root) (μ:ι → Nat) (m:Nat) (σ':AS):Prop := ∃ s',inv s' ∧ gets σ'.tm vy = ul7 (vals s') ∧ σ'.H.take n = H s' ∧ μ s' < m
theorem wd7 {c:Code} {ι:Type} (fx vy:List Nat) (inv:ι → Prop) (vals:ι → List RV) (H:ι → List Root) (μ:ι → Nat) (hfx:unb7 c fx = true) (h0:∃ s,inv s ∧ gets σ.tm vy = ul7 (vals s) ∧ σ.H = H s)
  (hsc:∀ s,inv s → (H s).length = σ.H.length ∧ sw7 σ.H.length (vals s) = true ∧ whb7 σ.H.length (H s) = true ∧ (vals s).length = vy.length)
  (round:∀ s,inv s → awp P ty ord c (qq7 (lpK vy σ.H.length inv vals H μ (μ s)) Q) ⟨setT vy (vals s) (fxT σ.tm fx),H s⟩):awp P ty ord (.loop c) Q σ :=
 .inl ⟨ι,fx,vy,inv,vals,H,μ,hfx,h0,hsc,round⟩
def zdc7 {ι:Type} (d:Nat) (vy:List Nat) (n:Nat) (inv:ι → Prop) (vals:ι → List RV) (H:ι → List Root) (μ:ι → Nat) (m:Nat) (σ':AS):Prop := ∃ s' ids,inv s' ∧ (ids.length = d ∧ okI n ids = true) ∧ renG n ids (gets σ'.tm vy) = ul7 (vals s') ∧ leb7 n ids σ'.H = H s' ∧ μ s' < m
theorem cp7 {c:Code} {ι:Type} (d:Nat) (fx vy:List Nat) (inv:ι → Prop) (vals:ι → List RV) (H:ι → List Root) (μ:ι → Nat) (hfx:unb7 c fx = true) (h0:∃ s,inv s ∧ gets σ.tm vy = ul7 (vals s) ∧ σ.H ++ List.replicate d .dead = H s)
  (hsc:∀ s,inv s → (H s).length = σ.H.length + d)
  (round:∀ s,inv s → awp P ty ord c (qq7 (zdc7 d vy σ.H.length inv vals H μ (μ s)) Q) ⟨setT vy (vals s) (fxT σ.tm fx),H s⟩):awp P ty ord (.loop c) Q σ :=
 .inr ⟨ι,d,fx,vy,inv,vals,H,μ,hfx,h0,hsc,round⟩
def opD:List Oper → Nat → Oper
 | [],_=>default
 | o :: _,0=>o
 | _ :: l,n + 1=>opD l n
theorem zmb7:∀ (l:List Oper) (j:Nat),opD l j = l.getD j default
 | [],_=>rfl
 | _ :: _,0=>rfl
 | _ :: l,j + 1=>by simp only [opD,List.getD_cons_succ]; exact zmb7 l j
theorem nwb7 {i:Nat} {is:List Nat}:pick ops (i :: is) = opD ops.toList i :: pick ops is:=by
 simp [pick,zmb7,List.getD_eq_getElem?_getD,Array.getD_eq_getD_getElem?]
theorem mvb7:pick ops [] = []:=rfl
theorem t_n {n:AS → Prop}:qq7 n Q .normal σ = n σ:=rfl
theorem t_e {n:AS → Prop} {id:Nat}:qq7 n Q (.exit id) σ = Q (.exit id) σ:=rfl
theorem t_r {n:AS → Prop}:qq7 n Q .ret σ = Q .ret σ:=rfl
theorem b_n {id:Nat}:inB id Q .normal σ = Q .normal σ:=rfl
theorem b_e {id j:Nat}:inB id Q (.exit j) σ = if j = id then Q .normal σ else Q (.exit j) σ:=rfl
theorem b_r {id:Nat}:inB id Q .ret σ = Q .ret σ:=rfl
theorem c_t {b:Bool} {A B:Prop}:zy7 (true, .c (.bool b)) A B = ((b = true → A) ∧ (b = false → B)):=rfl
theorem r_r {rs:List ResultVar} {K:RV → List Root → Prop}:vac7 ty rs K .ret σ = ((rw7 ty σ rs).1 ∧ K (one (rw7 ty σ rs).2) σ.H):=rfl
theorem r_n {rs:List ResultVar} {K:RV → List Root → Prop}:vac7 ty rs K .normal σ = ((rw7 ty σ rs).1 ∧ K (one (rw7 ty σ rs).2) σ.H):=rfl
end
section
variable {n:Nat} {ids:List Nat}
theorem vvb7 {n:Nat} {ids:List Nat}:wf7 n ids .dead = .dead:=rfl
theorem qzb7 {n:Nat} {ids:List Nat} {fz:Bool} {t:TypeId} {sz:Nat} {l:List AV}:wf7 n ids (.live fz t sz (.box l)) = .live fz t sz (.box (hpb7 n ids l)):=rfl
theorem gvb7 {n:Nat} {ids:List Nat} {fz:Bool} {t:TypeId} {sz:Nat} {k:IntKind} {l:List Int}:wf7 n ids (.live fz t sz (.ints k l)) = .live fz t sz (.ints k l):=rfl
theorem opb7 {n:Nat} {ids:List Nat} {fz:Bool} {t:TypeId} {sz:Nat} {l:List Bool}:wf7 n ids (.live fz t sz (.bools l)) = .live fz t sz (.bools l):=rfl
theorem oac7 {n:Nat} {ids:List Nat} {fz:Bool} {t:TypeId} {sz:Nat} {l:List (List AV)}:wf7 n ids (.live fz t sz (.gen l)) = .live fz t sz (.gen l):=rfl
theorem ryb7 {id m i o:Nat}:ow7 n ids (.ptr id m i o) = wob7 m i o (ojb7 n ids id):=rfl
theorem jec7 {id st len:Nat}:ow7 n ids (.h id st len) = mkH st len (ojb7 n ids id):=rfl
theorem pzb7 {k:IntKind} {v:Int}:ow7 n ids (.int k v) = .int k v:=rfl
theorem xvb7 {b:Bool}:ow7 n ids (.bool b) = .bool b:=rfl
theorem pwb7 {b:Nat}:ow7 n ids (.flt b) = .flt b:=rfl
theorem vzb7 {b:ByteArray}:ow7 n ids (.str b) = .str b:=rfl
theorem uvb7:ow7 n ids .nilp = .nilp:=rfl
theorem nvb7:ow7 n ids .nils = .nils:=rfl
theorem wub7:ow7 n ids .junk = .junk:=rfl
theorem bcc7 {k sz:Nat} {f:Nat → Nat → AV}:ow7 n ids (.sl k sz f) = .sl k sz f:=rfl
theorem odc7 {k:Nat} {f:Nat → AV}:ow7 n ids (.rp k f) = .rp k f:=rfl
theorem wcc7 {m i o j:Nat}:wob7 m i o (some j) = .ptr j m i o:=rfl
theorem ycc7 {m i o:Nat}:wob7 m i o none = .junk:=rfl
theorem ubc7 {st len j:Nat}:mkH st len (some j) = .h j st len:=rfl
theorem cdc7 {st len:Nat}:mkH st len none = .junk:=rfl
end
attribute [congr] qeb7 bib7
def tyM:Nat → TyE
 | 2=>⟨1,8, .i .i64,[.int .i64 0],none⟩
 | 3=>⟨1,8, .i .i64,[.int .i64 0],none⟩
 | 4=>⟨1,1, .b,[.bool false],none⟩
 | 5=>⟨1,1, .i .u8,[.int .u8 0],none⟩
 | 6=>⟨1,1, .i .u8,[.int .u8 0],none⟩
 | 7=>⟨4,24, .st [(0,1),(1,1),(2,1),(3,1)],[.int .i64 0, .int .i64 0, .bool false, .int .u8 0],none⟩
 | 8=>⟨4,24, .st [(0,1),(1,1),(2,1),(3,1)],[.int .i64 0, .int .i64 0, .bool false, .int .u8 0],none⟩
 | 9=>⟨1,16, .str,[.str ⟨#[]⟩],none⟩
 | 10=>⟨1,16, .str,[.str ⟨#[]⟩],none⟩
 | 11=>⟨1,16, .str,[.str ⟨#[]⟩],none⟩
 | 12=>⟨1,8, .i .u64,[.int .u64 0],none⟩
 | 13=>⟨2,24, .st [(0,1),(1,1)],[.str ⟨#[]⟩, .int .u64 0],none⟩
 | 14=>⟨2,24, .st [(0,1),(1,1)],[.str ⟨#[]⟩, .int .u64 0],none⟩
 | 15=>⟨1,8, .sc,[.nilp],none⟩
 | 16=>⟨1,8, .sc,[.nilp],none⟩
 | 17=>⟨1,8, .sc,[.nilp],none⟩
 | 18=>⟨1,8, .st [(0,1)],[.nilp],none⟩
 | 19=>⟨1,8, .st [(0,1)],[.nilp],none⟩
 | 21=>⟨1,4, .i .i32,[.int .i32 0],none⟩
 | 22=>⟨1,24, .sl 82,[.nils],none⟩
 | 23=>⟨1,24, .sl 86,[.nils],none⟩
 | 24=>⟨1,24, .sl 5,[.nils],none⟩
 | 25=>⟨11,112, .st [(0,1),(1,1),(2,1),(3,1),(4,1),(5,1),(6,1),(7,1),(8,1),(9,1),(10,1)],[.int .u8 0, .int .u8 0, .int .u8 0, .int .u8 0, .int .u8 0, .nils, .nils, .nils, .nils, .bool false, .bool false],none⟩
 | 26=>⟨11,112, .st [(0,1),(1,1),(2,1),(3,1),(4,1),(5,1),(6,1),(7,1),(8,1),(9,1),(10,1)],[.int .u8 0, .int .u8 0, .int .u8 0, .int .u8 0, .int .u8 0, .nils, .nils, .nils, .nils, .bool false, .bool false],none⟩
 | 27=>⟨3,72, .st [(0,1),(1,1),(2,1)],[.nils, .nils, .nils],none⟩
 | 28=>⟨3,72, .st [(0,1),(1,1),(2,1)],[.nils, .nils, .nils],none⟩
 | 29=>⟨1,24, .sl 71,[.nils],none⟩
 | 30=>⟨2,32, .st [(0,1),(1,1)],[.nils, .int .u8 0],none⟩
 | 31=>⟨2,32, .st [(0,1),(1,1)],[.nils, .int .u8 0],none⟩
 | 33=>⟨2,16, .st [(0,1),(1,1)],[.int .i64 0, .int .i64 0],none⟩
 | 34=>⟨2,16, .st [(0,1),(1,1)],[.int .i64 0, .int .i64 0],none⟩
 | 35=>⟨1,24, .sl 84,[.nils],none⟩
 | 36=>⟨1,24, .sl 69,[.nils],none⟩
 | 37=>⟨1,24, .sl 65,[.nils],none⟩
 | 38=>⟨9,136, .st [(0,1),(1,2),(3,2),(5,1),(6,1),(7,1),(8,1)],[.int .i64 0, .int .i64 0, .int .i64 0, .int .i64 0, .int .i64 0, .nils, .nils, .nils, .nils],none⟩
 | 39=>⟨9,136, .st [(0,1),(1,2),(3,2),(5,1),(6,1),(7,1),(8,1)],[.int .i64 0, .int .i64 0, .int .i64 0, .int .i64 0, .int .i64 0, .nils, .nils, .nils, .nils],none⟩
 | 41=>⟨1,24, .sl 62,[.nils],none⟩
 | 42=>⟨1,24, .sl 59,[.nils],none⟩
 | 43=>⟨2,48, .st [(0,1),(1,1)],[.nils, .nils],none⟩
 | 44=>⟨2,48, .st [(0,1),(1,1)],[.nils, .nils],none⟩
 | 46=>⟨1,8, .i .i64,[.int .i64 0],none⟩
 | 48=>⟨1,24, .sl 67,[.nils],none⟩
 | 49=>⟨2,48, .st [(0,1),(1,1)],[.nils, .nils],none⟩
 | 50=>⟨2,48, .st [(0,1),(1,1)],[.nils, .nils],none⟩
 | 54=>⟨5,104, .st [(0,2),(2,2),(4,1)],[.nils, .nils, .nils, .nils, .int .i64 0],none⟩
 | 55=>⟨5,104, .st [(0,2),(2,2),(4,1)],[.nils, .nils, .nils, .nils, .int .i64 0],none⟩
 | 57=>⟨1,24, .sl 3,[.nils],none⟩
 | 58=>⟨2,32, .st [(0,1),(1,1)],[.int .i64 0, .nils],none⟩
 | 59=>⟨2,32, .st [(0,1),(1,1)],[.int .i64 0, .nils],none⟩
 | 60=>⟨1,24, .sl 64,[.nils],none⟩
 | 61=>⟨1,24, .st [(0,1)],[.nils],none⟩
 | 62=>⟨1,24, .st [(0,1)],[.nils],none⟩
 | 63=>⟨2,16, .st [(0,1),(1,1)],[.int .i64 0, .int .i64 0],none⟩
 | 64=>⟨2,16, .st [(0,1),(1,1)],[.int .i64 0, .int .i64 0],none⟩
 | 65=>⟨1,24, .sl 2,[.nils],none⟩
 | 66=>⟨3,40, .st [(0,1),(1,1),(2,1)],[.int .i64 0, .nils, .int .i64 0],none⟩
 | 67=>⟨3,40, .st [(0,1),(1,1),(2,1)],[.int .i64 0, .nils, .int .i64 0],none⟩
 | 68=>⟨4,32, .st [(0,1),(1,1),(2,1),(3,1)],[.int .i64 0, .int .i64 0, .int .i64 0, .int .i64 0],none⟩
 | 69=>⟨4,32, .st [(0,1),(1,1),(2,1),(3,1)],[.int .i64 0, .int .i64 0, .int .i64 0, .int .i64 0],none⟩
 | 71=>⟨1,1, .i .i8,[.int .i8 0],none⟩
 | 81=>⟨2,2, .st [(0,1),(1,1)],[.int .u8 0, .int .u8 0],none⟩
 | 82=>⟨2,2, .st [(0,1),(1,1)],[.int .u8 0, .int .u8 0],none⟩
 | 83=>⟨2,16, .st [(0,1),(1,1)],[.int .i64 0, .int .i64 0],none⟩
 | 84=>⟨2,16, .st [(0,1),(1,1)],[.int .i64 0, .int .i64 0],none⟩
 | 85=>⟨4,4, .st [(0,1),(1,1),(2,1),(3,1)],[.int .u8 0, .int .u8 0, .int .u8 0, .int .u8 0],none⟩
 | 86=>⟨4,4, .st [(0,1),(1,1),(2,1),(3,1)],[.int .u8 0, .int .u8 0, .int .u8 0, .int .u8 0],none⟩
 | 91=>⟨1,8, .sc,[.nilp],none⟩
 | 100=>⟨1,8, .sc,[.nilp],none⟩
 | 114=>⟨1,24, .sl 146,[.nils],none⟩
 | 115=>⟨2,32, .st [(0,1),(1,1)],[.int .i64 0, .nils],none⟩
 | 116=>⟨2,32, .st [(0,1),(1,1)],[.int .i64 0, .nils],none⟩
 | 134=>⟨1,8, .sc,[.nilp],none⟩
 | 135=>⟨3,56, .st [(0,2),(2,1)],[.int .i64 0, .nils, .nils],none⟩
 | 136=>⟨3,56, .st [(0,2),(2,1)],[.int .i64 0, .nils, .nils],none⟩
 | 137=>⟨1,24, .sl 57,[.nils],none⟩
 | 145=>⟨3,24, .st [(0,1),(1,1),(2,1)],[.int .i64 0, .int .i64 0, .int .i64 0],none⟩
 | 146=>⟨3,24, .st [(0,1),(1,1),(2,1)],[.int .i64 0, .int .i64 0, .int .i64 0],none⟩
 | 150=>⟨1,8, .i .u64,[.int .u64 0],none⟩
 | 151=>⟨1,8, .i .u64,[.int .u64 0],none⟩
 | 154=>⟨1,8, .sc,[.nilp],none⟩
 | 157=>⟨2,16, .st [(0,1),(1,1)],[.int .i64 0, .int .i64 0],none⟩
 | 158=>⟨2,16, .st [(0,1),(1,1)],[.int .i64 0, .int .i64 0],none⟩
 | 164=>⟨2,48, .ar 2 1,[.nils, .nils],none⟩
 | 166=>⟨1,24, .sl 158,[.nils],none⟩
 | 167=>⟨1,24, .sl 158,[.nils],none⟩
 | 168=>⟨1,24, .st [(0,1)],[.nils],none⟩
 | 169=>⟨1,24, .st [(0,1)],[.nils],none⟩
 | 171=>⟨1,8, .sc,[.nilp],none⟩
 | 174=>⟨1,8, .i .u64,[.int .u64 0],none⟩
 | 183=>⟨4,40, .st [(0,1),(1,1),(2,1),(3,1)],[.nilp, .nilp, .nilp, .str ⟨#[]⟩],none⟩
 | 184=>⟨4,40, .st [(0,1),(1,1),(2,1),(3,1)],[.nilp, .nilp, .nilp, .str ⟨#[]⟩],none⟩
 | 185=>⟨0,0, .ar 0 1,[],none⟩
 | 186=>⟨0,0, .st [(0,0)],[],none⟩
 | 187=>⟨0,0, .st [(0,0)],[],none⟩
 | 188=>⟨1,4, .i .u32,[.int .u32 0],none⟩
 | 189=>⟨1,1, .i .u8,[.int .u8 0],none⟩
 | 190=>⟨1,1, .i .u8,[.int .u8 0],none⟩
 | 192=>⟨1,8, .sc,[.nilp],none⟩
 | 193=>⟨1,4, .i .i32,[.int .i32 0],none⟩
 | 194=>⟨1,4, .i .i32,[.int .i32 0],none⟩
 | _=>⟨0,0, .no,[],none⟩
def ty:Ty:=fun t=>if t < 200 then tyM t else ⟨0,0, .no,[],none⟩
theorem fdc7 (t:Nat):ty t = if t < 200 then tyM t else ⟨0,0, .no,[],none⟩:=rfl
theorem xy7:lj7 Try.prog ty:=sub7 (n:=200) (by kernel_rfl) (fun t h=>by
 show (if t < 200 then tyM t else _).k = .no
 rw [if_neg (Nat.not_lt.2 h)])
end Go.Proofs.Ytahffcepagopmaa.Ab
