/- For every input wharfagelaw26.HuntDraws answers true, and its arguments read as they did. No condition. -/
import Derived.WideShapes
import Derived.Test.YtabadfkikdefeaaGreatR6
set_option linter.all false
set_option maxRecDepth 100000
set_option maxHeartbeats 6400000
namespace Go.Proofs.YtabadfkikdefeaaGreat
open Go.RowKit Go.WideShapes Go.ChangeShapes Go.ChangeAt
theorem arg_int {P:Program}{w:World}{r:Reach}{base:Nat}{t:TypeId}{k:IntKind}{v:Value}(ht:P.underlying t=some (.int k)) (h:Value.okWide P w r base t v):v.cells.toList=[v]:=by
 unfold Value.okWide at h
 rw[ht]at h
 simp only[Cell.okWide,ht]at h
 cases v <;> simp_all [Value.cells,Cell.ok]
def u32S:Shape Int:=wc7 1 (fun x cs=>cs=[.int .u32 x]∧0≤x∧x≤4294967295) (by rintro x cs ⟨rfl,_⟩;rfl)
theorem op_u32:os7 Tryz.prog 268 u32S:=by
 intro H enc w base spare held fuel cs x h
 cases fuel with
 | zero=>simp[DataW.trod]at h
 | succ n =>
  unfold DataW.trod at h
  rw[Tryz.underlying268]at h
  split at h <;> simp_all
  rename_i k2 m e
  obtain⟨⟨_,hw⟩,-⟩:=h
  subst e
  refine⟨m,rfl, ?_⟩
  simpa[Lit.wf,IntKind.min,IntKind.max,IntKind.signed,IntKind.bits]using hw
theorem op_u32s:os7 Tryz.prog 88 (ua7 u32S):=ak7 (S:=u32S) Tryz.underlying88 (by kernel_rfl) op_u32
theorem u32_f:Ab.Fwd u32S (fun x _=>.int .u32 x):=by
 rintro w F x cs ⟨rfl,-⟩ j hj
 have hj:j<1:=hj
 obtain rfl:j=0:=by omega
 exact⟨_,rfl,rfl⟩
theorem u32_bd {w:World}{F:Nat→Prop}{xs:List Int}{cs:List Value}(h:(ua7 u32S).rep w F xs cs):∀i,0≤xs.getD i 0∧xs.getD i 0≤4294967295:=fun i=>by
 obtain⟨a,b,off,c,rfl,h1,h2,h3,h4⟩:=h
 rw[List.getD_eq_getElem?_getD]
 by_cases hi:i<xs.length
 ·rw[List.getElem?_eq_getElem hi]
  obtain⟨es,⟨-,h5⟩,-⟩:=h4 i hi
  exact h5
 ·rw[List.getElem?_eq_none (by omega)];exact⟨Int.le_refl _,by show (0:Int)≤4294967295;omega⟩
theorem huntDraws_c {w:World}{F G:Nat→Prop}{l draws:List Int}{v1 v2:Value}{s:Int}(h1:wv7.rep w F l [v1]) (h2:(ua7 u32S).rep w G draws [v2]) (hs:0≤s∧s≤255) :
  Calls Tryz.prog 11 #[v1,v2,.int .u8 s] w fun e w'=>e = .returned (.bool true)∧Below w.heap.size w w':=by
 have hw:∀x∈l,0≤x∧x≤255:=by obtain⟨_,_,_,_,-,-,-,-,-,-,h⟩:=rm7 h1;exact h
 exact Ab.law_of (vs:=[v1,v2,.int .u8 s]) (Ab.huntDraws_p hw (u32_bd h2) hs) ⟨_,_,rfl,Ab.fs (e:=fun x _=>.int .u8 x) (0:Int) Ab.u8_f (wv7.old h1),_,_,rfl,Ab.fs (e:=fun x _=>.int .u32 x) (0:Int) u32_f ((ua7 u32S).old h2),_,_,rfl,rfl,rfl⟩
theorem huntDraws_lifted (os:Os) (started:os.Started) (H:Type) (enc:TypeId×Value→H) :
  ReturnsInHanded {} Tryz.checked os 11 .any (Rows.huntDrawsSpec.pre6 enc Tryz.prog Tryz.f11 Rows.huntDrawsRow.domain false) (Rows.huntDrawsSpec.post enc Tryz.prog Tryz.f11 false true false false):=by
 refine returnsInHanded_of_change (C:=Tryz.checked) Tryz.own started (by kernel_rfl) Tryz.func11
  (ChangeSpec.witness6 (enc:=enc) (C:=Tryz.checked) false ⟨#[], #[.slice none 0 0,.slice none 0 0,.int .u8 0],[]⟩ 16 (by kernel_rfl) (by kernel_rfl) (by kernel_rfl) (by kernel_rfl)) ?_
 intro W base args ds gs before hval0 hW hcnd _
 have hval:∀(j:Nat) t v,Tryz.f11.params[j]? = some t→args[j]? = some v→Value.okWide Tryz.prog W .any base t v:=hval0
 have hW':DataW.Whole enc Tryz.prog Tryz.f11.params.toList Rows.huntDrawsSpec.vars false W args.toList ds gs before:=hW
 obtain⟨p,q,hA0,hV,rfl,hfz,hnd⟩:=hW
 have hA:DataW.TrodAll enc Tryz.prog W 0 (fun _=>true) true Tryz.f11.params.toList args.toList ds p:=hA0
 rw[Tryz.params11]at hA hval
 obtain⟨v0,vs0,d0,ds0,p0,q0,hargs,rfl,rfl,h0,r0⟩:=trodAll_cons hA
 obtain⟨v1,vs1,d1,ds1,p1,q1,rfl,rfl,rfl,h1,r1⟩:=trodAll_cons r0
 obtain⟨v2,vs2,d2,ds2,p2,q2,rfl,rfl,rfl,h2,r2⟩:=trodAll_cons r1
 obtain⟨rfl,rfl,rfl⟩:=trodAll_nil r2
 obtain rfl:args = #[v0,v1,v2]:=by cases args;simp_all
 obtain⟨rfl,rfl⟩:=trodVars_none hV
 have e2:=arg_int Tryz.underlying5 (hval 2 _ _ rfl rfl)
 have e0:=xq7 Tryz.underlying24 (hval 0 _ _ rfl rfl)
 have e1:=xq7 Tryz.underlying88 (hval 1 _ _ rfl rfl)
 obtain⟨n0,f0⟩:=h0
 obtain⟨n1,f1⟩:=h1
 obtain⟨n2,f2⟩:=h2
 rw[show v0.cells.toList=[v0] from e0]at f0
 rw[show v1.cells.toList=[v1] from e1]at f1
 rw[show v2.cells.toList=[v2] from e2]at f2
 obtain⟨l,hl⟩:=heb7 _ _ _ _ _ _ _ _ _ f0
 obtain⟨dr,hd⟩:=op_u32s _ _ _ _ _ _ _ _ _ f1
 obtain⟨s,g2,k2⟩:=wlb7 _ _ _ _ _ _ _ _ _ f2
 obtain rfl:=(List.cons.inj g2).1
 refine (huntDraws_c hl hd k2).mono fun e W' ⟨he,hb⟩=>?_
 subst he
 exact⟨_,rfl,eeb7 Tryz.laid hW' rfl rfl (bt:=4) (by kernel_rfl) Tryz.underlying4 (by rw[Tryz.params11];decide +kernel) hb⟩
theorem huntDraws_holds:Rows.HuntDrawsSaid :=
 OpenClaim.holds_of_wide 11 Tryz.f11 rfl rfl rfl rfl rfl rfl rfl ⟨rfl,rfl,rfl,rfl,rfl⟩ rfl rfl rfl rfl rfl (by kernel_rfl) Tryz.func11 (by kernel_rfl)
  (of_decide_eq_true (by kernel_rfl)) (by unfold Func.isWrapper;first | (rw[if_pos (by decide +kernel)];kernel_rfl) | (rw[if_neg (by decide +kernel)];exact⟨rfl,rfl⟩))
  (fun os started H enc _=>huntDraws_lifted os started H enc)
end Go.Proofs.YtabadfkikdefeaaGreat
