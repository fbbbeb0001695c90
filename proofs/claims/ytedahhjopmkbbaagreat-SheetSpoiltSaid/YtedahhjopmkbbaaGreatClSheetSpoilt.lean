/- For every input wharfagelaw20.SheetSpoilt answers true, and its arguments read as they did. No condition. -/
import Derived.WideShapes
import Derived.Test.YtedahhjopmkbbaaGreatR9
set_option linter.all false
set_option maxRecDepth 100000
set_option maxHeartbeats 6400000
namespace Go.Proofs.YtedahhjopmkbbaaGreat
open Go.RowKit Go.WideShapes Go.ChangeShapes Go.ChangeAt
theorem trodAll_six {P:Program}{H:Type}{enc:TypeId×Value→H}{w:World}{base:Nat}{spare:Nat→Bool}{held:Bool}{t t1 t2 t3 t4 t5:TypeId}{args:Array Value}{ds:List (DataW H)}{ps:List MemPlace}(h:DataW.TrodAll enc P w base spare held [t,t1,t2,t3,t4,t5] args.toList ds ps) :
  ∃v v1 v2 v3 v4 v5 d d1 d2 d3 d4 d5 p p1 p2 p3 p4 p5,args = #[v,v1,v2,v3,v4,v5]∧ds=[d,d1,d2,d3,d4,d5]∧ps=p++(p1++(p2++(p3++(p4++p5))))∧DataW.Trod enc P w base spare held t v d p∧DataW.Trod enc P w base spare held t1 v1 d1 p1∧DataW.Trod enc P w base spare held t2 v2 d2 p2∧DataW.Trod enc P w base spare held t3 v3 d3 p3∧DataW.Trod enc P w base spare held t4 v4 d4 p4∧DataW.Trod enc P w base spare held t5 v5 d5 p5:=by
 obtain⟨v,vs,d,ds0,p,q,hargs,rfl,rfl,hd,h1⟩:=trodAll_cons h
 obtain⟨v1,vs1,d1,ds1,p1,q1,rfl,rfl,rfl,hd1,h2⟩:=trodAll_cons h1
 obtain⟨v2,vs2,d2,ds2,p2,q2,rfl,rfl,rfl,hd2,h3⟩:=trodAll_cons h2
 obtain⟨v3,vs3,d3,ds3,p3,q3,rfl,rfl,rfl,hd3,h4⟩:=trodAll_cons h3
 obtain⟨v4,vs4,d4,ds4,p4,q4,rfl,rfl,rfl,hd4,h5⟩:=trodAll_cons h4
 obtain⟨v5,vs5,d5,ds5,p5,q5,rfl,rfl,rfl,hd5,h6⟩:=trodAll_cons h5
 obtain⟨rfl,rfl,rfl⟩:=trodAll_nil h6
 exact⟨v,v1,v2,v3,v4,v5,d,d1,d2,d3,d4,d5,p,p1,p2,p3,p4,p5,by cases args;simp_all,rfl,by simp,hd,hd1,hd2,hd3,hd4,hd5⟩
def u16S:Shape Int:=nd7 1 (fun x cs=>cs=[.int .u16 x]∧0≤x∧x≤65535) (by rintro x cs ⟨rfl,_⟩;rfl)
theorem op_u16:lm7 Tryz.prog 32 u16S:=by
 intro H enc w base spare held fuel cs x h
 cases fuel with
 | zero=>simp[DataW.trod]at h
 | succ n =>
  unfold DataW.trod at h
  rw[Tryz.underlying32]at h
  split at h <;> simp_all
  rename_i k2 m e
  obtain⟨⟨_,hw⟩,-⟩:=h
  subst e
  refine⟨m,rfl, ?_⟩
  simpa[Lit.wf,IntKind.min,IntKind.max,IntKind.signed,IntKind.bits]using hw
theorem sheetSpoilt_lifted (os:Os) (started:os.Started) (H:Type) (enc:TypeId×Value→H) :
  ReturnsInHanded {} Tryz.checked os 3 .any (Rows.sheetSpoiltSpec.pre6 enc Tryz.prog Tryz.f3 Rows.sheetSpoiltRow.domain false) (Rows.sheetSpoiltSpec.post enc Tryz.prog Tryz.f3 false true false false):=by
 refine returnsInHanded_of_change (C:=Tryz.checked) Tryz.own started (by kernel_rfl) Tryz.func3
  (ChangeSpec.witness6 (enc:=enc) (C:=Tryz.checked) false ⟨#[], #[.agg #[.int .u8 0,.int .u8 0,.int .u8 0,.int .u8 0,.int .u8 0,.slice none 0 0,.slice none 0 0,.slice none 0 0,.slice none 0 0,.bool false,.bool false],
   .agg #[.slice none 0 0,.slice none 0 0,.slice none 0 0],.agg #[.slice none 0 0,.int .u8 0],.int .u16 0,.int .u8 0,.string ⟨#[]⟩],[]⟩ 16 (by kernel_rfl) (by kernel_rfl) (by kernel_rfl) (by kernel_rfl)) ?_
 intro W base args ds gs before hval0 hW hcnd _
 have hval:∀(j:Nat) t v,Tryz.f3.params[j]? = some t→args[j]? = some v→Value.okWide Tryz.prog W .any base t v:=hval0
 have hW':DataW.Whole enc Tryz.prog Tryz.f3.params.toList Rows.sheetSpoiltSpec.vars false W args.toList ds gs before:=hW
 obtain⟨p,q,hA0,hV,rfl,hfz,hnd⟩:=hW
 have hA:DataW.TrodAll enc Tryz.prog W 0 (fun _=>true) true Tryz.f3.params.toList args.toList ds p:=hA0
 rw[Tryz.params3]at hA hval
 obtain⟨v0,v1,v2,v3,v4,v5,d0,d1,d2,d3,d4,d5,p0,p1,p2,p3,p4,p5,rfl,rfl,rfl,h0,h1,h2,h3,h4,h5⟩:=trodAll_six hA
 obtain⟨rfl,rfl⟩:=trodVars_none hV
 obtain⟨cs0,rfl,e0⟩:=gs7 Tryz.underlying26 (hval 0 _ _ rfl rfl)
 obtain⟨cs1,rfl,e1⟩:=gs7 Tryz.underlying28 (hval 1 _ _ rfl rfl)
 obtain⟨cs2,rfl,e2⟩:=gs7 Tryz.underlying31 (hval 2 _ _ rfl rfl)
 have e3:=bub7 Tryz.underlying32 (hval 3 _ _ rfl rfl)
 have e4:=bub7 Tryz.underlying5 (hval 4 _ _ rfl rfl)
 obtain⟨b,rfl⟩:=okWide_string Tryz.underlying9 (hval 5 _ _ rfl rfl)
 obtain⟨n0,f0⟩:=h0
 obtain⟨n1,f1⟩:=h1
 obtain⟨n2,f2⟩:=h2
 obtain⟨n3,f3⟩:=h3
 obtain⟨n4,f4⟩:=h4
 rw[show (Value.agg cs0.toArray).cells.toList=cs0 from e0]at f0
 rw[show (Value.agg cs1.toArray).cells.toList=cs1 from e1]at f1
 rw[show (Value.agg cs2.toArray).cells.toList=cs2 from e2]at f2
 rw[show v3.cells.toList=[v3] from e3]at f3
 rw[show v4.cells.toList=[v4] from e4]at f4
 obtain⟨s,hs⟩:=qzb7 _ _ _ _ _ _ _ _ _ f0
 obtain⟨wi,hwi⟩:=zgc7 _ _ _ _ _ _ _ _ _ f1
 obtain⟨sl,hsl⟩:=nac7 _ _ _ _ _ _ _ _ _ f2
 obtain⟨a3,g3,k3⟩:=op_u16 _ _ _ _ _ _ _ _ _ f3
 obtain⟨a4,g4,k4⟩:=bq7 _ _ _ _ _ _ _ _ _ f4
 obtain rfl:=(List.cons.inj g3).1
 obtain rfl:=(List.cons.inj g4).1
 obtain⟨m3,rfl⟩:=Int.eq_ofNat_of_zero_le k3.1
 obtain⟨m4,rfl⟩:=Int.eq_ofNat_of_zero_le k4.1
 refine (Ab.sheetSpoilt_c (which:=m3) (what:=m4) b hs hwi hsl (by have:=k3.2;omega)).mono fun e W' ⟨he,hb⟩=>?_
 subst he
 exact⟨_,rfl,tcc7 Tryz.laid hW' rfl rfl (bt:=4) (by kernel_rfl) Tryz.underlying4 (by rw[Tryz.params3];decide +kernel) hb⟩
theorem sheetSpoilt_holds:Rows.SheetSpoiltSaid :=
 OpenClaim.holds_of_wide 3 Tryz.f3 rfl rfl rfl rfl rfl rfl rfl ⟨rfl,rfl,rfl,rfl,rfl⟩ rfl rfl rfl rfl rfl (by kernel_rfl) Tryz.func3 (by kernel_rfl)
  (of_decide_eq_true (by kernel_rfl)) (by unfold Func.isWrapper;first | (rw[if_pos (by decide +kernel)];kernel_rfl) | (rw[if_neg (by decide +kernel)];exact⟨rfl,rfl⟩))
  (fun os started H enc _=>sheetSpoilt_lifted os started H enc)
end Go.Proofs.YtedahhjopmkbbaaGreat
