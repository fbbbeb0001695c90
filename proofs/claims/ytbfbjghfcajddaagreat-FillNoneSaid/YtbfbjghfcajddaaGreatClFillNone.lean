/- For every input wharfagelaw21.FillNone answers true, and its arguments read as they did. No condition. -/
import Derived.Test.YtbfbjghfcajddaaGreatR3
set_option linter.all false
set_option maxRecDepth 100000
set_option maxHeartbeats 6400000
namespace Go.Proofs.YtbfbjghfcajddaaGreat
open Go.RowKit Go.WideShapes Go.ChangeShapes Go.ChangeAt
theorem fillNone_lifted (os:Os) (started:os.Started) (H:Type) (enc:TypeId × Value → H) :
  ReturnsInHanded {} Tryz.checked os 3 .any (Rows.fillNoneSpec.pre6 enc Tryz.prog Tryz.f3 Rows.fillNoneRow.domain false) (Rows.fillNoneSpec.post enc Tryz.prog Tryz.f3 false true false false):=by
 refine returnsInHanded_of_change (C:=Tryz.checked) Tryz.own started (by kernel_rfl) Tryz.func3
  (ChangeSpec.witness6 (enc:=enc) (C:=Tryz.checked) false ⟨#[], #[.agg #[.int .i64 0, .int .i64 0, .int .i64 0, .int .i64 0, .int .i64 0, .slice none 0 0, .slice none 0 0, .slice none 0 0, .slice none 0 0], .slice none 0 0, .slice none 0 0, .agg #[.int .i64 0, .slice none 0 0]],[]⟩ 16 (by kernel_rfl) (by kernel_rfl) (by kernel_rfl) (by kernel_rfl)) ?_
 intro W base args ds gs before hval0 hW hcnd _
 have hval:∀ (j:Nat) t v,Tryz.f3.params[j]? = some t → args[j]? = some v → Value.okWide Tryz.prog W .any base t v:=hval0
 have hW':DataW.Whole enc Tryz.prog Tryz.f3.params.toList Rows.fillNoneSpec.vars false W args.toList ds gs before:=hW
 obtain ⟨p,q,hA0,hV,rfl,hfz,hnd⟩:=hW
 have hA:DataW.TrodAll enc Tryz.prog W 0 (fun _=>true) true Tryz.f3.params.toList args.toList ds p:=hA0
 rw [Tryz.params3] at hA hval
 obtain ⟨v0,v1,v2,v3,d0,d1,d2,d3,p0,p1,p2,p3,rfl,rfl,rfl,h0,h1,h2,h3⟩:=trodAll_four hA
 obtain ⟨rfl,rfl⟩:=trodVars_none hV
 obtain ⟨cs0,rfl,e0⟩:=ag7 Tryz.underlying28 (hval 0 _ _ rfl rfl)
 obtain ⟨cs3,rfl,e3⟩:=ag7 Tryz.underlying32 (hval 3 _ _ rfl rfl)
 obtain ⟨n0,f0⟩:=h0
 obtain ⟨n3,f3⟩:=h3
 rw [show (Value.agg cs0.toArray).cells.toList = cs0 from e0] at f0
 rw [show (Value.agg cs3.toArray).cells.toList = cs3 from e3] at f3
 obtain ⟨x,hx⟩:=gq7 _ _ _ _ _ _ _ _ _ f0
 obtain ⟨y,vb,rfl, -,hy⟩:=np7 _ _ _ _ _ _ _ _ _ f3
 obtain ⟨a,b,off,c,hvb, -⟩:=hy
 refine (ml7 hx (List.cons.inj hvb).1).mono fun e W' ⟨he,hb⟩ => ?_
 subst he
 exact ⟨_,rfl,hp7 Tryz.laid hW' rfl rfl (bt:=4) (by kernel_rfl) Tryz.underlying4 (by rw [Tryz.params3]; decide +kernel) hb⟩
theorem fillNone_holds:Rows.FillNoneSaid :=
 OpenClaim.holds_of_wide 3 Tryz.f3 rfl rfl rfl rfl rfl rfl rfl ⟨rfl,rfl,rfl,rfl,rfl⟩ rfl rfl rfl rfl rfl (by kernel_rfl) Tryz.func3 (by kernel_rfl)
  (of_decide_eq_true (by kernel_rfl)) (by unfold Func.isWrapper; first | (rw [if_pos (by decide +kernel)]; kernel_rfl) | (rw [if_neg (by decide +kernel)]; exact ⟨rfl,rfl⟩))
  (fun os started H enc _=>fillNone_lifted os started H enc)
end Go.Proofs.YtbfbjghfcajddaaGreat
