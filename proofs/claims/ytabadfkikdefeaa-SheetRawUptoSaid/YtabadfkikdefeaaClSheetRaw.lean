/- For every input of bulk at most 1048576 wharfagelaw20.SheetRaw answers true, and its argument reads as it did. -/
import Derived.OpenShut
import Derived.JoinedCond
import Derived.Test.YtabadfkikdefeaaR4
set_option linter.all false
set_option maxRecDepth 100000
set_option maxHeartbeats 6400000
namespace Go.Proofs.Ytabadfkikdefeaa
open Go.RowKit Go.WideShapes Go.ChangeShapes Go.ChangeAt
theorem sheetRaw_lifted (os:Os) (started:os.Started) (H:Type) (enc:TypeId × Value → H) (F:Stop.Interp) :
  ReturnsInHanded {} Try.checked os 3 .any ((Rows.OpenSpec.upto Rows.sheetRawSpec).pre6 enc Try.prog Try.f3 Rows.sheetRawUptoRow.domain false) (((Rows.OpenSpec.upto Rows.sheetRawSpec).at F).post enc Try.prog Try.f3 false true false false):=by
 refine returnsInHanded_of_cond (C:=Try.checked) (s:=Rows.OpenSpec.upto Rows.sheetRawSpec) (k:=Rows.uptoSmall) rfl Try.own started (by kernel_rfl) Try.func3
  (OpenSpec.witness (enc:=enc) (C:=Try.checked) (s:=Rows.OpenSpec.upto Rows.sheetRawSpec) (k:=Rows.uptoSmall) rfl false ⟨#[], #[.agg #[.slice none 0 0, .slice none 0 0, .slice none 0 0, .slice none 0 0, .int .i64 0]],[]⟩ 16 (by kernel_rfl) (by kernel_rfl) (by kernel_rfl)
   (x:=([.agg [.agg [.nil, .nil], .agg [.nil, .nil], .lit (.int .i64 0)]],[],[])) (by kernel_rfl) rfl (by kernel_rfl)) ?_
 intro W base args ds gs before hval0 hW hcnd hk _
 have hval:∀ (j:Nat) t v,Try.f3.params[j]? = some t → args[j]? = some v → Value.okWide Try.prog W .any base t v:=hval0
 have hW':DataW.Whole enc Try.prog Try.f3.params.toList Rows.sheetRawSpec.vars false W args.toList ds gs before:=hW
 obtain ⟨p,q,hA0,hV,rfl,hfz,hnd⟩:=hW
 have hA:DataW.TrodAll enc Try.prog W 0 (fun _=>true) true Try.f3.params.toList args.toList ds p:=hA0
 rw [Try.params3] at hA hval
 obtain ⟨v0,vs0,d0,ds0,p0,q0,hargs,rfl,rfl,h0,r0⟩:=trodAll_cons hA
 obtain ⟨rfl,rfl,rfl⟩:=trodAll_nil r0
 obtain rfl:args = #[v0]:=by cases args; simp_all
 obtain ⟨rfl,rfl⟩:=trodVars_none hV
 obtain ⟨cs0,rfl,e0⟩:=zgb7 Try.underlying31 (hval 0 _ _ rfl rfl)
 obtain ⟨n0,f0⟩:=h0
 rw [show (Value.agg cs0.toArray).cells.toList = cs0 from e0] at f0
 have hbk:Rows.uptoBulkAll ([d0] ++ []) ≤ 1048576:=of_decide_eq_true hk
 simp only [List.append_nil,Rows.uptoBulkAll] at hbk
 obtain ⟨y,hy,hq⟩:=glb7 _ _ _ _ _ _ _ _ _ 1048576 f0 (by omega)
 refine (Ab.sheetRaw_c hy hq).mono fun e W' ⟨he,hb⟩ => ?_
 subst he
 exact ⟨_,rfl,xnb7 Try.laid hW' rfl rfl (bt:=4) (by kernel_rfl) Try.underlying4 (by rw [Try.params3]; decide +kernel) hb⟩
theorem sheetRaw_holds:Rows.SheetRawUptoSaid :=
 OpenClaim.holds_of_cond 3 Try.f3 rfl rfl rfl rfl rfl rfl rfl ⟨rfl,rfl,rfl,rfl,rfl⟩ rfl rfl rfl rfl rfl (by kernel_rfl) Try.func3 (by kernel_rfl)
  (of_decide_eq_true (by kernel_rfl)) (by unfold Func.isWrapper; first | (rw [if_pos (by decide +kernel)]; kernel_rfl) | (rw [if_neg (by decide +kernel)]; exact ⟨rfl,rfl⟩))
  (fun os started H enc _ F=>sheetRaw_lifted os started H enc F)
end Go.Proofs.Ytabadfkikdefeaa
