/- For every input wharfagelaw20.SheetAgain answers true, and its argument reads as it did. No condition. -/
import Derived.WideShapes
import Derived.Test.YtabadfkikdefeaaGreatR5
set_option linter.all false
set_option maxRecDepth 100000
set_option maxHeartbeats 6400000
namespace Go.Proofs.YtabadfkikdefeaaGreat
open Go.RowKit Go.WideShapes Go.ChangeShapes Go.ChangeAt
theorem sheetAgain_c {w:World}(b:ByteArray):Calls Tryz.prog 5 #[.string b] w fun e w'=>e = .returned (.bool true)∧Below w.heap.size w w' :=
 Ab.law_of (vs:=[.string b]) (Ab.sheetAgain_p b.data.toList) ⟨_,_,rfl,rfl,rfl⟩
theorem sheetAgain_lifted (os:Os) (started:os.Started) (H:Type) (enc:TypeId×Value→H) :
  ReturnsInHanded {} Tryz.checked os 5 .any (Rows.sheetAgainSpec.pre6 enc Tryz.prog Tryz.f5 Rows.sheetAgainRow.domain false) (Rows.sheetAgainSpec.post enc Tryz.prog Tryz.f5 false true false false):=by
 refine returnsInHanded_of_change (C:=Tryz.checked) Tryz.own started (by kernel_rfl) Tryz.func5
  (ChangeSpec.witness6 (enc:=enc) (C:=Tryz.checked) false ⟨#[], #[.string ⟨#[]⟩],[]⟩ 16 (by kernel_rfl) (by kernel_rfl) (by kernel_rfl) (by kernel_rfl)) ?_
 intro W base args ds gs before hval0 hW hcnd _
 have hval:∀(j:Nat) t v,Tryz.f5.params[j]? = some t→args[j]? = some v→Value.okWide Tryz.prog W .any base t v:=hval0
 have hW':DataW.Whole enc Tryz.prog Tryz.f5.params.toList Rows.sheetAgainSpec.vars false W args.toList ds gs before:=hW
 obtain⟨p,q,hA0,hV,rfl,hfz,hnd⟩:=hW
 have hA:DataW.TrodAll enc Tryz.prog W 0 (fun _=>true) true Tryz.f5.params.toList args.toList ds p:=hA0
 rw[Tryz.params5]at hA hval
 obtain⟨v0,vs0,d0,ds0,p0,q0,hargs,rfl,rfl,h0,r0⟩:=trodAll_cons hA
 obtain⟨rfl,rfl,rfl⟩:=trodAll_nil r0
 obtain rfl:args = #[v0]:=by cases args;simp_all
 obtain⟨rfl,rfl⟩:=trodVars_none hV
 obtain⟨b,rfl⟩:=okWide_string Tryz.underlying9 (hval 0 _ _ rfl rfl)
 refine (sheetAgain_c b).mono fun e W' ⟨he,hb⟩=>?_
 subst he
 exact⟨_,rfl,lkb7 Tryz.laid hW' rfl rfl (bt:=4) (by kernel_rfl) Tryz.underlying4 (by rw[Tryz.params5];decide +kernel) hb⟩
theorem sheetAgain_holds:Rows.SheetAgainSaid :=
 OpenClaim.holds_of_wide 5 Tryz.f5 rfl rfl rfl rfl rfl rfl rfl ⟨rfl,rfl,rfl,rfl,rfl⟩ rfl rfl rfl rfl rfl (by kernel_rfl) Tryz.func5 (by kernel_rfl)
  (of_decide_eq_true (by kernel_rfl)) (by unfold Func.isWrapper;first | (rw[if_pos (by decide +kernel)];kernel_rfl) | (rw[if_neg (by decide +kernel)];exact⟨rfl,rfl⟩))
  (fun os started H enc _=>sheetAgain_lifted os started H enc)
end Go.Proofs.YtabadfkikdefeaaGreat
