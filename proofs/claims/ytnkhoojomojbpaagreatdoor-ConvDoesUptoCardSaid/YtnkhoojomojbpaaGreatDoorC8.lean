/- The card: what was lifted is said of the row. -/
import Derived.Test.YtnkhoojomojbpaaGreatDoorC7
set_option maxRecDepth 100000
set_option maxHeartbeats 4000000
namespace Go.Proofs.YtnkhoojomojbpaaGreatDoor
open Go.ChangeShapes Go.WideShapes Go.ChangeAt Go.RowKit Go.Vm
noncomputable section
theorem pIn :(Rows.convDoesUptoRow.inPlace==Tryz.pinned.checked.prog.inPlace 3)=true:=by kernel_rfl
theorem pUn :(Rows.convDoesUptoRow.unfollowed==Tryz.pinned.checked.prog.unfollowed 3)=true:=by kernel_rfl
theorem pRe :(Rows.convDoesUptoRow.recurses==Tryz.pinned.checked.prog.recurses 3)=true:=by kernel_rfl
theorem pNa :(Rows.convDoesUptoRow.named==Tryz.pinned.checked.prog.varsNamed 3)=true:=by kernel_rfl
theorem apB :joinedFacts Tryz.pinned.checked.prog 3 Tryz.f3 (Rows.OpenSpec.upto Rows.convDoesSpec).bare Rows.convDoesUptoRow=true:=by
 unfold joinedFacts
 rw[pIn,pUn,pRe,pNa]
 kernel_rfl
theorem aHP :Rows.ConvDoesUptoSaid:=
 OpenClaim.holds_of_cond 3 Tryz.f3 rfl rfl rfl rfl rfl rfl rfl ⟨rfl,rfl,rfl,rfl,rfl⟩ rfl rfl rfl rfl rfl (by kernel_rfl) Tryz.func3 apB
  (bt (by kernel_rfl)) (by unfold Func.isWrapper;first|(rw[if_pos (by decide +kernel)];kernel_rfl)|(rw[if_neg (by decide +kernel)];exact⟨rfl,rfl⟩))
  (fun os started H enc _ F=>by rw[OpenClaim.pre_eq_preRow];exact apA os started H enc F)
theorem aBI (f:FuncId)(fn:Func)(hf:Tryz.pinned.checked.prog.funcNamed "mandrel/mandrellaw13.ConvDoes" =some f)(hfn:Tryz.pinned.checked.prog.funcs[f]?=some fn):
  true=Tryz.pinned.checked.prog.looks []/\∀(j:Nat) t,fn.params[j]?=some t->Tryz.pinned.checked.prog.wantsStandIn t=false:=by
 obtain rfl:f=3:=Option.some.inj ((show Tryz.prog.funcNamed "mandrel/mandrellaw13.ConvDoes" =some 3 by kernel_rfl).symm.trans hf)|>.symm
 obtain rfl:fn=Tryz.f3:=(Option.some.inj (Tryz.func3.symm.trans hfn)).symm
 refine⟨by kernel_rfl,fun j t ht=>?_⟩
 rw[Tryz.params3]at ht
 have ht':t=25\/t=26:=by simpa using Array.mem_of_getElem? ht
 rcases ht' with rfl|rfl
 ·exact(show Tryz.prog.wantsStandIn 25=false by kernel_rfl)
 ·exact(show Tryz.prog.wantsStandIn 26=false by kernel_rfl)
theorem convDoes_holds :Rows.ConvDoesUptoCardSaid:=
 Claim7.holds_tied_plain_at .later [] _ _ _ _ aHP (fun _ h=>by cases h) (by kernel_rfl) (fun _ h=>by cases h) convDoesUpto_row_tie rfl ⟨rfl,rfl⟩ (by kernel_rfl) rfl aBI (by kernel_rfl)
end
end Go.Proofs.YtnkhoojomojbpaaGreatDoor
