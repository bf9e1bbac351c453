/- The law ConvDoes of mandrellaw13: for every input of bulk at most 1,048,576 the call returns true. Conditions: those of the rows, none else. -/
import Derived.Test.YtnkhoojomojbpaaGreatDoorC6
import Derived.ProofKit
import Derived.Test.YtnkhoojomojbpaaGreatDoorCards
import Derived.Test.YtnkhoojomojbpaaGreatDoorTie
set_option maxRecDepth 100000
set_option maxHeartbeats 4000000
namespace Go.Proofs.YtnkhoojomojbpaaGreatDoor
open Go.ChangeShapes Go.WideShapes Go.ChangeAt Go.RowKit Go.Vm
noncomputable section
theorem apy :ownKnob Tryz.prog.godebug=none:=by kernel_rfl
theorem aHM :Tryz.prog.globalNamed "mandrel/schema.ones" =some 1:=by kernel_rfl
theorem aBH :(Tryz.prog.globals[1]?).map (·.type)=some 241:=by kernel_rfl
theorem aHN :Tryz.prog.cellsOf 241=10:=by kernel_rfl
theorem aJH :Tryz.prog.cellsOf 9=1:=by kernel_rfl
theorem apz :laidOutB Tryz.prog=true:=by kernel_rfl
theorem P7 {P:Program}{w:World}{r:Reach}{base:Nat}{t:TypeId}{fs:Array Field}{v:Value}(h:P.underlying t=some (.struct fs))(hv:Value.okWide P w r base t v):bS v=true:=by
 unfold Value.okWide at hv
 rw[h]at hv
 obtain⟨cs,rfl,_⟩:=hv
 rfl
theorem aHO {W:World}(h:laidMetH Tryz.prog Rows.convDoesRow.laid W):qY (Env.gam XRT.e0) W (fun b=>b<W.heap.size):=by
 obtain⟨ps,hv,_⟩:=(show laidMet Tryz.prog Rows.convDoesRow.laid W from h)
 obtain⟨q,hv⟩:=DU hv
 have hs:(Rows.laid_mandrel_schema_ones:DataW Unit)=zQ XRT.ones:=by kernel_rfl
 rw[hs]at hv
 obtain⟨dA,hrep⟩:=Up aHM aBH Tryz.underlying241 Tryz.underlying9 aJH aHN (by decide) hv
 intro g v hg
 have hg':lk [(1,AV.ip (.arr 10 .str) XRT.ones)] g=some v:=hg
 simp only[lk]at hg'
 cases hb:Nat.beq 1 g with
 |false=>rw[hb]at hg';cases hg'
 |true=>
  rw[hb]at hg'
  cases hg'
  obtain rfl:=cb hb
  exact hrep _ dA
theorem II {P:Program}{w:World}{r:Reach}{base:Nat}{t e:TypeId}{v:Value}(h:P.underlying t=some (.slice e))(hv:Value.okWide P w r base t v):bS v=false:=by
 unfold Value.okWide at hv
 rw[h]at hv
 cases v with
 |agg _=>exact absurd hv (by simp[Cell.okWide,Cell.ok,h])
 |_=>rfl
theorem ag7 {H:Type}(d:DataW H):1<=Rows.uptoBulk d:=by
 cases d with
 |lit l=>cases l<;>simp[Rows.uptoBulk]
 |nil=>simp[Rows.uptoBulk]
 |ptr d=>simp[Rows.uptoBulk]
 |slice elems spare=>simp[Rows.uptoBulk]
 |agg parts=>simp[Rows.uptoBulk]
 |iface t d=>simp[Rows.uptoBulk]
 |map entries=>simp[Rows.uptoBulk]
 |held h=>simp[Rows.uptoBulk]
theorem sW {H:Type}{d:DataW H}{l:List (DataW H)}(h:d∈l):Rows.uptoBulk d<=Rows.uptoBulkAll l:=by
 induction l with
 |nil=>cases h
 |cons x r ih=>
  simp only[Rows.uptoBulkAll]
  cases List.mem_cons.1 h with
  |inl e=>subst e;omega
  |inr e=>have:=ih e;omega
theorem ag8 {H:Type}(l:List (DataW H)):l.length<=Rows.uptoBulkAll l:=by
 induction l with
 |nil=>simp[Rows.uptoBulkAll]
 |cons x r ih=>have:=ag7 x;simp only[Rows.uptoBulkAll,List.length_cons];omega
theorem TD {H:Type}:apx (Rows.uptoBulk (H:=H)):=by
 refine⟨fun b=>by simp[Rows.uptoBulk],fun es sp=>?_,fun es sp e he=>?_,fun es e he=>?_⟩
 ·have:=ag8 es
  simp only[Rows.uptoBulk]
  omega
 ·have:=sW he
  simp only[Rows.uptoBulk]
  omega
 ·have:=sW he
  simp only[Rows.uptoBulk]
  omega
theorem MV {H:Type}{l:List (DataW H)}(hk:Rows.uptoSmall H l=true):Rows.uptoBulkAll l<=1048576:=bt hk
theorem YK (H:Type)(enc:TypeId×Value->H)(W:World)(base:Nat)(args:Array Value)(ds gs:List (DataW H))(before:List MemPlace)
  (hval:∀(j:Nat) t v,Tryz.f3.params[j]?=some t->args[j]?=some v->Value.okWide Tryz.prog W .any base t v)
  (hW:DataW.Whole enc Tryz.prog Tryz.f3.params.toList Rows.convDoesSpec.vars false W args.toList ds gs before) (hL:laidMetH Tryz.prog Rows.convDoesRow.laid W) (hk:Rows.uptoSmall H (ds++gs)=true):
  Calls Tryz.prog 3 args W fun e W'=>∃v,e=.returned v/\Rows.convDoesSpec.post enc Tryz.prog Tryz.f3 false true false false W args v W':=by
 have hW':=hW
 have dA:=hW.lt
 obtain⟨p,q,hA0,hV,rfl,hfz,Nc⟩:=hW
 have hA:DataW.TrodAll enc Tryz.prog W 0 (fun _=>true) true Tryz.f3.params.toList args.toList ds p:=hA0
 rw[Tryz.params3]at hA hval
 obtain⟨v0,vs0,d0,ds0,p0,q0,hargs,rfl,rfl,h0,r0⟩:=trodAll_cons hA
 obtain⟨v1,vs1,d1,ds1,p1,q1,hargs1,rfl,rfl,h1,r1⟩:=trodAll_cons r0
 obtain⟨rfl,rfl,rfl⟩:=trodAll_nil r1
 subst hargs1
 obtain rfl:args= #[v0,v1]:=by cases args;simp_all
 obtain⟨rfl,rfl⟩:=trodVars_none hV
 have hag0:bS v0=Ty.isAgg XRT.Y2:=P7 Tryz.underlying25 (hval 0 25 v0 rfl rfl)
 obtain⟨y0,_,_,hw0,hv0⟩:=FV TD (N:=1048576) (a:=XRT.Y2) (by kernel_rfl) hag0 h0 (Nat.le_trans (sW (by simp)) (MV hk))
 have hag1:bS v1=Ty.isAgg (.slice XRT.Y0):=II Tryz.underlying26 (hval 1 26 v1 rfl rfl)
 obtain⟨y1,_,_,hw1,Zk⟩:=FV TD (N:=1048576) (a:=(.slice XRT.Y0)) (by kernel_rfl) hag1 h1 (Nat.le_trans (sW (by simp)) (MV hk))
 clear hA0
 have walk:Calls Tryz.prog 3 #[v0,v1] W fun e w'=>e=.returned (.bool true)/\vd W w':=
  N1 ((XRT.cdl_call y0 hw0 y1 hw1).mono fun _ _ h=>h.1) (fun _ h=>h) (aHO hL) (a:=[v0,v1]) ⟨v0,_,rfl,hv0.1,hv0.2,⟨v1,_,rfl,Zk.1,Zk.2,rfl⟩⟩
 refine walk.mono fun e W' ⟨he,hk⟩=>?_
 subst he
 exact⟨_,rfl,Us apz (fun t ht=>by
   rw[Tryz.params3]at ht
   have ht':t=25\/t=26:=by simpa using ht
   rcases ht' with rfl|rfl<;>exact⟨by kernel_rfl,by decide +kernel⟩)
  hW' dA rfl (fun _ _ _=>trodAll_cons_mk (shut_bool Tryz.underlying4 _) trodAll_mk0) rfl rfl hk (ok_one (by kernel_rfl) rfl (okWide_bool_mk Tryz.underlying4 _))⟩
noncomputable def yb (os:Os):World:=N2 Tryz.prog (World.holding Tryz.prog os ⟨#[], #[],[]⟩) Rows.convDoesRow.laid
def wN :Array Value:= #[.agg #[.string ⟨#[]⟩,.string ⟨#[]⟩,.slice none 0 0,.string ⟨#[]⟩,.slice none 0 0],.slice none 0 0]
theorem ag9 (os:Os):laidMet Tryz.prog Rows.convDoesRow.laid ((yb os).forCall (fun _ _=>0) ⟨#[],wN,[]⟩).memory:=
 laidMet_of_run' 8 (by kernel_rfl) (by kernel_rfl)
theorem arC (os:Os){H:Type}(enc:TypeId×Value->H):∃places,DataW.whole enc Tryz.prog ((yb os).forCall (fun _ _=>0) ⟨#[],wN,[]⟩).memory Tryz.f3.params.toList Rows.convDoesSpec.vars false wN.toList 8=some ([.agg [.lit (.string []),.lit (.string []),.nil,.lit (.string []),.nil],.nil],[],places):=
 ⟨[],by kernel_rfl⟩
theorem apA (os:Os)(started:os.Started)(H:Type)(enc:TypeId×Value->H)(F:Stop.Interp):
  ReturnsInHanded {} Tryz.checked os 3 .any ((Rows.OpenSpec.upto Rows.convDoesSpec).preRow enc Tryz.prog Tryz.f3 Rows.convDoesUptoRow.domain false Rows.convDoesUptoRow.laid) (((Rows.OpenSpec.upto Rows.convDoesSpec).at F).post enc Tryz.prog Tryz.f3 false true false false):=by
 obtain⟨places,hx⟩:=arC os enc
 refine returnsInHanded_of_row (C:=Tryz.checked) (s:=Rows.OpenSpec.upto Rows.convDoesSpec) apy started (by kernel_rfl) Tryz.func3
  (witness_row_at (enc:=enc) (C:=Tryz.checked) false (yb os) wN rfl (by kernel_rfl) (by kernel_rfl) (by kernel_rfl)
   (OpenSpec.preRow_of_cond 8 hx (by kernel_rfl) (fun k hk=>by cases hk;kernel_rfl) (by kernel_rfl) (ag9 os))) ?_
 intro W base args ds gs before hval hW _ hcond _ hL _ _
 exact YK H enc W base args ds gs before hval hW hL (hcond _ rfl)
end
end Go.Proofs.YtnkhoojomojbpaaGreatDoor
