/- conv.Do of a 1x1 MaxPool and the law ConvOne. -/
import Derived.Test.YtbijfcooljoogaaGreatDoorKC5
import Derived.Test.YtbijfcooljoogaaGreatDoorKC5L
namespace Go.Proofs.XGT
open Go.Vm Go
set_option maxRecDepth 100000
set_option maxHeartbeats 4000000
noncomputable def C_do : Code := codeOf Tryz.f17
noncomputable def cf_do : Cfg := ⟨90, 7, 3, [], true⟩
noncomputable def gP : Env := g167.add 31 (treeE poolF)
theorem gP_good : gP.Good := g167_good.add poolE_ok
noncomputable def doE : FnE := execFnC gP Tryz.f17 7 []
theorem doE_ok : FnE.OK e0.P e0.gam 17 doE := execFnC_ok gP_good hmix Tryz.func17 Tryz.call17 (by decide +kernel) rfl
noncomputable def C_law : Code := codeOf Tryz.f4
noncomputable def cf_law : Cfg := ⟨32, 6, 0, [], true⟩
noncomputable def gL : Env := ((g172.add 17 doE).add 18 (treeE samtF)).add 16 (fnE liveF)
theorem gL_good : gL.Good := ((g172_good.add doE_ok).add samtE_ok).add liveE_ok
theorem law_eq (t : Int) (xd dt : List Int) : runC gL Tryz.f4 6 [] [.d (Y0) (t, xd, dt, ())] [] ah =
  bif decide (Int.ofNat dt.length > 600) then some (AEnd.ret [B true], [])
  else 
    bif decide (xd.length ≤ 9223372036854775807 ∧ dt.length ≤ 9223372036854775807) then 
      bif tenE t xd dt != 0 then some (AEnd.ret [B true], [])
      else 
        bif !numOk t 0 then some (AEnd.ret [B true], [])
        else 
          bif decide (xd.length ≤ 9223372036854775807) then 
            bif countE xd != 0 then 
              bif countE xd != 0 then 
                bif countE xd != 0 then some (AEnd.ret [B true], [])
                else none
              else (idx xd 2).bind fun v7 =>
                  (idx xd 3).bind fun v8 =>
                    (idx xd 0).bind fun v9 =>
                      (idx xd 1).bind fun v10 =>
                        (idx xd 2).bind fun v11 =>
                          (idx xd 3).bind fun v12 =>
                            none
            else 
              bif t == 6 then 
                bif t != 1 then some (AEnd.ret [B true], [])
                else 
                  bif !Int.ofNat xd.length == 4 then some (AEnd.ret [B true], [])
                  else (idx xd 2).bind fun v9 =>
                      bif !decide (IntKind.i64.wrap (IntKind.i64.wrap (IntKind.i64.wrap (IntKind.i64.wrap (v9 + 0) + 0) - 0) - 1) ≥ 0) then some (AEnd.ret [B true], [])
                      else (idx xd 3).bind fun v11 =>
                          bif !decide (IntKind.i64.wrap (IntKind.i64.wrap (IntKind.i64.wrap (IntKind.i64.wrap (v11 + 0) + 0) - 0) - 1) ≥ 0) then some (AEnd.ret [B true], [])
                          else (idx xd 0).bind fun v13 =>
                              (idx xd 1).bind fun v14 =>
                                bif countE [v13, v14, IntKind.i64.wrap (IntKind.i64.wrap ((IntKind.i64.wrap (IntKind.i64.wrap (IntKind.i64.wrap (IntKind.i64.wrap (v9 + 0) + 0) - 0) - 1)).tdiv 1) + 1), IntKind.i64.wrap (IntKind.i64.wrap ((IntKind.i64.wrap (IntKind.i64.wrap (IntKind.i64.wrap (IntKind.i64.wrap (v11 + 0) + 0) - 0) - 1)).tdiv 1) + 1)] != 0 then 
                                  bif countE [v13, v14, IntKind.i64.wrap (IntKind.i64.wrap ((IntKind.i64.wrap (IntKind.i64.wrap (IntKind.i64.wrap (IntKind.i64.wrap (v9 + 0) + 0) - 0) - 1)).tdiv 1) + 1), IntKind.i64.wrap (IntKind.i64.wrap ((IntKind.i64.wrap (IntKind.i64.wrap (IntKind.i64.wrap (IntKind.i64.wrap (v11 + 0) + 0) - 0) - 1)).tdiv 1) + 1)] != 0 then 
                                    bif countE [v13, v14, IntKind.i64.wrap (IntKind.i64.wrap ((IntKind.i64.wrap (IntKind.i64.wrap (IntKind.i64.wrap (IntKind.i64.wrap (v9 + 0) + 0) - 0) - 1)).tdiv 1) + 1), IntKind.i64.wrap (IntKind.i64.wrap ((IntKind.i64.wrap (IntKind.i64.wrap (IntKind.i64.wrap (IntKind.i64.wrap (v11 + 0) + 0) - 0) - 1)).tdiv 1) + 1)] != 0 then some (AEnd.ret [B true], [])
                                    else none
                                  else (idx xd 2).bind fun v17 =>
                                      (idx xd 3).bind fun v18 =>
                                        (idx xd 0).bind fun v19 =>
                                          (idx xd 1).bind fun v20 =>
                                            (idx xd 2).bind fun v21 =>
                                              (idx xd 3).bind fun v22 =>
                                                none
                                else (idx xd 2).bind fun v16 =>
                                    (idx xd 3).bind fun v17 =>
                                      (idx xd 0).bind fun v18 =>
                                        (idx xd 1).bind fun v19 =>
                                          (idx xd 2).bind fun v20 =>
                                            (idx xd 3).bind fun v21 =>
                                              bif true && decide (1 ≤ v16 ∧ 1 ≤ v17 ∧ 1 ≤ IntKind.i64.wrap (v18 * v19) ∧ IntKind.i64.wrap (v20 * v21) = v16 * v17 ∧ Int.ofNat dt.length = IntKind.i64.wrap (v18 * v19) * (v16 * v17) ∧ IntKind.i64.wrap (v18 * v19) * (v16 * v17) ≤ 65536 ∧ some (IntKind.i64.wrap (IntKind.i64.wrap ((IntKind.i64.wrap (IntKind.i64.wrap (IntKind.i64.wrap (IntKind.i64.wrap (v9 + 0) + 0) - 0) - 1)).tdiv 1) + 1)) = some v16 ∧ some (IntKind.i64.wrap (IntKind.i64.wrap ((IntKind.i64.wrap (IntKind.i64.wrap (IntKind.i64.wrap (IntKind.i64.wrap (v11 + 0) + 0) - 0) - 1)).tdiv 1) + 1)) = some v17) then 
                                                bif decide (4 ≤ 9223372036854775807 ∧ dt.length ≤ 9223372036854775807 ∧ t = t ∧ [v13, v14, IntKind.i64.wrap (IntKind.i64.wrap ((IntKind.i64.wrap (IntKind.i64.wrap (IntKind.i64.wrap (IntKind.i64.wrap (v9 + 0) + 0) - 0) - 1)).tdiv 1) + 1), IntKind.i64.wrap (IntKind.i64.wrap ((IntKind.i64.wrap (IntKind.i64.wrap (IntKind.i64.wrap (IntKind.i64.wrap (v11 + 0) + 0) - 0) - 1)).tdiv 1) + 1)] = xd ∧ dt = dt) then some (AEnd.ret [B true], [])
                                                else none
                                              else none
              else 
                bif t != 1 then some (AEnd.ret [B true], [])
                else 
                  bif !Int.ofNat xd.length == 4 then some (AEnd.ret [B true], [])
                  else (idx xd 2).bind fun v9 =>
                      bif !decide (IntKind.i64.wrap (IntKind.i64.wrap (IntKind.i64.wrap (IntKind.i64.wrap (v9 + 0) + 0) - 0) - 1) ≥ 0) then some (AEnd.ret [B true], [])
                      else (idx xd 3).bind fun v11 =>
                          bif !decide (IntKind.i64.wrap (IntKind.i64.wrap (IntKind.i64.wrap (IntKind.i64.wrap (v11 + 0) + 0) - 0) - 1) ≥ 0) then some (AEnd.ret [B true], [])
                          else (idx xd 0).bind fun v13 =>
                              (idx xd 1).bind fun v14 =>
                                bif countE [v13, v14, IntKind.i64.wrap (IntKind.i64.wrap ((IntKind.i64.wrap (IntKind.i64.wrap (IntKind.i64.wrap (IntKind.i64.wrap (v9 + 0) + 0) - 0) - 1)).tdiv 1) + 1), IntKind.i64.wrap (IntKind.i64.wrap ((IntKind.i64.wrap (IntKind.i64.wrap (IntKind.i64.wrap (IntKind.i64.wrap (v11 + 0) + 0) - 0) - 1)).tdiv 1) + 1)] != 0 then 
                                  bif countE [v13, v14, IntKind.i64.wrap (IntKind.i64.wrap ((IntKind.i64.wrap (IntKind.i64.wrap (IntKind.i64.wrap (IntKind.i64.wrap (v9 + 0) + 0) - 0) - 1)).tdiv 1) + 1), IntKind.i64.wrap (IntKind.i64.wrap ((IntKind.i64.wrap (IntKind.i64.wrap (IntKind.i64.wrap (IntKind.i64.wrap (v11 + 0) + 0) - 0) - 1)).tdiv 1) + 1)] != 0 then 
                                    bif countE [v13, v14, IntKind.i64.wrap (IntKind.i64.wrap ((IntKind.i64.wrap (IntKind.i64.wrap (IntKind.i64.wrap (IntKind.i64.wrap (v9 + 0) + 0) - 0) - 1)).tdiv 1) + 1), IntKind.i64.wrap (IntKind.i64.wrap ((IntKind.i64.wrap (IntKind.i64.wrap (IntKind.i64.wrap (IntKind.i64.wrap (v11 + 0) + 0) - 0) - 1)).tdiv 1) + 1)] != 0 then some (AEnd.ret [B true], [])
                                    else none
                                  else (idx xd 2).bind fun v17 =>
                                      (idx xd 3).bind fun v18 =>
                                        (idx xd 0).bind fun v19 =>
                                          (idx xd 1).bind fun v20 =>
                                            (idx xd 2).bind fun v21 =>
                                              (idx xd 3).bind fun v22 =>
                                                none
                                else (idx xd 2).bind fun v16 =>
                                    (idx xd 3).bind fun v17 =>
                                      (idx xd 0).bind fun v18 =>
                                        (idx xd 1).bind fun v19 =>
                                          (idx xd 2).bind fun v20 =>
                                            (idx xd 3).bind fun v21 =>
                                              bif true && decide (1 ≤ v16 ∧ 1 ≤ v17 ∧ 1 ≤ IntKind.i64.wrap (v18 * v19) ∧ IntKind.i64.wrap (v20 * v21) = v16 * v17 ∧ Int.ofNat dt.length = IntKind.i64.wrap (v18 * v19) * (v16 * v17) ∧ IntKind.i64.wrap (v18 * v19) * (v16 * v17) ≤ 65536 ∧ some (IntKind.i64.wrap (IntKind.i64.wrap ((IntKind.i64.wrap (IntKind.i64.wrap (IntKind.i64.wrap (IntKind.i64.wrap (v9 + 0) + 0) - 0) - 1)).tdiv 1) + 1)) = some v16 ∧ some (IntKind.i64.wrap (IntKind.i64.wrap ((IntKind.i64.wrap (IntKind.i64.wrap (IntKind.i64.wrap (IntKind.i64.wrap (v11 + 0) + 0) - 0) - 1)).tdiv 1) + 1)) = some v17) then 
                                                bif decide (4 ≤ 9223372036854775807 ∧ dt.length ≤ 9223372036854775807 ∧ t = t ∧ [v13, v14, IntKind.i64.wrap (IntKind.i64.wrap ((IntKind.i64.wrap (IntKind.i64.wrap (IntKind.i64.wrap (IntKind.i64.wrap (v9 + 0) + 0) - 0) - 1)).tdiv 1) + 1), IntKind.i64.wrap (IntKind.i64.wrap ((IntKind.i64.wrap (IntKind.i64.wrap (IntKind.i64.wrap (IntKind.i64.wrap (v11 + 0) + 0) - 0) - 1)).tdiv 1) + 1)] = xd ∧ dt = dt) then some (AEnd.ret [B true], [])
                                                else none
                                              else none
          else none
    else none := by kernel_rfl
end Go.Proofs.XGT
