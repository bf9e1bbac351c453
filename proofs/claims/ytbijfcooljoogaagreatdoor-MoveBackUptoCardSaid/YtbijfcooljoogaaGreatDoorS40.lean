/- move.begin of a Transpose by the empty order: run, by ranks. -/
import Derived.Test.YtbijfcooljoogaaGreatDoorS39
import Derived.Test.YtbijfcooljoogaaGreatDoorS37
namespace Go.Proofs.XGT
open Go.Vm Go
set_option maxRecDepth 100000
set_option maxHeartbeats 4000000
theorem mz1_eq (t a0 : Int) (x : List Int) : runC gBh Tryz.f42 6 [(3, [2, 4, 6, 9, 10, 11])] [nodeA strTR [] [121] (.os 2 0) (.os 1 0), .os 0 0] (hpTb false t [a0] x [lattr strPerm []]) ah =
  bif decide (1 ≤ 9223372036854775807 ∧ x.length ≤ 9223372036854775807) then 
    bif tenE t [a0] x != 0 then some (AEnd.ret [(AV.d Ty.str []).pr ((I 0).pr (AV.nils.pr (AV.d Ty.unit PUnit.unit))), I 1], [(0, AObj.arr 25 ((i64T).pair ((i64T).slice.pair ((i64T).slice.pair Ty.unit))) 0 false [(t, [a0], x, PUnit.unit)]), (1, AObj.arr 37 (Ty.str.pair ((i64T).pair ((i64T).pair ((i64T).pair (Ty.str.pair (((i64T).pair ((i64T).slice.pair ((i64T).slice.pair Ty.unit))).pair ((i64T).slice.pair Ty.unit))))))) 0 false [([112, 101, 114, 109], 7, 0, 0, [], (0, [], [], PUnit.unit), [], PUnit.unit)]), (2, AObj.arr 9 Ty.str 0 false [[120]])])
    else 
      bif !numOk t 0 then some (AEnd.ret [(AV.d Ty.str []).pr ((I 0).pr (AV.nils.pr (AV.d Ty.unit PUnit.unit))), I 5], [(0, AObj.arr 25 ((i64T).pair ((i64T).slice.pair ((i64T).slice.pair Ty.unit))) 0 false [(t, [a0], x, PUnit.unit)]), (1, AObj.arr 37 (Ty.str.pair ((i64T).pair ((i64T).pair ((i64T).pair (Ty.str.pair (((i64T).pair ((i64T).slice.pair ((i64T).slice.pair Ty.unit))).pair ((i64T).slice.pair Ty.unit))))))) 0 true [([112, 101, 114, 109], 7, 0, 0, [], (0, [], [], PUnit.unit), [], PUnit.unit)]), (2, AObj.arr 9 Ty.str 0 false [[120]])])
      else 
        bif countE [a0] != 0 then some (AEnd.ret [(AV.d Ty.str []).pr ((I 0).pr (AV.nils.pr (AV.d Ty.unit PUnit.unit))), I (countE [a0])], [(0, AObj.arr 25 ((i64T).pair ((i64T).slice.pair ((i64T).slice.pair Ty.unit))) 0 false [(t, [a0], x, PUnit.unit)]), (1, AObj.arr 37 (Ty.str.pair ((i64T).pair ((i64T).pair ((i64T).pair (Ty.str.pair (((i64T).pair ((i64T).slice.pair ((i64T).slice.pair Ty.unit))).pair ((i64T).slice.pair Ty.unit))))))) 0 true [([112, 101, 114, 109], 7, 0, 0, [], (0, [], [], PUnit.unit), [], PUnit.unit)]), (2, AObj.arr 9 Ty.str 0 false [[120]])])
        else 
          bif t == 6 then some (AEnd.ret [(AV.d Ty.str []).pr ((I 0).pr (AV.nils.pr (AV.d Ty.unit PUnit.unit))), I 4], [(0, AObj.arr 25 ((i64T).pair ((i64T).slice.pair ((i64T).slice.pair Ty.unit))) 0 false [(t, [a0], x, PUnit.unit)]), (1, AObj.arr 37 (Ty.str.pair ((i64T).pair ((i64T).pair ((i64T).pair (Ty.str.pair (((i64T).pair ((i64T).slice.pair ((i64T).slice.pair Ty.unit))).pair ((i64T).slice.pair Ty.unit))))))) 0 true [([112, 101, 114, 109], 7, 0, 0, [], (0, [], [], PUnit.unit), [], PUnit.unit)]), (2, AObj.arr 9 Ty.str 0 false [[120]])])
          else some (AEnd.ret [(AV.d Ty.str []).pr ((I 0).pr (AV.nils.pr (AV.d Ty.unit PUnit.unit))), I 4], [(0, AObj.arr 25 ((i64T).pair ((i64T).slice.pair ((i64T).slice.pair Ty.unit))) 0 false [(t, [a0], x, PUnit.unit)]), (1, AObj.arr 37 (Ty.str.pair ((i64T).pair ((i64T).pair ((i64T).pair (Ty.str.pair (((i64T).pair ((i64T).slice.pair ((i64T).slice.pair Ty.unit))).pair ((i64T).slice.pair Ty.unit))))))) 0 true [([112, 101, 114, 109], 7, 0, 0, [], (0, [], [], PUnit.unit), [], PUnit.unit)]), (2, AObj.arr 9 Ty.str 0 false [[120]])])
  else none := by kernel_rfl
theorem mz2_eq (t a0 a1 : Int) (x : List Int) : runC gBh Tryz.f42 6 [(3, [2, 4, 6, 9, 10, 11])] [nodeA strTR [] [121] (.os 2 0) (.os 1 0), .os 0 0] (hpTb false t [a0, a1] x [lattr strPerm []]) ah =
  bif decide (2 ≤ 9223372036854775807 ∧ x.length ≤ 9223372036854775807) then 
    bif tenE t [a0, a1] x != 0 then some (AEnd.ret [(AV.d Ty.str []).pr ((I 0).pr (AV.nils.pr (AV.d Ty.unit PUnit.unit))), I 1], [(0, AObj.arr 25 ((i64T).pair ((i64T).slice.pair ((i64T).slice.pair Ty.unit))) 0 false [(t, [a0, a1], x, PUnit.unit)]), (1, AObj.arr 37 (Ty.str.pair ((i64T).pair ((i64T).pair ((i64T).pair (Ty.str.pair (((i64T).pair ((i64T).slice.pair ((i64T).slice.pair Ty.unit))).pair ((i64T).slice.pair Ty.unit))))))) 0 false [([112, 101, 114, 109], 7, 0, 0, [], (0, [], [], PUnit.unit), [], PUnit.unit)]), (2, AObj.arr 9 Ty.str 0 false [[120]])])
    else 
      bif !numOk t 0 then some (AEnd.ret [(AV.d Ty.str []).pr ((I 0).pr (AV.nils.pr (AV.d Ty.unit PUnit.unit))), I 5], [(0, AObj.arr 25 ((i64T).pair ((i64T).slice.pair ((i64T).slice.pair Ty.unit))) 0 false [(t, [a0, a1], x, PUnit.unit)]), (1, AObj.arr 37 (Ty.str.pair ((i64T).pair ((i64T).pair ((i64T).pair (Ty.str.pair (((i64T).pair ((i64T).slice.pair ((i64T).slice.pair Ty.unit))).pair ((i64T).slice.pair Ty.unit))))))) 0 true [([112, 101, 114, 109], 7, 0, 0, [], (0, [], [], PUnit.unit), [], PUnit.unit)]), (2, AObj.arr 9 Ty.str 0 false [[120]])])
      else 
        bif countE [a0, a1] != 0 then some (AEnd.ret [(AV.d Ty.str []).pr ((I 0).pr (AV.nils.pr (AV.d Ty.unit PUnit.unit))), I (countE [a0, a1])], [(0, AObj.arr 25 ((i64T).pair ((i64T).slice.pair ((i64T).slice.pair Ty.unit))) 0 false [(t, [a0, a1], x, PUnit.unit)]), (1, AObj.arr 37 (Ty.str.pair ((i64T).pair ((i64T).pair ((i64T).pair (Ty.str.pair (((i64T).pair ((i64T).slice.pair ((i64T).slice.pair Ty.unit))).pair ((i64T).slice.pair Ty.unit))))))) 0 true [([112, 101, 114, 109], 7, 0, 0, [], (0, [], [], PUnit.unit), [], PUnit.unit)]), (2, AObj.arr 9 Ty.str 0 false [[120]])])
        else 
          bif t == 6 then some (AEnd.ret [(AV.d Ty.str []).pr ((I 0).pr (AV.nils.pr (AV.d Ty.unit PUnit.unit))), I 4], [(0, AObj.arr 25 ((i64T).pair ((i64T).slice.pair ((i64T).slice.pair Ty.unit))) 0 false [(t, [a0, a1], x, PUnit.unit)]), (1, AObj.arr 37 (Ty.str.pair ((i64T).pair ((i64T).pair ((i64T).pair (Ty.str.pair (((i64T).pair ((i64T).slice.pair ((i64T).slice.pair Ty.unit))).pair ((i64T).slice.pair Ty.unit))))))) 0 true [([112, 101, 114, 109], 7, 0, 0, [], (0, [], [], PUnit.unit), [], PUnit.unit)]), (2, AObj.arr 9 Ty.str 0 false [[120]])])
          else some (AEnd.ret [(AV.d Ty.str []).pr ((I 0).pr (AV.nils.pr (AV.d Ty.unit PUnit.unit))), I 4], [(0, AObj.arr 25 ((i64T).pair ((i64T).slice.pair ((i64T).slice.pair Ty.unit))) 0 false [(t, [a0, a1], x, PUnit.unit)]), (1, AObj.arr 37 (Ty.str.pair ((i64T).pair ((i64T).pair ((i64T).pair (Ty.str.pair (((i64T).pair ((i64T).slice.pair ((i64T).slice.pair Ty.unit))).pair ((i64T).slice.pair Ty.unit))))))) 0 true [([112, 101, 114, 109], 7, 0, 0, [], (0, [], [], PUnit.unit), [], PUnit.unit)]), (2, AObj.arr 9 Ty.str 0 false [[120]])])
  else none := by kernel_rfl
theorem mz3_eq (t a0 a1 a2 : Int) (x : List Int) : runC gBh Tryz.f42 6 [(3, [2, 4, 6, 9, 10, 11])] [nodeA strTR [] [121] (.os 2 0) (.os 1 0), .os 0 0] (hpTb false t [a0, a1, a2] x [lattr strPerm []]) ah =
  bif decide (3 ≤ 9223372036854775807 ∧ x.length ≤ 9223372036854775807) then 
    bif tenE t [a0, a1, a2] x != 0 then some (AEnd.ret [(AV.d Ty.str []).pr ((I 0).pr (AV.nils.pr (AV.d Ty.unit PUnit.unit))), I 1], [(0, AObj.arr 25 ((i64T).pair ((i64T).slice.pair ((i64T).slice.pair Ty.unit))) 0 false [(t, [a0, a1, a2], x, PUnit.unit)]), (1, AObj.arr 37 (Ty.str.pair ((i64T).pair ((i64T).pair ((i64T).pair (Ty.str.pair (((i64T).pair ((i64T).slice.pair ((i64T).slice.pair Ty.unit))).pair ((i64T).slice.pair Ty.unit))))))) 0 false [([112, 101, 114, 109], 7, 0, 0, [], (0, [], [], PUnit.unit), [], PUnit.unit)]), (2, AObj.arr 9 Ty.str 0 false [[120]])])
    else 
      bif !numOk t 0 then some (AEnd.ret [(AV.d Ty.str []).pr ((I 0).pr (AV.nils.pr (AV.d Ty.unit PUnit.unit))), I 5], [(0, AObj.arr 25 ((i64T).pair ((i64T).slice.pair ((i64T).slice.pair Ty.unit))) 0 false [(t, [a0, a1, a2], x, PUnit.unit)]), (1, AObj.arr 37 (Ty.str.pair ((i64T).pair ((i64T).pair ((i64T).pair (Ty.str.pair (((i64T).pair ((i64T).slice.pair ((i64T).slice.pair Ty.unit))).pair ((i64T).slice.pair Ty.unit))))))) 0 true [([112, 101, 114, 109], 7, 0, 0, [], (0, [], [], PUnit.unit), [], PUnit.unit)]), (2, AObj.arr 9 Ty.str 0 false [[120]])])
      else 
        bif countE [a0, a1, a2] != 0 then some (AEnd.ret [(AV.d Ty.str []).pr ((I 0).pr (AV.nils.pr (AV.d Ty.unit PUnit.unit))), I (countE [a0, a1, a2])], [(0, AObj.arr 25 ((i64T).pair ((i64T).slice.pair ((i64T).slice.pair Ty.unit))) 0 false [(t, [a0, a1, a2], x, PUnit.unit)]), (1, AObj.arr 37 (Ty.str.pair ((i64T).pair ((i64T).pair ((i64T).pair (Ty.str.pair (((i64T).pair ((i64T).slice.pair ((i64T).slice.pair Ty.unit))).pair ((i64T).slice.pair Ty.unit))))))) 0 true [([112, 101, 114, 109], 7, 0, 0, [], (0, [], [], PUnit.unit), [], PUnit.unit)]), (2, AObj.arr 9 Ty.str 0 false [[120]])])
        else 
          bif t == 6 then some (AEnd.ret [(AV.d Ty.str []).pr ((I 0).pr (AV.nils.pr (AV.d Ty.unit PUnit.unit))), I 4], [(0, AObj.arr 25 ((i64T).pair ((i64T).slice.pair ((i64T).slice.pair Ty.unit))) 0 false [(t, [a0, a1, a2], x, PUnit.unit)]), (1, AObj.arr 37 (Ty.str.pair ((i64T).pair ((i64T).pair ((i64T).pair (Ty.str.pair (((i64T).pair ((i64T).slice.pair ((i64T).slice.pair Ty.unit))).pair ((i64T).slice.pair Ty.unit))))))) 0 true [([112, 101, 114, 109], 7, 0, 0, [], (0, [], [], PUnit.unit), [], PUnit.unit)]), (2, AObj.arr 9 Ty.str 0 false [[120]])])
          else some (AEnd.ret [(AV.d Ty.str []).pr ((I 0).pr (AV.nils.pr (AV.d Ty.unit PUnit.unit))), I 4], [(0, AObj.arr 25 ((i64T).pair ((i64T).slice.pair ((i64T).slice.pair Ty.unit))) 0 false [(t, [a0, a1, a2], x, PUnit.unit)]), (1, AObj.arr 37 (Ty.str.pair ((i64T).pair ((i64T).pair ((i64T).pair (Ty.str.pair (((i64T).pair ((i64T).slice.pair ((i64T).slice.pair Ty.unit))).pair ((i64T).slice.pair Ty.unit))))))) 0 true [([112, 101, 114, 109], 7, 0, 0, [], (0, [], [], PUnit.unit), [], PUnit.unit)]), (2, AObj.arr 9 Ty.str 0 false [[120]])])
  else none := by kernel_rfl
theorem mz4_eq (t a0 a1 a2 a3 : Int) (x : List Int) : runC gBh Tryz.f42 6 [(3, [2, 4, 6, 9, 10, 11])] [nodeA strTR [] [121] (.os 2 0) (.os 1 0), .os 0 0] (hpTb false t [a0, a1, a2, a3] x [lattr strPerm []]) ah =
  bif decide (4 ≤ 9223372036854775807 ∧ x.length ≤ 9223372036854775807) then 
    bif tenE t [a0, a1, a2, a3] x != 0 then some (AEnd.ret [(AV.d Ty.str []).pr ((I 0).pr (AV.nils.pr (AV.d Ty.unit PUnit.unit))), I 1], [(0, AObj.arr 25 ((i64T).pair ((i64T).slice.pair ((i64T).slice.pair Ty.unit))) 0 false [(t, [a0, a1, a2, a3], x, PUnit.unit)]), (1, AObj.arr 37 (Ty.str.pair ((i64T).pair ((i64T).pair ((i64T).pair (Ty.str.pair (((i64T).pair ((i64T).slice.pair ((i64T).slice.pair Ty.unit))).pair ((i64T).slice.pair Ty.unit))))))) 0 false [([112, 101, 114, 109], 7, 0, 0, [], (0, [], [], PUnit.unit), [], PUnit.unit)]), (2, AObj.arr 9 Ty.str 0 false [[120]])])
    else 
      bif !numOk t 0 then some (AEnd.ret [(AV.d Ty.str []).pr ((I 0).pr (AV.nils.pr (AV.d Ty.unit PUnit.unit))), I 5], [(0, AObj.arr 25 ((i64T).pair ((i64T).slice.pair ((i64T).slice.pair Ty.unit))) 0 false [(t, [a0, a1, a2, a3], x, PUnit.unit)]), (1, AObj.arr 37 (Ty.str.pair ((i64T).pair ((i64T).pair ((i64T).pair (Ty.str.pair (((i64T).pair ((i64T).slice.pair ((i64T).slice.pair Ty.unit))).pair ((i64T).slice.pair Ty.unit))))))) 0 true [([112, 101, 114, 109], 7, 0, 0, [], (0, [], [], PUnit.unit), [], PUnit.unit)]), (2, AObj.arr 9 Ty.str 0 false [[120]])])
      else 
        bif countE [a0, a1, a2, a3] != 0 then some (AEnd.ret [(AV.d Ty.str []).pr ((I 0).pr (AV.nils.pr (AV.d Ty.unit PUnit.unit))), I (countE [a0, a1, a2, a3])], [(0, AObj.arr 25 ((i64T).pair ((i64T).slice.pair ((i64T).slice.pair Ty.unit))) 0 false [(t, [a0, a1, a2, a3], x, PUnit.unit)]), (1, AObj.arr 37 (Ty.str.pair ((i64T).pair ((i64T).pair ((i64T).pair (Ty.str.pair (((i64T).pair ((i64T).slice.pair ((i64T).slice.pair Ty.unit))).pair ((i64T).slice.pair Ty.unit))))))) 0 true [([112, 101, 114, 109], 7, 0, 0, [], (0, [], [], PUnit.unit), [], PUnit.unit)]), (2, AObj.arr 9 Ty.str 0 false [[120]])])
        else 
          bif t == 6 then some (AEnd.ret [(AV.d Ty.str []).pr ((I 0).pr (AV.nils.pr (AV.d Ty.unit PUnit.unit))), I 4], [(0, AObj.arr 25 ((i64T).pair ((i64T).slice.pair ((i64T).slice.pair Ty.unit))) 0 false [(t, [a0, a1, a2, a3], x, PUnit.unit)]), (1, AObj.arr 37 (Ty.str.pair ((i64T).pair ((i64T).pair ((i64T).pair (Ty.str.pair (((i64T).pair ((i64T).slice.pair ((i64T).slice.pair Ty.unit))).pair ((i64T).slice.pair Ty.unit))))))) 0 true [([112, 101, 114, 109], 7, 0, 0, [], (0, [], [], PUnit.unit), [], PUnit.unit)]), (2, AObj.arr 9 Ty.str 0 false [[120]])])
          else some (AEnd.ret [(AV.d Ty.str []).pr ((I 0).pr (AV.nils.pr (AV.d Ty.unit PUnit.unit))), I 4], [(0, AObj.arr 25 ((i64T).pair ((i64T).slice.pair ((i64T).slice.pair Ty.unit))) 0 false [(t, [a0, a1, a2, a3], x, PUnit.unit)]), (1, AObj.arr 37 (Ty.str.pair ((i64T).pair ((i64T).pair ((i64T).pair (Ty.str.pair (((i64T).pair ((i64T).slice.pair ((i64T).slice.pair Ty.unit))).pair ((i64T).slice.pair Ty.unit))))))) 0 true [([112, 101, 114, 109], 7, 0, 0, [], (0, [], [], PUnit.unit), [], PUnit.unit)]), (2, AObj.arr 9 Ty.str 0 false [[120]])])
  else none := by kernel_rfl
theorem mz5_eq (t a0 a1 a2 a3 a4 : Int) (x : List Int) : runC gBh Tryz.f42 6 [(3, [2, 4, 6, 9, 10, 11])] [nodeA strTR [] [121] (.os 2 0) (.os 1 0), .os 0 0] (hpTb false t [a0, a1, a2, a3, a4] x [lattr strPerm []]) ah =
  bif decide (5 ≤ 9223372036854775807 ∧ x.length ≤ 9223372036854775807) then 
    bif tenE t [a0, a1, a2, a3, a4] x != 0 then some (AEnd.ret [(AV.d Ty.str []).pr ((I 0).pr (AV.nils.pr (AV.d Ty.unit PUnit.unit))), I 1], [(0, AObj.arr 25 ((i64T).pair ((i64T).slice.pair ((i64T).slice.pair Ty.unit))) 0 false [(t, [a0, a1, a2, a3, a4], x, PUnit.unit)]), (1, AObj.arr 37 (Ty.str.pair ((i64T).pair ((i64T).pair ((i64T).pair (Ty.str.pair (((i64T).pair ((i64T).slice.pair ((i64T).slice.pair Ty.unit))).pair ((i64T).slice.pair Ty.unit))))))) 0 false [([112, 101, 114, 109], 7, 0, 0, [], (0, [], [], PUnit.unit), [], PUnit.unit)]), (2, AObj.arr 9 Ty.str 0 false [[120]])])
    else 
      bif !numOk t 0 then some (AEnd.ret [(AV.d Ty.str []).pr ((I 0).pr (AV.nils.pr (AV.d Ty.unit PUnit.unit))), I 5], [(0, AObj.arr 25 ((i64T).pair ((i64T).slice.pair ((i64T).slice.pair Ty.unit))) 0 false [(t, [a0, a1, a2, a3, a4], x, PUnit.unit)]), (1, AObj.arr 37 (Ty.str.pair ((i64T).pair ((i64T).pair ((i64T).pair (Ty.str.pair (((i64T).pair ((i64T).slice.pair ((i64T).slice.pair Ty.unit))).pair ((i64T).slice.pair Ty.unit))))))) 0 true [([112, 101, 114, 109], 7, 0, 0, [], (0, [], [], PUnit.unit), [], PUnit.unit)]), (2, AObj.arr 9 Ty.str 0 false [[120]])])
      else 
        bif countE [a0, a1, a2, a3, a4] != 0 then some (AEnd.ret [(AV.d Ty.str []).pr ((I 0).pr (AV.nils.pr (AV.d Ty.unit PUnit.unit))), I (countE [a0, a1, a2, a3, a4])], [(0, AObj.arr 25 ((i64T).pair ((i64T).slice.pair ((i64T).slice.pair Ty.unit))) 0 false [(t, [a0, a1, a2, a3, a4], x, PUnit.unit)]), (1, AObj.arr 37 (Ty.str.pair ((i64T).pair ((i64T).pair ((i64T).pair (Ty.str.pair (((i64T).pair ((i64T).slice.pair ((i64T).slice.pair Ty.unit))).pair ((i64T).slice.pair Ty.unit))))))) 0 true [([112, 101, 114, 109], 7, 0, 0, [], (0, [], [], PUnit.unit), [], PUnit.unit)]), (2, AObj.arr 9 Ty.str 0 false [[120]])])
        else 
          bif t == 6 then some (AEnd.ret [(AV.d Ty.str []).pr ((I 0).pr (AV.nils.pr (AV.d Ty.unit PUnit.unit))), I 4], [(0, AObj.arr 25 ((i64T).pair ((i64T).slice.pair ((i64T).slice.pair Ty.unit))) 0 false [(t, [a0, a1, a2, a3, a4], x, PUnit.unit)]), (1, AObj.arr 37 (Ty.str.pair ((i64T).pair ((i64T).pair ((i64T).pair (Ty.str.pair (((i64T).pair ((i64T).slice.pair ((i64T).slice.pair Ty.unit))).pair ((i64T).slice.pair Ty.unit))))))) 0 true [([112, 101, 114, 109], 7, 0, 0, [], (0, [], [], PUnit.unit), [], PUnit.unit)]), (2, AObj.arr 9 Ty.str 0 false [[120]])])
          else some (AEnd.ret [(AV.d Ty.str []).pr ((I 0).pr (AV.nils.pr (AV.d Ty.unit PUnit.unit))), I 4], [(0, AObj.arr 25 ((i64T).pair ((i64T).slice.pair ((i64T).slice.pair Ty.unit))) 0 false [(t, [a0, a1, a2, a3, a4], x, PUnit.unit)]), (1, AObj.arr 37 (Ty.str.pair ((i64T).pair ((i64T).pair ((i64T).pair (Ty.str.pair (((i64T).pair ((i64T).slice.pair ((i64T).slice.pair Ty.unit))).pair ((i64T).slice.pair Ty.unit))))))) 0 true [([112, 101, 114, 109], 7, 0, 0, [], (0, [], [], PUnit.unit), [], PUnit.unit)]), (2, AObj.arr 9 Ty.str 0 false [[120]])])
  else none := by kernel_rfl
theorem mz6_eq (t a0 a1 a2 a3 a4 a5 : Int) (x : List Int) : runC gBh Tryz.f42 6 [(3, [2, 4, 6, 9, 10, 11])] [nodeA strTR [] [121] (.os 2 0) (.os 1 0), .os 0 0] (hpTb false t [a0, a1, a2, a3, a4, a5] x [lattr strPerm []]) ah =
  bif decide (6 ≤ 9223372036854775807 ∧ x.length ≤ 9223372036854775807) then 
    bif tenE t [a0, a1, a2, a3, a4, a5] x != 0 then some (AEnd.ret [(AV.d Ty.str []).pr ((I 0).pr (AV.nils.pr (AV.d Ty.unit PUnit.unit))), I 1], [(0, AObj.arr 25 ((i64T).pair ((i64T).slice.pair ((i64T).slice.pair Ty.unit))) 0 false [(t, [a0, a1, a2, a3, a4, a5], x, PUnit.unit)]), (1, AObj.arr 37 (Ty.str.pair ((i64T).pair ((i64T).pair ((i64T).pair (Ty.str.pair (((i64T).pair ((i64T).slice.pair ((i64T).slice.pair Ty.unit))).pair ((i64T).slice.pair Ty.unit))))))) 0 false [([112, 101, 114, 109], 7, 0, 0, [], (0, [], [], PUnit.unit), [], PUnit.unit)]), (2, AObj.arr 9 Ty.str 0 false [[120]])])
    else 
      bif !numOk t 0 then some (AEnd.ret [(AV.d Ty.str []).pr ((I 0).pr (AV.nils.pr (AV.d Ty.unit PUnit.unit))), I 5], [(0, AObj.arr 25 ((i64T).pair ((i64T).slice.pair ((i64T).slice.pair Ty.unit))) 0 false [(t, [a0, a1, a2, a3, a4, a5], x, PUnit.unit)]), (1, AObj.arr 37 (Ty.str.pair ((i64T).pair ((i64T).pair ((i64T).pair (Ty.str.pair (((i64T).pair ((i64T).slice.pair ((i64T).slice.pair Ty.unit))).pair ((i64T).slice.pair Ty.unit))))))) 0 true [([112, 101, 114, 109], 7, 0, 0, [], (0, [], [], PUnit.unit), [], PUnit.unit)]), (2, AObj.arr 9 Ty.str 0 false [[120]])])
      else 
        bif countE [a0, a1, a2, a3, a4, a5] != 0 then some (AEnd.ret [(AV.d Ty.str []).pr ((I 0).pr (AV.nils.pr (AV.d Ty.unit PUnit.unit))), I (countE [a0, a1, a2, a3, a4, a5])], [(0, AObj.arr 25 ((i64T).pair ((i64T).slice.pair ((i64T).slice.pair Ty.unit))) 0 false [(t, [a0, a1, a2, a3, a4, a5], x, PUnit.unit)]), (1, AObj.arr 37 (Ty.str.pair ((i64T).pair ((i64T).pair ((i64T).pair (Ty.str.pair (((i64T).pair ((i64T).slice.pair ((i64T).slice.pair Ty.unit))).pair ((i64T).slice.pair Ty.unit))))))) 0 true [([112, 101, 114, 109], 7, 0, 0, [], (0, [], [], PUnit.unit), [], PUnit.unit)]), (2, AObj.arr 9 Ty.str 0 false [[120]])])
        else 
          bif t == 6 then some (AEnd.ret [(AV.d Ty.str []).pr ((I 0).pr (AV.nils.pr (AV.d Ty.unit PUnit.unit))), I 4], [(0, AObj.arr 25 ((i64T).pair ((i64T).slice.pair ((i64T).slice.pair Ty.unit))) 0 false [(t, [a0, a1, a2, a3, a4, a5], x, PUnit.unit)]), (1, AObj.arr 37 (Ty.str.pair ((i64T).pair ((i64T).pair ((i64T).pair (Ty.str.pair (((i64T).pair ((i64T).slice.pair ((i64T).slice.pair Ty.unit))).pair ((i64T).slice.pair Ty.unit))))))) 0 true [([112, 101, 114, 109], 7, 0, 0, [], (0, [], [], PUnit.unit), [], PUnit.unit)]), (2, AObj.arr 9 Ty.str 0 false [[120]])])
          else some (AEnd.ret [(AV.d Ty.str []).pr ((I 0).pr (AV.nils.pr (AV.d Ty.unit PUnit.unit))), I 4], [(0, AObj.arr 25 ((i64T).pair ((i64T).slice.pair ((i64T).slice.pair Ty.unit))) 0 false [(t, [a0, a1, a2, a3, a4, a5], x, PUnit.unit)]), (1, AObj.arr 37 (Ty.str.pair ((i64T).pair ((i64T).pair ((i64T).pair (Ty.str.pair (((i64T).pair ((i64T).slice.pair ((i64T).slice.pair Ty.unit))).pair ((i64T).slice.pair Ty.unit))))))) 0 true [([112, 101, 114, 109], 7, 0, 0, [], (0, [], [], PUnit.unit), [], PUnit.unit)]), (2, AObj.arr 9 Ty.str 0 false [[120]])])
  else none := by kernel_rfl
end Go.Proofs.XGT
namespace Go.Proofs.XGT
open Go.Vm Go
set_option maxRecDepth 100000
set_option maxHeartbeats 4000000
noncomputable def C_nuz : Code := codeOf Tryz.f160
noncomputable def cf_nuz : Cfg := ⟨47, 6, 2, [(4, [3, 4, 5, 14, 21, 22, 23])], true⟩
def hpNz (pm : List Int) : LHp := [(0, .arr 37 (Y1) 0 true [lattr strPerm pm]), (1, .arr 9 .str 0 false [[120]])]
theorem nuz_eqH (hl : Hl) (c lo hi p : Int) (pm : List Int) : runH g106 Tryz.f160 6 [(4, [3, 4, 5, 14, 21, 22, 23])] [4] hl [nodeA strTR [] [121] (.os 1 0) (.os 0 0), .d .str strPerm, .nils, I c, I lo, I hi] (hpNz (p :: pm)) ah =
  (app [] (p :: pm)).bind fun v0 =>
    hl (cL (cL (cR (cL (cR (cR (cR C_nuz))))))) _ { fr := mkFr 6 [(3, I c), (4, I lo), (5, I hi), (14, AV.nils), (21, AV.os 2 0), (22, I (Int.ofNat v0.length)), (23, I 0)], hp := [(0, AObj.arr 37 (Ty.str.pair ((i64T).pair ((i64T).pair ((i64T).pair (Ty.str.pair (((i64T).pair ((i64T).slice.pair ((i64T).slice.pair Ty.unit))).pair ((i64T).slice.pair Ty.unit))))))) 0 true [([112, 101, 114, 109], 7, 0, 0, [], (0, [], [], PUnit.unit), p :: pm, PUnit.unit)]), (1, AObj.arr 9 Ty.str 0 false [[120]]), (2, AObj.arr 2 (i64T) 0 false v0)], nx := 5 } (blkK 0 (seqH g106 cf_nuz [4] hl (cR (cR (cR (cR C_nuz)))) (endC Tryz.prog 2 Tryz.f160.results.toList ah))) := by kernel_rfl
theorem nuz_eq (c lo hi p : Int) (pm : List Int) : runC g106 Tryz.f160 6 [(4, [3, 4, 5, 14, 21, 22, 23])] [nodeA strTR [] [121] (.os 1 0) (.os 0 0), .d .str strPerm, .nils, I c, I lo, I hi] (hpNz (p :: pm)) ah =
  (app [] (p :: pm)).bind fun v0 =>
    (hlp g106 cf_nuz) (cL (cL (cR (cL (cR (cR (cR C_nuz))))))) _ { fr := mkFr 6 [(3, I c), (4, I lo), (5, I hi), (14, AV.nils), (21, AV.os 2 0), (22, I (Int.ofNat v0.length)), (23, I 0)], hp := [(0, AObj.arr 37 (Ty.str.pair ((i64T).pair ((i64T).pair ((i64T).pair (Ty.str.pair (((i64T).pair ((i64T).slice.pair ((i64T).slice.pair Ty.unit))).pair ((i64T).slice.pair Ty.unit))))))) 0 true [([112, 101, 114, 109], 7, 0, 0, [], (0, [], [], PUnit.unit), p :: pm, PUnit.unit)]), (1, AObj.arr 9 Ty.str 0 false [[120]]), (2, AObj.arr 2 (i64T) 0 false v0)], nx := 5 } (blkK 0 (seqH g106 cf_nuz [4] (hlp g106 cf_nuz) (cR (cR (cR (cR C_nuz)))) (endC Tryz.prog 2 Tryz.f160.results.toList ah))) := runH_runC.trans (nuz_eqH (hlp g106 cf_nuz) c lo hi p pm)
def stNz0 (c lo hi : Int) (pm L : List Int) (i : Int) : LSt := { fr := mkFr 6 [(3, I c), (4, I lo), (5, I hi), (14, AV.nils), (21, AV.os 2 0), (22, I (Int.ofNat L.length)), (23, I i)], hp := hpNz pm ++ [(2, AObj.arr 2 i64T 0 false L)], nx := 5 }
theorem nuz_st0H (hl : Hl) (c lo hi : Int) (pm L : List Int) (i : Int) (n : Nat) {R : Type} (k : AEx → LSt → Option R) : lpH g106 cf_nuz [4] hl (cL (cL (cR (cL (cR (cR (cR C_nuz))))))) (n + 1) (stNz0 c lo hi pm L i) k =
  bif decide (i < Int.ofNat L.length) then (idx L i).bind fun v1 =>
      (L[i.toNat]?).bind fun v2 =>
        bif decide (lo ≤ v2) then 
          bif !decide (v2 ≤ hi) then k (AEx.panic 123 4) { fr := mkFr 6 [(3, I c), (4, I lo), (5, I hi), (14, AV.nils), (16, I v2), (21, AV.os 2 0), (22, I (Int.ofNat L.length)), (23, I i), (24, B true), (25, AV.oe 2 0 i.toNat), (26, I v2), (27, I lo), (28, I v2), (29, B (decide (lo ≤ v2))), (30, B true), (31, I v2), (32, I hi), (33, B (decide (v2 ≤ hi))), (34, B (decide (v2 ≤ hi)))], hp := [(0, AObj.arr 37 (Ty.str.pair ((i64T).pair ((i64T).pair ((i64T).pair (Ty.str.pair (((i64T).pair ((i64T).slice.pair ((i64T).slice.pair Ty.unit))).pair ((i64T).slice.pair Ty.unit))))))) 0 true [([112, 101, 114, 109], 7, 0, 0, [], (0, [], [], PUnit.unit), pm, PUnit.unit)]), (1, AObj.arr 9 Ty.str 0 false [[120]]), (2, AObj.arr 2 (i64T) 0 false L)], nx := 5 }
          else lpH g106 cf_nuz [4] hl (cL (cL (cR (cL (cR (cR (cR C_nuz))))))) n { fr := mkFr 6 [(3, I c), (4, I lo), (5, I hi), (14, AV.os 2 0), (21, AV.os 3 0), (22, I (Int.ofNat L.length)), (23, I (IntKind.i64.wrap (i + 1)))], hp := [(0, AObj.arr 37 (Ty.str.pair ((i64T).pair ((i64T).pair ((i64T).pair (Ty.str.pair (((i64T).pair ((i64T).slice.pair ((i64T).slice.pair Ty.unit))).pair ((i64T).slice.pair Ty.unit))))))) 0 true [([112, 101, 114, 109], 7, 0, 0, [], (0, [], [], PUnit.unit), pm, PUnit.unit)]), (1, AObj.arr 9 Ty.str 0 false [[120]]), (2, AObj.arr 3 (i64T) 0 false [v2]), (3, AObj.arr 2 (i64T) 0 false L)], nx := 6 } k
        else k (AEx.panic 123 4) { fr := mkFr 6 [(3, I c), (4, I lo), (5, I hi), (14, AV.nils), (16, I v2), (21, AV.os 2 0), (22, I (Int.ofNat L.length)), (23, I i), (24, B true), (25, AV.oe 2 0 i.toNat), (26, I v2), (27, I lo), (28, I v2), (29, B (decide (lo ≤ v2))), (30, B false), (31, AV.tup []), (32, AV.tup []), (33, AV.tup []), (34, B false)], hp := [(0, AObj.arr 37 (Ty.str.pair ((i64T).pair ((i64T).pair ((i64T).pair (Ty.str.pair (((i64T).pair ((i64T).slice.pair ((i64T).slice.pair Ty.unit))).pair ((i64T).slice.pair Ty.unit))))))) 0 true [([112, 101, 114, 109], 7, 0, 0, [], (0, [], [], PUnit.unit), pm, PUnit.unit)]), (1, AObj.arr 9 Ty.str 0 false [[120]]), (2, AObj.arr 2 (i64T) 0 false L)], nx := 5 }
  else k (AEx.exit 0) { fr := mkFr 6 [(3, I c), (4, I lo), (5, I hi), (14, AV.nils), (21, AV.os 2 0), (22, I (Int.ofNat L.length)), (23, I i), (24, B false)], hp := [(0, AObj.arr 37 (Ty.str.pair ((i64T).pair ((i64T).pair ((i64T).pair (Ty.str.pair (((i64T).pair ((i64T).slice.pair ((i64T).slice.pair Ty.unit))).pair ((i64T).slice.pair Ty.unit))))))) 0 true [([112, 101, 114, 109], 7, 0, 0, [], (0, [], [], PUnit.unit), pm, PUnit.unit)]), (1, AObj.arr 9 Ty.str 0 false [[120]]), (2, AObj.arr 2 (i64T) 0 false L)], nx := 5 } := by kernel_rfl
theorem nuz_st0 (c lo hi : Int) (pm L : List Int) (i : Int) (n : Nat) {R : Type} (k : AEx → LSt → Option R) : lp g106 cf_nuz (cL (cL (cR (cL (cR (cR (cR C_nuz))))))) (n + 1) (stNz0 c lo hi pm L i) k =
  bif decide (i < Int.ofNat L.length) then (idx L i).bind fun v1 =>
      (L[i.toNat]?).bind fun v2 =>
        bif decide (lo ≤ v2) then 
          bif !decide (v2 ≤ hi) then k (AEx.panic 123 4) { fr := mkFr 6 [(3, I c), (4, I lo), (5, I hi), (14, AV.nils), (16, I v2), (21, AV.os 2 0), (22, I (Int.ofNat L.length)), (23, I i), (24, B true), (25, AV.oe 2 0 i.toNat), (26, I v2), (27, I lo), (28, I v2), (29, B (decide (lo ≤ v2))), (30, B true), (31, I v2), (32, I hi), (33, B (decide (v2 ≤ hi))), (34, B (decide (v2 ≤ hi)))], hp := [(0, AObj.arr 37 (Ty.str.pair ((i64T).pair ((i64T).pair ((i64T).pair (Ty.str.pair (((i64T).pair ((i64T).slice.pair ((i64T).slice.pair Ty.unit))).pair ((i64T).slice.pair Ty.unit))))))) 0 true [([112, 101, 114, 109], 7, 0, 0, [], (0, [], [], PUnit.unit), pm, PUnit.unit)]), (1, AObj.arr 9 Ty.str 0 false [[120]]), (2, AObj.arr 2 (i64T) 0 false L)], nx := 5 }
          else lp g106 cf_nuz (cL (cL (cR (cL (cR (cR (cR C_nuz))))))) n { fr := mkFr 6 [(3, I c), (4, I lo), (5, I hi), (14, AV.os 2 0), (21, AV.os 3 0), (22, I (Int.ofNat L.length)), (23, I (IntKind.i64.wrap (i + 1)))], hp := [(0, AObj.arr 37 (Ty.str.pair ((i64T).pair ((i64T).pair ((i64T).pair (Ty.str.pair (((i64T).pair ((i64T).slice.pair ((i64T).slice.pair Ty.unit))).pair ((i64T).slice.pair Ty.unit))))))) 0 true [([112, 101, 114, 109], 7, 0, 0, [], (0, [], [], PUnit.unit), pm, PUnit.unit)]), (1, AObj.arr 9 Ty.str 0 false [[120]]), (2, AObj.arr 3 (i64T) 0 false [v2]), (3, AObj.arr 2 (i64T) 0 false L)], nx := 6 } k
        else k (AEx.panic 123 4) { fr := mkFr 6 [(3, I c), (4, I lo), (5, I hi), (14, AV.nils), (16, I v2), (21, AV.os 2 0), (22, I (Int.ofNat L.length)), (23, I i), (24, B true), (25, AV.oe 2 0 i.toNat), (26, I v2), (27, I lo), (28, I v2), (29, B (decide (lo ≤ v2))), (30, B false), (31, AV.tup []), (32, AV.tup []), (33, AV.tup []), (34, B false)], hp := [(0, AObj.arr 37 (Ty.str.pair ((i64T).pair ((i64T).pair ((i64T).pair (Ty.str.pair (((i64T).pair ((i64T).slice.pair ((i64T).slice.pair Ty.unit))).pair ((i64T).slice.pair Ty.unit))))))) 0 true [([112, 101, 114, 109], 7, 0, 0, [], (0, [], [], PUnit.unit), pm, PUnit.unit)]), (1, AObj.arr 9 Ty.str 0 false [[120]]), (2, AObj.arr 2 (i64T) 0 false L)], nx := 5 }
  else k (AEx.exit 0) { fr := mkFr 6 [(3, I c), (4, I lo), (5, I hi), (14, AV.nils), (21, AV.os 2 0), (22, I (Int.ofNat L.length)), (23, I i), (24, B false)], hp := [(0, AObj.arr 37 (Ty.str.pair ((i64T).pair ((i64T).pair ((i64T).pair (Ty.str.pair (((i64T).pair ((i64T).slice.pair ((i64T).slice.pair Ty.unit))).pair ((i64T).slice.pair Ty.unit))))))) 0 true [([112, 101, 114, 109], 7, 0, 0, [], (0, [], [], PUnit.unit), pm, PUnit.unit)]), (1, AObj.arr 9 Ty.str 0 false [[120]]), (2, AObj.arr 2 (i64T) 0 false L)], nx := 5 } := by
  have h := nuz_st0H (hlp g106 cf_nuz) c lo hi pm L i n k
  simp only [lpH_lp] at h
  exact h
noncomputable def KNz : AEx → LSt → Option (AEnd × LHp) := (blkK 0 (seqH g106 cf_nuz [4] (hlp g106 cf_nuz) (cR (cR (cR (cR C_nuz)))) (endC Tryz.prog 2 Tryz.f160.results.toList ah)))
theorem nz_p (c lo hi v i l : Int) (b : Bool) (pm L : List Int) : KNz (.panic 123 4) (stNp c lo hi v .nils i l b 2 2 (hpNz pm ++ [(2, AObj.arr 2 i64T 0 false L)]) 5) =
  some (AEnd.panic 123 4, [(0, AObj.arr 37 (Ty.str.pair ((i64T).pair ((i64T).pair ((i64T).pair (Ty.str.pair (((i64T).pair ((i64T).slice.pair ((i64T).slice.pair Ty.unit))).pair ((i64T).slice.pair Ty.unit))))))) 0 true [([112, 101, 114, 109], 7, 0, 0, [], (0, [], [], PUnit.unit), pm, PUnit.unit)]), (1, AObj.arr 9 Ty.str 0 false [[120]])]) := by kernel_rfl
theorem nz_q (c lo hi v i l : Int) (pm L : List Int) : KNz (.panic 123 4) (stNq c lo hi v .nils i l 2 2 (hpNz pm ++ [(2, AObj.arr 2 i64T 0 false L)]) 5) =
  some (AEnd.panic 123 4, [(0, AObj.arr 37 (Ty.str.pair ((i64T).pair ((i64T).pair ((i64T).pair (Ty.str.pair (((i64T).pair ((i64T).slice.pair ((i64T).slice.pair Ty.unit))).pair ((i64T).slice.pair Ty.unit))))))) 0 true [([112, 101, 114, 109], 7, 0, 0, [], (0, [], [], PUnit.unit), pm, PUnit.unit)]), (1, AObj.arr 9 Ty.str 0 false [[120]])]) := by kernel_rfl
theorem nuz_run {c p : Int} {pm : List Int} (hl : (p :: pm).length ≤ 2147483648) : runC g106 Tryz.f160 6 [(4, [3, 4, 5, 14, 21, 22, 23])] [nodeA strTR [] [121] (.os 1 0) (.os 0 0), .d .str strPerm, .nils, I c, I 0, I (-1)] (hpNz (p :: pm)) ah = some (.panic 123 4, hpNz (p :: pm)) := by
  have e1 : app [] (p :: pm) = some (p :: pm) := app_eq (by simp only [List.length_nil, lim]; omega)
  have key : runC g106 Tryz.f160 6 [(4, [3, 4, 5, 14, 21, 22, 23])] [nodeA strTR [] [121] (.os 1 0) (.os 0 0), .d .str strPerm, .nils, I c, I 0, I (-1)] (hpNz (p :: pm)) ah = lp g106 cf_nuz (cL (cL (cR (cL (cR (cR (cR C_nuz))))))) fu (stNz0 c 0 (-1) (p :: pm) (p :: pm) 0) KNz := (nuz_eq c 0 (-1) p pm).trans (by rw [e1, Option.bind_some]; kernel_rfl)
  obtain ⟨n, hn⟩ : ∃ n, fu = n + 1 := ⟨18446744073709551615, rfl⟩
  refine key.trans ?_
  rw [hn, nuz_st0, decide_eq_true (show ((0 : Int) < Int.ofNat (p :: pm).length) by simp only [Int.ofNat_eq_natCast, List.length_cons]; omega), cond_true, show idx (p :: pm) 0 = some p from rfl, Option.bind_some, show (p :: pm)[(0 : Int).toNat]? = some p from rfl, Option.bind_some]
  cases h2 : decide ((0 : Int) ≤ p) with
  | false =>
    rw [cond_false]
    have x := nz_q c 0 (-1) p 0 (Int.ofNat (p :: pm).length) (p :: pm) (p :: pm)
    unfold stNq at x
    rw [h2] at x
    exact x
  | true =>
    have h3 : decide (p ≤ -1) = false := decide_eq_false (by have := of_decide_eq_true h2; omega)
    rw [cond_true, h3, Bool.not_false, cond_true]
    have x := nz_p c 0 (-1) p 0 (Int.ofNat (p :: pm).length) false (p :: pm) (p :: pm)
    unfold stNp at x
    rw [h2, h3] at x
    exact x
def nuzL : List Int → Tq
  | [] => .no
  | p :: pm => .br (decide ((p :: pm).length ≤ 2147483648)) (.leaf (.panic 123 4) (hpNz (p :: pm))) .no
def nuzT : List AV → LHp → Tq
  | [n, .d .str nm, .nils, .d (.int .i64) c, .d (.int .i64) lo, .d (.int .i64) hi], [(0, .arr 37 ((.pair .str (.pair (.int .i64) (.pair (.int .i64) (.pair (.int .i64) (.pair .str (.pair (.pair (.int .i64) (.pair (.slice (.int .i64)) (.pair (.slice (.int .i64)) .unit))) (.pair (.slice (.int .i64)) .unit)))))))) 0 true [a]), (1, .arr 9 .str 0 false ins)] =>
    (match nodeP n with
    | some (op, nm2, out, .os 1 0, .os 0 0) => gate (decide (op = strTR) && decide (nm2 = []) && decide (out = [121]) && decide (ins = [[120]]) && decide (nm = strPerm) && isL a strPerm && decide (lo = 0) && decide (hi = -1)) (nuzL a.2.2.2.2.2.2.1)
    | _ => .no)
  | _, _ => .no
theorem nuzT_ok : FnE.OK e0.P e0.gam 160 (treeE nuzT) := by
  have h1 : FnE.OK e0.P e0.gam 160 (execFnC g106 Tryz.f160 6 [(4, [3, 4, 5, 14, 21, 22, 23])]) := y160_ok
  refine ⟨fun _ _ _ => Tq.eq _ _, fun args hs ae hs' h => ?_⟩
  have h' : (nuzT args hs).run ah = some (ae, hs') := h
  clear h
  unfold nuzT at h'
  split at h'
  · split at h'
    · rename_i hn
      rw [nodeP_some hn]
      obtain ⟨hb, h2⟩ := gate_run h'
      clear h'
      simp only [Bool.and_eq_true, decide_eq_true_eq] at hb
      obtain ⟨⟨⟨⟨⟨⟨⟨b1, b2⟩, b3⟩, b4⟩, b5⟩, b6⟩, b7⟩, b8⟩ := hb
      subst b1 b2 b3 b4 b5 b7 b8
      obtain ⟨l, rfl⟩ := isL_eq b6
      change (nuzL l).run ah = _ at h2
      cases l with
      | nil => cases h2
      | cons p pm =>
        obtain ⟨hl, h3⟩ := Tq.br_no h2
        exact h1.okC ((nuz_run (of_decide_eq_true hl)).trans h3)
    · cases h'
  · cases h'
noncomputable def mkZ : FnE := execFnC (g113.add 160 (treeElse nuzT y160)) Tryz.f162 6 [(6, [1, 6, 7, 24, 25, 26])]
theorem mkZ_ok : FnE.OK e0.P e0.gam 162 mkZ := execFnC_ok (g113_good.add (treeElse_ok nuzT_ok y160_ok)) hmix Tryz.func162 Tryz.call162 (by decide +kernel) rfl
noncomputable def mvZ : FnE := execFnC (g149.add 162 mkZ) Tryz.f127 7 []
theorem mvZ_ok : FnE.OK e0.P e0.gam 127 mvZ := execFnC_ok (g149_good.add mkZ_ok) hmix Tryz.func127 Tryz.call127 (by decide +kernel) rfl
noncomputable def dmZ : FnE := execFnC (g150.add 127 mvZ) Tryz.f94 8 [(56, [3, 132, 133, 134])]
theorem dmZ_ok : FnE.OK e0.P e0.gam 94 dmZ := execFnC_ok (g150_good.add mvZ_ok) hmix Tryz.func94 Tryz.call94 (by decide +kernel) rfl
noncomputable def ouZ : FnE := execFnDC (g152.add 94 dmZ) Tryz.f55 7 [(5, [1, 2, 4, 5, 26, 27, 28])] dd55
theorem ouZ_ok : FnE.OK e0.P e0.gam 55 ouZ := execFnDC_ok (g152_good.add dmZ_ok) (execFnD_ok (D := dd55) (g152_good.add dmZ_ok) hmix Tryz.func55 Tryz.call55 rfl rfl (by decide +kernel) rfl Tryz.func89 Tryz.call89 rfl rfl (by decide +kernel))
noncomputable def gBz : Env := g212.add 55 ouZ
theorem gBz_good : gBz.Good := g212_good.add ouZ_ok
theorem mb0_eq (t p : Int) (pm x : List Int) : runC gBz Tryz.f42 6 [(3, [2, 4, 6, 9, 10, 11])] [nodeA strTR [] [121] (.os 2 0) (.os 1 0), .os 0 0] (hpTb false t [] x [lattr strPerm (p :: pm)]) ah =
  bif decide (0 ≤ 9223372036854775807 ∧ x.length ≤ 9223372036854775807) then 
    bif tenE t [] x != 0 then some (AEnd.ret [(AV.d Ty.str []).pr ((I 0).pr (AV.nils.pr (AV.d Ty.unit PUnit.unit))), I 1], [(0, AObj.arr 25 ((i64T).pair ((i64T).slice.pair ((i64T).slice.pair Ty.unit))) 0 false [(t, [], x, PUnit.unit)]), (1, AObj.arr 37 (Ty.str.pair ((i64T).pair ((i64T).pair ((i64T).pair (Ty.str.pair (((i64T).pair ((i64T).slice.pair ((i64T).slice.pair Ty.unit))).pair ((i64T).slice.pair Ty.unit))))))) 0 false [([112, 101, 114, 109], 7, 0, 0, [], (0, [], [], PUnit.unit), p :: pm, PUnit.unit)]), (2, AObj.arr 9 Ty.str 0 false [[120]])])
    else 
      bif !numOk t 0 then some (AEnd.ret [(AV.d Ty.str []).pr ((I 0).pr (AV.nils.pr (AV.d Ty.unit PUnit.unit))), I 5], [(0, AObj.arr 25 ((i64T).pair ((i64T).slice.pair ((i64T).slice.pair Ty.unit))) 0 false [(t, [], x, PUnit.unit)]), (1, AObj.arr 37 (Ty.str.pair ((i64T).pair ((i64T).pair ((i64T).pair (Ty.str.pair (((i64T).pair ((i64T).slice.pair ((i64T).slice.pair Ty.unit))).pair ((i64T).slice.pair Ty.unit))))))) 0 true [([112, 101, 114, 109], 7, 0, 0, [], (0, [], [], PUnit.unit), p :: pm, PUnit.unit)]), (2, AObj.arr 9 Ty.str 0 false [[120]])])
      else 
        bif t == 6 then 
          bif decide ((p :: pm).length ≤ 2147483648) then some (AEnd.ret [(AV.d Ty.str []).pr ((I 0).pr (AV.nils.pr (AV.d Ty.unit PUnit.unit))), I 4], [(0, AObj.arr 25 ((i64T).pair ((i64T).slice.pair ((i64T).slice.pair Ty.unit))) 0 false [(t, [], x, PUnit.unit)]), (1, AObj.arr 37 (Ty.str.pair ((i64T).pair ((i64T).pair ((i64T).pair (Ty.str.pair (((i64T).pair ((i64T).slice.pair ((i64T).slice.pair Ty.unit))).pair ((i64T).slice.pair Ty.unit))))))) 0 true [([112, 101, 114, 109], 7, 0, 0, [], (0, [], [], PUnit.unit), p :: pm, PUnit.unit)]), (2, AObj.arr 9 Ty.str 0 false [[120]])])
          else none
        else 
          bif decide ((p :: pm).length ≤ 2147483648) then some (AEnd.ret [(AV.d Ty.str []).pr ((I 0).pr (AV.nils.pr (AV.d Ty.unit PUnit.unit))), I 4], [(0, AObj.arr 25 ((i64T).pair ((i64T).slice.pair ((i64T).slice.pair Ty.unit))) 0 false [(t, [], x, PUnit.unit)]), (1, AObj.arr 37 (Ty.str.pair ((i64T).pair ((i64T).pair ((i64T).pair (Ty.str.pair (((i64T).pair ((i64T).slice.pair ((i64T).slice.pair Ty.unit))).pair ((i64T).slice.pair Ty.unit))))))) 0 true [([112, 101, 114, 109], 7, 0, 0, [], (0, [], [], PUnit.unit), p :: pm, PUnit.unit)]), (2, AObj.arr 9 Ty.str 0 false [[120]])])
          else none
  else none := by kernel_rfl
theorem noE_ok (f : Nat) : FnE.OK e0.P e0.gam f (treeE fun _ _ => .no) := ⟨fun _ _ _ => Tq.eq _ _, fun _ _ _ _ h => by cases h⟩
noncomputable def gB0 : Env := g212.add 55 (treeE fun _ _ => .no)
theorem gB0_good : gB0.Good := g212_good.add (noE_ok _)
theorem mbe_eq (t : Int) (d pm x : List Int) : runC gB0 Tryz.f42 6 [(3, [2, 4, 6, 9, 10, 11])] [nodeA strTR [] [121] (.os 2 0) (.os 1 0), .os 0 0] (hpTb false t d x [lattr strPerm pm]) ah =
  bif decide (d.length ≤ 9223372036854775807 ∧ x.length ≤ 9223372036854775807) then 
    bif tenE t d x != 0 then some (AEnd.ret [(AV.d Ty.str []).pr ((I 0).pr (AV.nils.pr (AV.d Ty.unit PUnit.unit))), I 1], [(0, AObj.arr 25 ((i64T).pair ((i64T).slice.pair ((i64T).slice.pair Ty.unit))) 0 false [(t, d, x, PUnit.unit)]), (1, AObj.arr 37 (Ty.str.pair ((i64T).pair ((i64T).pair ((i64T).pair (Ty.str.pair (((i64T).pair ((i64T).slice.pair ((i64T).slice.pair Ty.unit))).pair ((i64T).slice.pair Ty.unit))))))) 0 false [([112, 101, 114, 109], 7, 0, 0, [], (0, [], [], PUnit.unit), pm, PUnit.unit)]), (2, AObj.arr 9 Ty.str 0 false [[120]])])
    else none
  else none := by kernel_rfl
end Go.Proofs.XGT
namespace Go.Proofs.XGT
open Go.Vm Go
set_option maxRecDepth 100000
set_option maxHeartbeats 1000000
def dupP (p : Int) : List Int → Bool → Bool
  | [], k => k
  | q :: r, k => bif p == q then true else dupP p r k
/-- is a number there twice (pre stands ahead)? -/
def dupL (pre : List Int) : List Int → Bool
  | [] => false
  | p :: r => dupP p pre (dupL (pre ++ [p]) r)
/-- l is an order of the dims d -/
def ordD (d l : List Int) : Bool := numC (Int.ofNat d.length) 0 (Int.ofNat d.length - 1) l && !dupL [] l
def permI (d l : List Int) : List Int := l.map fun p => d.getD p.toNat 0
theorem numC_in {c lo hi : Int} {l : List Int} (h : numC c lo hi l = true) : (∀ v ∈ l, lo ≤ v ∧ v ≤ hi) ∧ (l.length : Int) = c := by
  unfold numC at h
  simp only [Bool.and_eq_true, beq_iff_eq] at h
  refine ⟨fun v hv => ?_, h.2⟩
  have := List.all_eq_true.1 h.1 v hv
  simp only [Bool.and_eq_true, decide_eq_true_eq] at this
  exact this
theorem dupP_no {p : Int} {k : Bool} : ∀ {pre : List Int}, dupP p pre k = false → (∀ q ∈ pre, p ≠ q) ∧ k = false
  | [], h => ⟨fun _ hq => (by cases hq), h⟩
  | q :: r, h => by
    unfold dupP at h
    cases e : p == q with
    | true => rw [e] at h; cases h
    | false =>
      rw [e, cond_false] at h
      obtain ⟨h1, h2⟩ := dupP_no h
      refine ⟨fun z hz => ?_, h2⟩
      rcases List.mem_cons.1 hz with rfl | hz
      · exact fun h3 => by rw [h3, beq_self_eq_true] at e; cases e
      · exact h1 z hz
theorem dupL_no : ∀ {l pre : List Int}, dupL pre l = false → pre.Nodup → (pre ++ l).Nodup
  | [], pre, _, hp => by rw [List.append_nil]; exact hp
  | p :: r, pre, h, hp => by
    unfold dupL at h
    obtain ⟨h1, h2⟩ := dupP_no h
    have h3 := dupL_no h2 (List.nodup_append.2 ⟨hp, by simp, fun a ha b hb => by
      rw [List.mem_singleton] at hb
      subst hb
      exact fun e => h1 a ha e.symm⟩)
    rw [List.append_assoc] at h3
    exact h3
theorem nodup_ints {L : List Nat} (h : (ints L).Nodup) : L.Nodup := by
  unfold ints at h
  exact (List.pairwise_map.1 h).imp fun hab e => hab (by rw [e])
theorem ord_nat {d l : List Int} (hc : countE d = 0) (h : ordD d l = true) : ∃ D L : List Nat, d = ints D ∧ l = ints L ∧ (∀ x ∈ D, 1 ≤ x) ∧ prodN D ≤ 65536 ∧ D.length ≤ 6 ∧ L.length = D.length ∧ (∀ j ∈ L, j < D.length) ∧ L.Perm (List.range L.length) := by
  obtain ⟨D, rfl, _, h1, h2, h3⟩ := nat_dims hc
  unfold ordD at h
  simp only [Bool.and_eq_true, Bool.not_eq_true'] at h
  obtain ⟨hn, hd⟩ := h
  obtain ⟨n1, n2⟩ := numC_in hn
  rw [ints_len] at n1 n2
  have el : ints (l.map Int.toNat) = l := ints_nat fun v hv => (n1 v hv).1
  have nd : (l.map Int.toNat).Nodup := nodup_ints (by rw [el]; exact dupL_no hd (by simp))
  have hL : ∀ j ∈ l.map Int.toNat, j < D.length := fun j hj => by
    obtain ⟨v, hv, rfl⟩ := List.mem_map.1 hj
    have := n1 v hv
    simp only [Int.ofNat_eq_natCast] at this
    omega
  have hlen : (l.map Int.toNat).length = D.length := by rw [List.length_map]; simp only [Int.ofNat_eq_natCast] at n2; omega
  refine ⟨D, l.map Int.toNat, rfl, el.symm, h1, h2, h3, hlen, hL, ?_⟩
  rw [hlen]
  exact nodup_perm _ nd hL hlen
theorem ints_getD (D : List Nat) (k : Nat) : (ints D).getD k 0 = ((D.getD k 0 : Nat) : Int) := by
  unfold ints
  rw [List.getD_eq_getElem?_getD, List.getD_eq_getElem?_getD, List.getElem?_map]
  cases D[k]? <;> rfl
theorem permI_ints (D L : List Nat) : permI (ints D) (ints L) = ints (pmN D L) := by
  unfold permI pmN
  unfold ints
  rw [List.map_map, List.map_map]
  refine List.map_congr_left fun k _ => ?_
  exact ints_getD D k
theorem count_ints {D : List Nat} (h1 : ∀ x ∈ D, 1 ≤ x) (h2 : prodN D ≤ 65536) (h3 : D.length ≤ 6) : countE (ints D) = 0 := by
  refine (countE_mk (xs := ints D) (fun v hv => ?_) (by rw [ints_len]; exact h3) (by rw [prodI_ints]; omega)).1
  obtain ⟨y, hy, rfl⟩ := List.mem_map.1 hv
  have := h1 y hy
  omega
theorem mem_pmN {D L : List Nat} (hL : L.Perm (List.range L.length)) (hl : L.length = D.length) : (pmN D L).Perm D := pmN_perm (by rw [← hl]; exact hL)
theorem count_permI {d l : List Int} (hc : countE d = 0) (h : ordD d l = true) : countE (permI d l) = 0 := by
  obtain ⟨D, L, rfl, rfl, h1, h2, h3, h4, h5, h6⟩ := ord_nat hc h
  have hp := mem_pmN h6 h4
  rw [permI_ints]
  exact count_ints (fun x hx => h1 x (hp.subset hx)) (by rw [prodN_perm hp]; exact h2) (by rw [hp.length_eq]; exact h3)
theorem idx_in {xs : List Int} {p : Int} (h0 : 0 ≤ p) (h1 : p < xs.length) : idx xs p = some (xs.getD p.toNat 0) := by
  unfold idx
  rw [if_pos h0, List.getD_eq_getElem?_getD, List.getElem?_eq_getElem (by omega)]
  rfl
theorem get_in {xs : List Int} {p : Int} (h0 : 0 ≤ p) (h1 : p < xs.length) : xs[p.toNat]? = some (xs.getD p.toNat 0) := by
  rw [List.getD_eq_getElem?_getD, List.getElem?_eq_getElem (by omega)]
  rfl
theorem strI_len (d : List Int) : (strI d).length = d.length := by unfold strI; rw [ints_len, strN_len, List.length_map]
theorem strN_le : ∀ {D : List Nat}, (∀ x ∈ D, 1 ≤ x) → ∀ s ∈ strN D, s ≤ prodN D
  | [], _, s, hs => by cases hs
  | d :: r, h, s, hs => by
    have h1 := h d (by simp)
    have h2 : ∀ x ∈ r, 1 ≤ x := fun x hx => h x (by simp [hx])
    have h4 : prodN r ≤ d * prodN r := Nat.le_mul_of_pos_left _ h1
    rcases List.mem_cons.1 (show s ∈ prodN r :: strN r from hs) with rfl | hs
    · exact h4
    · exact Nat.le_trans (strN_le h2 s hs) h4
theorem far_nat {s : Nat} (h : s ≤ 65536) : farB (s : Int) = false := by
  unfold farB
  rw [decide_eq_false (by omega), cond_false]
  exact decide_eq_false (by omega)
theorem fine_ints {D S : List Nat} (h1 : ∀ x ∈ D, 1 ≤ x) (h2 : prodN D ≤ 65536) (h3 : D.length ≤ 6) (h4 : S.length = D.length) (h5 : ∀ s ∈ S, s ≤ 65536) {o : Nat} (ho : o < 65536) : okFine (o : Int) (ints D) (ints S) = true := by
  refine decide_eq_true ⟨count_ints h1 h2 h3, by rw [ints_len, ints_len]; exact h4, by omega, by omega, fun x hx => ?_⟩
  obtain ⟨y, hy, rfl⟩ := List.mem_map.1 hx
  exact far_nat (h5 y hy)
theorem ints_toNat (D : List Nat) : (ints D).map Int.toNat = D := by
  unfold ints
  rw [List.map_map]
  exact List.map_id' D
theorem strI_ints (D : List Nat) : strI (ints D) = ints (strN D) := by unfold strI; rw [ints_toNat]
theorem fine_str {d : List Int} (hc : countE d = 0) : okFine 0 d (strI d) = true := by
  obtain ⟨D, rfl, _, h1, h2, h3⟩ := nat_dims hc
  rw [strI_ints]
  exact fine_ints (o := 0) h1 h2 h3 (strN_len _) (fun s hs => Nat.le_trans (strN_le h1 s hs) h2) (by decide)
theorem getD_mem {L : List Nat} {j : Nat} (h : j < L.length) : L.getD j 0 ∈ L := by
  rw [List.getD_eq_getElem?_getD, List.getElem?_eq_getElem h]
  exact List.getElem_mem h
theorem ordB_of {d l : List Int} (hc : countE d = 0) (h : ordD d l = true) : ordB l = true := by
  obtain ⟨D, L, rfl, rfl, h1, h2, h3, h4, h5, h6⟩ := ord_nat hc h
  refine decide_eq_true ⟨by rw [ints_len]; omega, fun m hm => ?_, fun a ha b hb e => ?_⟩
  · rw [ints_len] at hm
    rw [ints_getD, ints_len]
    have := h5 _ (getD_mem hm)
    omega
  · rw [ints_len] at ha hb
    rw [ints_getD, ints_getD] at e
    have e' : L.getD a 0 = L.getD b 0 := by omega
    have nd : L.Nodup := (h6.nodup_iff).2 List.nodup_range
    rcases Nat.lt_trichotomy a b with hab | hab | hab
    · have := List.pairwise_iff_getElem.1 nd a b ha hb hab
      rw [List.getD_eq_getElem?_getD, List.getD_eq_getElem?_getD, List.getElem?_eq_getElem ha, List.getElem?_eq_getElem hb] at e'
      exact absurd e' this
    · exact hab
    · have := List.pairwise_iff_getElem.1 nd b a hb ha hab
      rw [List.getD_eq_getElem?_getD, List.getD_eq_getElem?_getD, List.getElem?_eq_getElem ha, List.getElem?_eq_getElem hb] at e'
      exact absurd e'.symm this
/-- the opposite of an order: where each number stands in it -/
def oppN (L : List Nat) : List Nat := (List.range L.length).map fun k => L.idxOf k
theorem opp_opp {L : List Nat} (h : L.Perm (List.range L.length)) : Opp L (oppN L) := by
  have nd : L.Nodup := (h.nodup_iff).2 List.nodup_range
  have lt : ∀ j, j < L.length → L.getD j 0 < L.length := fun j hj => List.mem_range.1 (h.subset (getD_mem hj))
  refine ⟨by simp [oppN], fun j hj => ?_, lt, h⟩
  have e : (oppN L).getD (L.getD j 0) 0 = L.idxOf (L.getD j 0) := by
    unfold oppN
    rw [getD_map (by rw [List.length_range]; exact lt j hj)]
    congr 1
    rw [List.getD_eq_getElem?_getD, List.getElem?_range (lt j hj)]
    rfl
  rw [e, List.getD_eq_getElem?_getD, List.getElem?_eq_getElem hj]
  exact nd.idxOf_getElem j hj
/-- turned by an order: all numbers are there -/
theorem okRG_turn {d l x : List Int} (hc : countE d = 0) (h : ordD d l = true) (hx : (x.length : Int) = prodI d) : okRG 0 (permI d l) (permI (strI d) l) x = true := by
  obtain ⟨D, L, rfl, rfl, h1, h2, h3, h4, h5, h6⟩ := ord_nat hc h
  have hp := mem_pmN h6 h4
  have ho := opp_opp h6
  rw [prodI_ints] at hx
  rw [strI_ints, permI_ints, permI_ints]
  unfold okRG
  rw [Bool.and_eq_true]
  constructor
  · refine fine_ints (o := 0) (fun x hx => h1 x (hp.subset hx)) (by rw [prodN_perm hp]; exact h2) (by rw [hp.length_eq]; exact h3) (by rw [pmN_len, pmN_len]) (fun s hs => ?_) (by decide)
    obtain ⟨j, hj, rfl⟩ := List.mem_map.1 hs
    have hlt : j < (strN D).length := by rw [strN_len]; exact h5 j hj
    exact Nat.le_trans (strN_le h1 _ (getD_mem hlt)) h2
  · refine decide_eq_true fun q hq => ?_
    rw [ints_toNat] at hq
    rw [ints_toNat, ints_toNat, Int.toNat_zero, Nat.zero_add]
    have := turn_lt ho h4.symm hq
    omega
def wprod : List Int → Int
  | [] => 1
  | a :: r => IntKind.i64.wrap (wprod r * a)
def strW : List Int → List Int
  | [] => []
  | _ :: r => wprod r :: strW r
theorem wprod_eq : ∀ {D : List Nat}, (∀ x ∈ D, 1 ≤ x) → prodN D ≤ 65536 → wprod (ints D) = (prodN D : Nat)
  | [], _, _ => rfl
  | d :: r, h, hp => by
    have h1 := h d (by simp)
    have h2 : ∀ x ∈ r, 1 ≤ x := fun x hx => h x (by simp [hx])
    have hp : d * prodN r ≤ 65536 := hp
    have h4 : prodN r ≤ d * prodN r := Nat.le_mul_of_pos_left _ h1
    show IntKind.i64.wrap (wprod (ints r) * (d : Int)) = ((d * prodN r : Nat) : Int)
    rw [wprod_eq h2 (Nat.le_trans h4 hp), ← Int.natCast_mul, Nat.mul_comm, wrap64 (by omega) (by omega)]
theorem strW_ints : ∀ {D : List Nat}, (∀ x ∈ D, 1 ≤ x) → prodN D ≤ 65536 → strW (ints D) = ints (strN D)
  | [], _, _ => rfl
  | d :: r, h, hp => by
    have h1 := h d (by simp)
    have h2 : ∀ x ∈ r, 1 ≤ x := fun x hx => h x (by simp [hx])
    have hp : d * prodN r ≤ 65536 := hp
    have h4 : prodN r ≤ d * prodN r := Nat.le_mul_of_pos_left _ h1
    show wprod (ints r) :: strW (ints r) = ((prodN r : Nat) : Int) :: ints (strN r)
    rw [wprod_eq h2 (Nat.le_trans h4 hp), strW_ints h2 (Nat.le_trans h4 hp)]
theorem strW_eq {d : List Int} (hc : countE d = 0) : strW d = strI d := by
  obtain ⟨D, rfl, _, h1, h2, h3⟩ := nat_dims hc
  rw [strI_ints]
  exact strW_ints h1 h2
end Go.Proofs.XGT
namespace Go.Proofs.XGT
open Go.Vm Go
set_option maxRecDepth 100000
set_option maxHeartbeats 4000000
def okV (t : Int) : AV := (AV.d Ty.str [121]).pr ((I t).pr ((AV.os 3 0).pr (AV.d Ty.unit PUnit.unit)))
def mbA (t : Int) (d x l : List Int) : Option (AEnd × LHp) :=
  bif ordD d l then some (.ret [okV t, I 0], hpTb true t d x [lattr strPerm l] ++ [(3, .arr 3 i64T 0 false (permI d l))]) else some (.ret [zeroV, I 4], hpTb true t d x [lattr strPerm l])
theorem numC_len {c lo hi : Int} {l : List Int} (h : numC c lo hi l = true) : (l.length : Int) = c := (numC_in h).2

theorem mbA1 {t a0 p0 : Int} {x : List Int} (h : x.length ≤ maxLen) (ht : tenE t [a0] x = 0) : runC gBh Tryz.f42 6 [(3, [2, 4, 6, 9, 10, 11])] [nodeA strTR [] [121] (.os 2 0) (.os 1 0), .os 0 0] (hpTb false t [a0] x [lattr strPerm [p0]]) ah = mbA t [a0] x [p0] := by
  obtain ⟨n1, n2, _⟩ := ten_ok ht
  unfold mbA
  rw [show ordD [a0] [p0] = (numC 1 0 0 [p0] && !false) from rfl]
  rw [mh1_eq, decide_eq_true (show 1 ≤ 9223372036854775807 ∧ x.length ≤ 9223372036854775807 from ⟨by decide, h⟩), ht, n1, n2]
  cases hn : numC 1 0 0 [p0] with
  | false => cases t == 6 <;> rfl
  | true =>
    obtain ⟨hm, _⟩ := numC_in hn
    have g0 := hm p0 (by simp)
    have i0 : idx [a0] p0 = some ([a0].getD p0.toNat 0) := idx_in g0.1 (show p0 < (1 : Int) by omega)
    rw [i0]
    simp only [Option.bind_some]
    have ho : ordD [a0] [p0] = true := by rw [show ordD [a0] [p0] = (numC 1 0 0 [p0] && !false) from rfl, hn]; rfl
    have hp : countE [[a0].getD p0.toNat 0] = 0 := count_permI n2 ho
    rw [hp]
    cases t == 6 <;> rfl
theorem mbN1 {t a0 p : Int} {pm x : List Int} (h : x.length ≤ maxLen) (ht : tenE t [a0] x = 0) (hl : (p :: pm).length ≤ 2147483648) (hn : numC 1 0 0 (p :: pm) = false) : runC gBn Tryz.f42 6 [(3, [2, 4, 6, 9, 10, 11])] [nodeA strTR [] [121] (.os 2 0) (.os 1 0), .os 0 0] (hpTb false t [a0] x [lattr strPerm (p :: pm)]) ah = mbA t [a0] x (p :: pm) := by
  obtain ⟨n1, n2, _⟩ := ten_ok ht
  unfold mbA
  rw [show ordD [a0] (p :: pm) = (numC 1 0 0 (p :: pm) && !dupL [] (p :: pm)) from rfl]
  rw [mn1_eq, decide_eq_true (show 1 ≤ 9223372036854775807 ∧ x.length ≤ 9223372036854775807 from ⟨by decide, h⟩), ht, n1, n2, decide_eq_true hl, hn]
  cases t == 6 <;> rfl
theorem mbZ1 {t a0 : Int} {x : List Int} (h : x.length ≤ maxLen) (ht : tenE t [a0] x = 0) : runC gBh Tryz.f42 6 [(3, [2, 4, 6, 9, 10, 11])] [nodeA strTR [] [121] (.os 2 0) (.os 1 0), .os 0 0] (hpTb false t [a0] x [lattr strPerm []]) ah = mbA t [a0] x [] := by
  obtain ⟨n1, n2, _⟩ := ten_ok ht
  unfold mbA
  rw [show ordD [a0] [] = false from rfl]
  rw [mz1_eq, decide_eq_true (show 1 ≤ 9223372036854775807 ∧ x.length ≤ 9223372036854775807 from ⟨by decide, h⟩), ht, n1, n2]
  cases t == 6 <;> rfl
theorem mtR1 {t a0 p0 : Int} {x : List Int} (ht : tenE t [a0] x = 0) (ho : ordD [a0] [p0] = true) : runC gMq Tryz.f47 6 [(3, [2, 3, 5, 14, 15]), (9, [3, 7, 25, 26, 27])] [nodeA strTR [] [121] (.os 1 0) (.os 0 0), .d (Y0) (t, [a0], x, ())] (hpN true false [lattr strPerm [p0]] [[120]]) ah = some (.ret [.os 2 0], hpN true false [lattr strPerm [p0]] [[120]] ++ [(2, .arr 2 i64T 0 false (rdG 0 (permI [a0] [p0]) (permI (strI [a0]) [p0]) x))]) := by
  obtain ⟨n1, n2, n3, _⟩ := ten_ok ht
  obtain ⟨_, _, _, c4⟩ := count_ok n2
  have hs : [1] = strI [a0] := (show [1] = strW [a0] from rfl).trans (strW_eq n2)
  have hk := okRG_turn n2 ho (by rw [← c4]; exact n3)
  have hb := ordB_of n2 ho
  have hm := (numC_in ((Bool.and_eq_true _ _).mp ho).1).1
  have hsl : ((strI [a0]).length : Int) = 1 := by rw [strI_len]; rfl
  have g0 : 0 ≤ p0 ∧ p0 ≤ 1 - 1 := hm p0 (by simp)
  rw [mq1_eq, hs, n2, fine_str n2, hb]
  have i0 : idx [a0] p0 = some ([a0].getD p0.toNat 0) := idx_in g0.1 (show p0 < (1 : Int) by omega)
  have j0 : [a0][p0.toNat]? = some ([a0].getD p0.toNat 0) := get_in g0.1 (show p0 < (1 : Int) by omega)
  have k0 : idx (strI [a0]) p0 = some ((strI [a0]).getD p0.toNat 0) := idx_in g0.1 (by omega)
  have l0 : (strI [a0])[p0.toNat]? = some ((strI [a0]).getD p0.toNat 0) := get_in g0.1 (by omega)
  rw [i0, j0, k0, l0]
  simp only [Option.bind_some]
  rw [show okRG 0 [[a0].getD p0.toNat 0] [(strI [a0]).getD p0.toNat 0] x = true from hk]
  rfl
theorem mbA2 {t a0 a1 p0 p1 : Int} {x : List Int} (h : x.length ≤ maxLen) (ht : tenE t [a0, a1] x = 0) : runC gBh Tryz.f42 6 [(3, [2, 4, 6, 9, 10, 11])] [nodeA strTR [] [121] (.os 2 0) (.os 1 0), .os 0 0] (hpTb false t [a0, a1] x [lattr strPerm [p0, p1]]) ah = mbA t [a0, a1] x [p0, p1] := by
  obtain ⟨n1, n2, _⟩ := ten_ok ht
  unfold mbA
  rw [show ordD [a0, a1] [p0, p1] = (numC 2 0 1 [p0, p1] && !(bif p1 == p0 then true else false)) from rfl]
  rw [mh2_eq, decide_eq_true (show 2 ≤ 9223372036854775807 ∧ x.length ≤ 9223372036854775807 from ⟨by decide, h⟩), ht, n1, n2]
  cases hn : numC 2 0 1 [p0, p1] with
  | false => cases t == 6 <;> rfl
  | true =>
    obtain ⟨hm, _⟩ := numC_in hn
    have g0 := hm p0 (by simp)
    have i0 : idx [a0, a1] p0 = some ([a0, a1].getD p0.toNat 0) := idx_in g0.1 (show p0 < (2 : Int) by omega)
    have g1 := hm p1 (by simp)
    have i1 : idx [a0, a1] p1 = some ([a0, a1].getD p1.toNat 0) := idx_in g1.1 (show p1 < (2 : Int) by omega)
    rw [i0, i1]
    simp only [Option.bind_some]
    cases e10 : p1 == p0 with
    | true => cases t == 6 <;> rfl
    | false =>
      have ho : ordD [a0, a1] [p0, p1] = true := by rw [show ordD [a0, a1] [p0, p1] = (numC 2 0 1 [p0, p1] && !(bif p1 == p0 then true else false)) from rfl, hn, e10]; rfl
      have hp : countE [[a0, a1].getD p0.toNat 0, [a0, a1].getD p1.toNat 0] = 0 := count_permI n2 ho
      rw [hp]
      cases t == 6 <;> rfl
theorem mbN2 {t a0 a1 p : Int} {pm x : List Int} (h : x.length ≤ maxLen) (ht : tenE t [a0, a1] x = 0) (hl : (p :: pm).length ≤ 2147483648) (hn : numC 2 0 1 (p :: pm) = false) : runC gBn Tryz.f42 6 [(3, [2, 4, 6, 9, 10, 11])] [nodeA strTR [] [121] (.os 2 0) (.os 1 0), .os 0 0] (hpTb false t [a0, a1] x [lattr strPerm (p :: pm)]) ah = mbA t [a0, a1] x (p :: pm) := by
  obtain ⟨n1, n2, _⟩ := ten_ok ht
  unfold mbA
  rw [show ordD [a0, a1] (p :: pm) = (numC 2 0 1 (p :: pm) && !dupL [] (p :: pm)) from rfl]
  rw [mn2_eq, decide_eq_true (show 2 ≤ 9223372036854775807 ∧ x.length ≤ 9223372036854775807 from ⟨by decide, h⟩), ht, n1, n2, decide_eq_true hl, hn]
  cases t == 6 <;> rfl
theorem mbZ2 {t a0 a1 : Int} {x : List Int} (h : x.length ≤ maxLen) (ht : tenE t [a0, a1] x = 0) : runC gBh Tryz.f42 6 [(3, [2, 4, 6, 9, 10, 11])] [nodeA strTR [] [121] (.os 2 0) (.os 1 0), .os 0 0] (hpTb false t [a0, a1] x [lattr strPerm []]) ah = mbA t [a0, a1] x [] := by
  obtain ⟨n1, n2, _⟩ := ten_ok ht
  unfold mbA
  rw [show ordD [a0, a1] [] = false from rfl]
  rw [mz2_eq, decide_eq_true (show 2 ≤ 9223372036854775807 ∧ x.length ≤ 9223372036854775807 from ⟨by decide, h⟩), ht, n1, n2]
  cases t == 6 <;> rfl
theorem mtR2 {t a0 a1 p0 p1 : Int} {x : List Int} (ht : tenE t [a0, a1] x = 0) (ho : ordD [a0, a1] [p0, p1] = true) : runC gMq Tryz.f47 6 [(3, [2, 3, 5, 14, 15]), (9, [3, 7, 25, 26, 27])] [nodeA strTR [] [121] (.os 1 0) (.os 0 0), .d (Y0) (t, [a0, a1], x, ())] (hpN true false [lattr strPerm [p0, p1]] [[120]]) ah = some (.ret [.os 2 0], hpN true false [lattr strPerm [p0, p1]] [[120]] ++ [(2, .arr 2 i64T 0 false (rdG 0 (permI [a0, a1] [p0, p1]) (permI (strI [a0, a1]) [p0, p1]) x))]) := by
  obtain ⟨n1, n2, n3, _⟩ := ten_ok ht
  obtain ⟨_, _, _, c4⟩ := count_ok n2
  have hs : [IntKind.i64.wrap (1 * a1), 1] = strI [a0, a1] := (show [IntKind.i64.wrap (1 * a1), 1] = strW [a0, a1] from rfl).trans (strW_eq n2)
  have hk := okRG_turn n2 ho (by rw [← c4]; exact n3)
  have hb := ordB_of n2 ho
  have hm := (numC_in ((Bool.and_eq_true _ _).mp ho).1).1
  have hsl : ((strI [a0, a1]).length : Int) = 2 := by rw [strI_len]; rfl
  have g0 : 0 ≤ p0 ∧ p0 ≤ 2 - 1 := hm p0 (by simp)
  have g1 : 0 ≤ p1 ∧ p1 ≤ 2 - 1 := hm p1 (by simp)
  rw [mq2_eq, hs, n2, fine_str n2, hb]
  have i0 : idx [a0, a1] p0 = some ([a0, a1].getD p0.toNat 0) := idx_in g0.1 (show p0 < (2 : Int) by omega)
  have j0 : [a0, a1][p0.toNat]? = some ([a0, a1].getD p0.toNat 0) := get_in g0.1 (show p0 < (2 : Int) by omega)
  have k0 : idx (strI [a0, a1]) p0 = some ((strI [a0, a1]).getD p0.toNat 0) := idx_in g0.1 (by omega)
  have l0 : (strI [a0, a1])[p0.toNat]? = some ((strI [a0, a1]).getD p0.toNat 0) := get_in g0.1 (by omega)
  have i1 : idx [a0, a1] p1 = some ([a0, a1].getD p1.toNat 0) := idx_in g1.1 (show p1 < (2 : Int) by omega)
  have j1 : [a0, a1][p1.toNat]? = some ([a0, a1].getD p1.toNat 0) := get_in g1.1 (show p1 < (2 : Int) by omega)
  have k1 : idx (strI [a0, a1]) p1 = some ((strI [a0, a1]).getD p1.toNat 0) := idx_in g1.1 (by omega)
  have l1 : (strI [a0, a1])[p1.toNat]? = some ((strI [a0, a1]).getD p1.toNat 0) := get_in g1.1 (by omega)
  rw [i0, j0, k0, l0, i1, j1, k1, l1]
  simp only [Option.bind_some]
  rw [show okRG 0 [[a0, a1].getD p0.toNat 0, [a0, a1].getD p1.toNat 0] [(strI [a0, a1]).getD p0.toNat 0, (strI [a0, a1]).getD p1.toNat 0] x = true from hk]
  rfl
theorem mbA3 {t a0 a1 a2 p0 p1 p2 : Int} {x : List Int} (h : x.length ≤ maxLen) (ht : tenE t [a0, a1, a2] x = 0) : runC gBh Tryz.f42 6 [(3, [2, 4, 6, 9, 10, 11])] [nodeA strTR [] [121] (.os 2 0) (.os 1 0), .os 0 0] (hpTb false t [a0, a1, a2] x [lattr strPerm [p0, p1, p2]]) ah = mbA t [a0, a1, a2] x [p0, p1, p2] := by
  obtain ⟨n1, n2, _⟩ := ten_ok ht
  unfold mbA
  rw [show ordD [a0, a1, a2] [p0, p1, p2] = (numC 3 0 2 [p0, p1, p2] && !(bif p1 == p0 then true else (bif p2 == p0 then true else (bif p2 == p1 then true else false)))) from rfl]
  rw [mh3_eq, decide_eq_true (show 3 ≤ 9223372036854775807 ∧ x.length ≤ 9223372036854775807 from ⟨by decide, h⟩), ht, n1, n2]
  cases hn : numC 3 0 2 [p0, p1, p2] with
  | false => cases t == 6 <;> rfl
  | true =>
    obtain ⟨hm, _⟩ := numC_in hn
    have g0 := hm p0 (by simp)
    have i0 : idx [a0, a1, a2] p0 = some ([a0, a1, a2].getD p0.toNat 0) := idx_in g0.1 (show p0 < (3 : Int) by omega)
    have g1 := hm p1 (by simp)
    have i1 : idx [a0, a1, a2] p1 = some ([a0, a1, a2].getD p1.toNat 0) := idx_in g1.1 (show p1 < (3 : Int) by omega)
    have g2 := hm p2 (by simp)
    have i2 : idx [a0, a1, a2] p2 = some ([a0, a1, a2].getD p2.toNat 0) := idx_in g2.1 (show p2 < (3 : Int) by omega)
    rw [i0, i1, i2]
    simp only [Option.bind_some]
    cases e10 : p1 == p0 with
    | true => cases t == 6 <;> rfl
    | false =>
      cases e20 : p2 == p0 with
      | true => cases t == 6 <;> rfl
      | false =>
        cases e21 : p2 == p1 with
        | true => cases t == 6 <;> rfl
        | false =>
          have ho : ordD [a0, a1, a2] [p0, p1, p2] = true := by rw [show ordD [a0, a1, a2] [p0, p1, p2] = (numC 3 0 2 [p0, p1, p2] && !(bif p1 == p0 then true else (bif p2 == p0 then true else (bif p2 == p1 then true else false)))) from rfl, hn, e10, e20, e21]; rfl
          have hp : countE [[a0, a1, a2].getD p0.toNat 0, [a0, a1, a2].getD p1.toNat 0, [a0, a1, a2].getD p2.toNat 0] = 0 := count_permI n2 ho
          rw [hp]
          cases t == 6 <;> rfl
theorem mbN3 {t a0 a1 a2 p : Int} {pm x : List Int} (h : x.length ≤ maxLen) (ht : tenE t [a0, a1, a2] x = 0) (hl : (p :: pm).length ≤ 2147483648) (hn : numC 3 0 2 (p :: pm) = false) : runC gBn Tryz.f42 6 [(3, [2, 4, 6, 9, 10, 11])] [nodeA strTR [] [121] (.os 2 0) (.os 1 0), .os 0 0] (hpTb false t [a0, a1, a2] x [lattr strPerm (p :: pm)]) ah = mbA t [a0, a1, a2] x (p :: pm) := by
  obtain ⟨n1, n2, _⟩ := ten_ok ht
  unfold mbA
  rw [show ordD [a0, a1, a2] (p :: pm) = (numC 3 0 2 (p :: pm) && !dupL [] (p :: pm)) from rfl]
  rw [mn3_eq, decide_eq_true (show 3 ≤ 9223372036854775807 ∧ x.length ≤ 9223372036854775807 from ⟨by decide, h⟩), ht, n1, n2, decide_eq_true hl, hn]
  cases t == 6 <;> rfl
theorem mbZ3 {t a0 a1 a2 : Int} {x : List Int} (h : x.length ≤ maxLen) (ht : tenE t [a0, a1, a2] x = 0) : runC gBh Tryz.f42 6 [(3, [2, 4, 6, 9, 10, 11])] [nodeA strTR [] [121] (.os 2 0) (.os 1 0), .os 0 0] (hpTb false t [a0, a1, a2] x [lattr strPerm []]) ah = mbA t [a0, a1, a2] x [] := by
  obtain ⟨n1, n2, _⟩ := ten_ok ht
  unfold mbA
  rw [show ordD [a0, a1, a2] [] = false from rfl]
  rw [mz3_eq, decide_eq_true (show 3 ≤ 9223372036854775807 ∧ x.length ≤ 9223372036854775807 from ⟨by decide, h⟩), ht, n1, n2]
  cases t == 6 <;> rfl
theorem mtR3 {t a0 a1 a2 p0 p1 p2 : Int} {x : List Int} (ht : tenE t [a0, a1, a2] x = 0) (ho : ordD [a0, a1, a2] [p0, p1, p2] = true) : runC gMq Tryz.f47 6 [(3, [2, 3, 5, 14, 15]), (9, [3, 7, 25, 26, 27])] [nodeA strTR [] [121] (.os 1 0) (.os 0 0), .d (Y0) (t, [a0, a1, a2], x, ())] (hpN true false [lattr strPerm [p0, p1, p2]] [[120]]) ah = some (.ret [.os 2 0], hpN true false [lattr strPerm [p0, p1, p2]] [[120]] ++ [(2, .arr 2 i64T 0 false (rdG 0 (permI [a0, a1, a2] [p0, p1, p2]) (permI (strI [a0, a1, a2]) [p0, p1, p2]) x))]) := by
  obtain ⟨n1, n2, n3, _⟩ := ten_ok ht
  obtain ⟨_, _, _, c4⟩ := count_ok n2
  have hs : [IntKind.i64.wrap (IntKind.i64.wrap (1 * a2) * a1), IntKind.i64.wrap (1 * a2), 1] = strI [a0, a1, a2] := (show [IntKind.i64.wrap (IntKind.i64.wrap (1 * a2) * a1), IntKind.i64.wrap (1 * a2), 1] = strW [a0, a1, a2] from rfl).trans (strW_eq n2)
  have hk := okRG_turn n2 ho (by rw [← c4]; exact n3)
  have hb := ordB_of n2 ho
  have hm := (numC_in ((Bool.and_eq_true _ _).mp ho).1).1
  have hsl : ((strI [a0, a1, a2]).length : Int) = 3 := by rw [strI_len]; rfl
  have g0 : 0 ≤ p0 ∧ p0 ≤ 3 - 1 := hm p0 (by simp)
  have g1 : 0 ≤ p1 ∧ p1 ≤ 3 - 1 := hm p1 (by simp)
  have g2 : 0 ≤ p2 ∧ p2 ≤ 3 - 1 := hm p2 (by simp)
  rw [mq3_eq, hs, n2, fine_str n2, hb]
  have i0 : idx [a0, a1, a2] p0 = some ([a0, a1, a2].getD p0.toNat 0) := idx_in g0.1 (show p0 < (3 : Int) by omega)
  have j0 : [a0, a1, a2][p0.toNat]? = some ([a0, a1, a2].getD p0.toNat 0) := get_in g0.1 (show p0 < (3 : Int) by omega)
  have k0 : idx (strI [a0, a1, a2]) p0 = some ((strI [a0, a1, a2]).getD p0.toNat 0) := idx_in g0.1 (by omega)
  have l0 : (strI [a0, a1, a2])[p0.toNat]? = some ((strI [a0, a1, a2]).getD p0.toNat 0) := get_in g0.1 (by omega)
  have i1 : idx [a0, a1, a2] p1 = some ([a0, a1, a2].getD p1.toNat 0) := idx_in g1.1 (show p1 < (3 : Int) by omega)
  have j1 : [a0, a1, a2][p1.toNat]? = some ([a0, a1, a2].getD p1.toNat 0) := get_in g1.1 (show p1 < (3 : Int) by omega)
  have k1 : idx (strI [a0, a1, a2]) p1 = some ((strI [a0, a1, a2]).getD p1.toNat 0) := idx_in g1.1 (by omega)
  have l1 : (strI [a0, a1, a2])[p1.toNat]? = some ((strI [a0, a1, a2]).getD p1.toNat 0) := get_in g1.1 (by omega)
  have i2 : idx [a0, a1, a2] p2 = some ([a0, a1, a2].getD p2.toNat 0) := idx_in g2.1 (show p2 < (3 : Int) by omega)
  have j2 : [a0, a1, a2][p2.toNat]? = some ([a0, a1, a2].getD p2.toNat 0) := get_in g2.1 (show p2 < (3 : Int) by omega)
  have k2 : idx (strI [a0, a1, a2]) p2 = some ((strI [a0, a1, a2]).getD p2.toNat 0) := idx_in g2.1 (by omega)
  have l2 : (strI [a0, a1, a2])[p2.toNat]? = some ((strI [a0, a1, a2]).getD p2.toNat 0) := get_in g2.1 (by omega)
  rw [i0, j0, k0, l0, i1, j1, k1, l1, i2, j2, k2, l2]
  simp only [Option.bind_some]
  rw [show okRG 0 [[a0, a1, a2].getD p0.toNat 0, [a0, a1, a2].getD p1.toNat 0, [a0, a1, a2].getD p2.toNat 0] [(strI [a0, a1, a2]).getD p0.toNat 0, (strI [a0, a1, a2]).getD p1.toNat 0, (strI [a0, a1, a2]).getD p2.toNat 0] x = true from hk]
  rfl
theorem mbA4 {t a0 a1 a2 a3 p0 p1 p2 p3 : Int} {x : List Int} (h : x.length ≤ maxLen) (ht : tenE t [a0, a1, a2, a3] x = 0) : runC gBh Tryz.f42 6 [(3, [2, 4, 6, 9, 10, 11])] [nodeA strTR [] [121] (.os 2 0) (.os 1 0), .os 0 0] (hpTb false t [a0, a1, a2, a3] x [lattr strPerm [p0, p1, p2, p3]]) ah = mbA t [a0, a1, a2, a3] x [p0, p1, p2, p3] := by
  obtain ⟨n1, n2, _⟩ := ten_ok ht
  unfold mbA
  rw [show ordD [a0, a1, a2, a3] [p0, p1, p2, p3] = (numC 4 0 3 [p0, p1, p2, p3] && !(bif p1 == p0 then true else (bif p2 == p0 then true else (bif p2 == p1 then true else (bif p3 == p0 then true else (bif p3 == p1 then true else (bif p3 == p2 then true else false))))))) from rfl]
  rw [mh4_eq, decide_eq_true (show 4 ≤ 9223372036854775807 ∧ x.length ≤ 9223372036854775807 from ⟨by decide, h⟩), ht, n1, n2]
  cases hn : numC 4 0 3 [p0, p1, p2, p3] with
  | false => cases t == 6 <;> rfl
  | true =>
    obtain ⟨hm, _⟩ := numC_in hn
    have g0 := hm p0 (by simp)
    have i0 : idx [a0, a1, a2, a3] p0 = some ([a0, a1, a2, a3].getD p0.toNat 0) := idx_in g0.1 (show p0 < (4 : Int) by omega)
    have g1 := hm p1 (by simp)
    have i1 : idx [a0, a1, a2, a3] p1 = some ([a0, a1, a2, a3].getD p1.toNat 0) := idx_in g1.1 (show p1 < (4 : Int) by omega)
    have g2 := hm p2 (by simp)
    have i2 : idx [a0, a1, a2, a3] p2 = some ([a0, a1, a2, a3].getD p2.toNat 0) := idx_in g2.1 (show p2 < (4 : Int) by omega)
    have g3 := hm p3 (by simp)
    have i3 : idx [a0, a1, a2, a3] p3 = some ([a0, a1, a2, a3].getD p3.toNat 0) := idx_in g3.1 (show p3 < (4 : Int) by omega)
    rw [i0, i1, i2, i3]
    simp only [Option.bind_some]
    cases e10 : p1 == p0 with
    | true => cases t == 6 <;> rfl
    | false =>
      cases e20 : p2 == p0 with
      | true => cases t == 6 <;> rfl
      | false =>
        cases e21 : p2 == p1 with
        | true => cases t == 6 <;> rfl
        | false =>
          cases e30 : p3 == p0 with
          | true => cases t == 6 <;> rfl
          | false =>
            cases e31 : p3 == p1 with
            | true => cases t == 6 <;> rfl
            | false =>
              cases e32 : p3 == p2 with
              | true => cases t == 6 <;> rfl
              | false =>
                have ho : ordD [a0, a1, a2, a3] [p0, p1, p2, p3] = true := by rw [show ordD [a0, a1, a2, a3] [p0, p1, p2, p3] = (numC 4 0 3 [p0, p1, p2, p3] && !(bif p1 == p0 then true else (bif p2 == p0 then true else (bif p2 == p1 then true else (bif p3 == p0 then true else (bif p3 == p1 then true else (bif p3 == p2 then true else false))))))) from rfl, hn, e10, e20, e21, e30, e31, e32]; rfl
                have hp : countE [[a0, a1, a2, a3].getD p0.toNat 0, [a0, a1, a2, a3].getD p1.toNat 0, [a0, a1, a2, a3].getD p2.toNat 0, [a0, a1, a2, a3].getD p3.toNat 0] = 0 := count_permI n2 ho
                rw [hp]
                cases t == 6 <;> rfl
theorem mbN4 {t a0 a1 a2 a3 p : Int} {pm x : List Int} (h : x.length ≤ maxLen) (ht : tenE t [a0, a1, a2, a3] x = 0) (hl : (p :: pm).length ≤ 2147483648) (hn : numC 4 0 3 (p :: pm) = false) : runC gBn Tryz.f42 6 [(3, [2, 4, 6, 9, 10, 11])] [nodeA strTR [] [121] (.os 2 0) (.os 1 0), .os 0 0] (hpTb false t [a0, a1, a2, a3] x [lattr strPerm (p :: pm)]) ah = mbA t [a0, a1, a2, a3] x (p :: pm) := by
  obtain ⟨n1, n2, _⟩ := ten_ok ht
  unfold mbA
  rw [show ordD [a0, a1, a2, a3] (p :: pm) = (numC 4 0 3 (p :: pm) && !dupL [] (p :: pm)) from rfl]
  rw [mn4_eq, decide_eq_true (show 4 ≤ 9223372036854775807 ∧ x.length ≤ 9223372036854775807 from ⟨by decide, h⟩), ht, n1, n2, decide_eq_true hl, hn]
  cases t == 6 <;> rfl
theorem mbZ4 {t a0 a1 a2 a3 : Int} {x : List Int} (h : x.length ≤ maxLen) (ht : tenE t [a0, a1, a2, a3] x = 0) : runC gBh Tryz.f42 6 [(3, [2, 4, 6, 9, 10, 11])] [nodeA strTR [] [121] (.os 2 0) (.os 1 0), .os 0 0] (hpTb false t [a0, a1, a2, a3] x [lattr strPerm []]) ah = mbA t [a0, a1, a2, a3] x [] := by
  obtain ⟨n1, n2, _⟩ := ten_ok ht
  unfold mbA
  rw [show ordD [a0, a1, a2, a3] [] = false from rfl]
  rw [mz4_eq, decide_eq_true (show 4 ≤ 9223372036854775807 ∧ x.length ≤ 9223372036854775807 from ⟨by decide, h⟩), ht, n1, n2]
  cases t == 6 <;> rfl
theorem mtR4 {t a0 a1 a2 a3 p0 p1 p2 p3 : Int} {x : List Int} (ht : tenE t [a0, a1, a2, a3] x = 0) (ho : ordD [a0, a1, a2, a3] [p0, p1, p2, p3] = true) : runC gMq Tryz.f47 6 [(3, [2, 3, 5, 14, 15]), (9, [3, 7, 25, 26, 27])] [nodeA strTR [] [121] (.os 1 0) (.os 0 0), .d (Y0) (t, [a0, a1, a2, a3], x, ())] (hpN true false [lattr strPerm [p0, p1, p2, p3]] [[120]]) ah = some (.ret [.os 2 0], hpN true false [lattr strPerm [p0, p1, p2, p3]] [[120]] ++ [(2, .arr 2 i64T 0 false (rdG 0 (permI [a0, a1, a2, a3] [p0, p1, p2, p3]) (permI (strI [a0, a1, a2, a3]) [p0, p1, p2, p3]) x))]) := by
  obtain ⟨n1, n2, n3, _⟩ := ten_ok ht
  obtain ⟨_, _, _, c4⟩ := count_ok n2
  have hs : [IntKind.i64.wrap (IntKind.i64.wrap (IntKind.i64.wrap (1 * a3) * a2) * a1), IntKind.i64.wrap (IntKind.i64.wrap (1 * a3) * a2), IntKind.i64.wrap (1 * a3), 1] = strI [a0, a1, a2, a3] := (show [IntKind.i64.wrap (IntKind.i64.wrap (IntKind.i64.wrap (1 * a3) * a2) * a1), IntKind.i64.wrap (IntKind.i64.wrap (1 * a3) * a2), IntKind.i64.wrap (1 * a3), 1] = strW [a0, a1, a2, a3] from rfl).trans (strW_eq n2)
  have hk := okRG_turn n2 ho (by rw [← c4]; exact n3)
  have hb := ordB_of n2 ho
  have hm := (numC_in ((Bool.and_eq_true _ _).mp ho).1).1
  have hsl : ((strI [a0, a1, a2, a3]).length : Int) = 4 := by rw [strI_len]; rfl
  have g0 : 0 ≤ p0 ∧ p0 ≤ 4 - 1 := hm p0 (by simp)
  have g1 : 0 ≤ p1 ∧ p1 ≤ 4 - 1 := hm p1 (by simp)
  have g2 : 0 ≤ p2 ∧ p2 ≤ 4 - 1 := hm p2 (by simp)
  have g3 : 0 ≤ p3 ∧ p3 ≤ 4 - 1 := hm p3 (by simp)
  rw [mq4_eq, hs, n2, fine_str n2, hb]
  have i0 : idx [a0, a1, a2, a3] p0 = some ([a0, a1, a2, a3].getD p0.toNat 0) := idx_in g0.1 (show p0 < (4 : Int) by omega)
  have j0 : [a0, a1, a2, a3][p0.toNat]? = some ([a0, a1, a2, a3].getD p0.toNat 0) := get_in g0.1 (show p0 < (4 : Int) by omega)
  have k0 : idx (strI [a0, a1, a2, a3]) p0 = some ((strI [a0, a1, a2, a3]).getD p0.toNat 0) := idx_in g0.1 (by omega)
  have l0 : (strI [a0, a1, a2, a3])[p0.toNat]? = some ((strI [a0, a1, a2, a3]).getD p0.toNat 0) := get_in g0.1 (by omega)
  have i1 : idx [a0, a1, a2, a3] p1 = some ([a0, a1, a2, a3].getD p1.toNat 0) := idx_in g1.1 (show p1 < (4 : Int) by omega)
  have j1 : [a0, a1, a2, a3][p1.toNat]? = some ([a0, a1, a2, a3].getD p1.toNat 0) := get_in g1.1 (show p1 < (4 : Int) by omega)
  have k1 : idx (strI [a0, a1, a2, a3]) p1 = some ((strI [a0, a1, a2, a3]).getD p1.toNat 0) := idx_in g1.1 (by omega)
  have l1 : (strI [a0, a1, a2, a3])[p1.toNat]? = some ((strI [a0, a1, a2, a3]).getD p1.toNat 0) := get_in g1.1 (by omega)
  have i2 : idx [a0, a1, a2, a3] p2 = some ([a0, a1, a2, a3].getD p2.toNat 0) := idx_in g2.1 (show p2 < (4 : Int) by omega)
  have j2 : [a0, a1, a2, a3][p2.toNat]? = some ([a0, a1, a2, a3].getD p2.toNat 0) := get_in g2.1 (show p2 < (4 : Int) by omega)
  have k2 : idx (strI [a0, a1, a2, a3]) p2 = some ((strI [a0, a1, a2, a3]).getD p2.toNat 0) := idx_in g2.1 (by omega)
  have l2 : (strI [a0, a1, a2, a3])[p2.toNat]? = some ((strI [a0, a1, a2, a3]).getD p2.toNat 0) := get_in g2.1 (by omega)
  have i3 : idx [a0, a1, a2, a3] p3 = some ([a0, a1, a2, a3].getD p3.toNat 0) := idx_in g3.1 (show p3 < (4 : Int) by omega)
  have j3 : [a0, a1, a2, a3][p3.toNat]? = some ([a0, a1, a2, a3].getD p3.toNat 0) := get_in g3.1 (show p3 < (4 : Int) by omega)
  have k3 : idx (strI [a0, a1, a2, a3]) p3 = some ((strI [a0, a1, a2, a3]).getD p3.toNat 0) := idx_in g3.1 (by omega)
  have l3 : (strI [a0, a1, a2, a3])[p3.toNat]? = some ((strI [a0, a1, a2, a3]).getD p3.toNat 0) := get_in g3.1 (by omega)
  rw [i0, j0, k0, l0, i1, j1, k1, l1, i2, j2, k2, l2, i3, j3, k3, l3]
  simp only [Option.bind_some]
  rw [show okRG 0 [[a0, a1, a2, a3].getD p0.toNat 0, [a0, a1, a2, a3].getD p1.toNat 0, [a0, a1, a2, a3].getD p2.toNat 0, [a0, a1, a2, a3].getD p3.toNat 0] [(strI [a0, a1, a2, a3]).getD p0.toNat 0, (strI [a0, a1, a2, a3]).getD p1.toNat 0, (strI [a0, a1, a2, a3]).getD p2.toNat 0, (strI [a0, a1, a2, a3]).getD p3.toNat 0] x = true from hk]
  rfl
theorem mbA5 {t a0 a1 a2 a3 a4 p0 p1 p2 p3 p4 : Int} {x : List Int} (h : x.length ≤ maxLen) (ht : tenE t [a0, a1, a2, a3, a4] x = 0) : runC gBh Tryz.f42 6 [(3, [2, 4, 6, 9, 10, 11])] [nodeA strTR [] [121] (.os 2 0) (.os 1 0), .os 0 0] (hpTb false t [a0, a1, a2, a3, a4] x [lattr strPerm [p0, p1, p2, p3, p4]]) ah = mbA t [a0, a1, a2, a3, a4] x [p0, p1, p2, p3, p4] := by
  obtain ⟨n1, n2, _⟩ := ten_ok ht
  unfold mbA
  rw [show ordD [a0, a1, a2, a3, a4] [p0, p1, p2, p3, p4] = (numC 5 0 4 [p0, p1, p2, p3, p4] && !(bif p1 == p0 then true else (bif p2 == p0 then true else (bif p2 == p1 then true else (bif p3 == p0 then true else (bif p3 == p1 then true else (bif p3 == p2 then true else (bif p4 == p0 then true else (bif p4 == p1 then true else (bif p4 == p2 then true else (bif p4 == p3 then true else false))))))))))) from rfl]
  rw [mh5_eq, decide_eq_true (show 5 ≤ 9223372036854775807 ∧ x.length ≤ 9223372036854775807 from ⟨by decide, h⟩), ht, n1, n2]
  cases hn : numC 5 0 4 [p0, p1, p2, p3, p4] with
  | false => cases t == 6 <;> rfl
  | true =>
    obtain ⟨hm, _⟩ := numC_in hn
    have g0 := hm p0 (by simp)
    have i0 : idx [a0, a1, a2, a3, a4] p0 = some ([a0, a1, a2, a3, a4].getD p0.toNat 0) := idx_in g0.1 (show p0 < (5 : Int) by omega)
    have g1 := hm p1 (by simp)
    have i1 : idx [a0, a1, a2, a3, a4] p1 = some ([a0, a1, a2, a3, a4].getD p1.toNat 0) := idx_in g1.1 (show p1 < (5 : Int) by omega)
    have g2 := hm p2 (by simp)
    have i2 : idx [a0, a1, a2, a3, a4] p2 = some ([a0, a1, a2, a3, a4].getD p2.toNat 0) := idx_in g2.1 (show p2 < (5 : Int) by omega)
    have g3 := hm p3 (by simp)
    have i3 : idx [a0, a1, a2, a3, a4] p3 = some ([a0, a1, a2, a3, a4].getD p3.toNat 0) := idx_in g3.1 (show p3 < (5 : Int) by omega)
    have g4 := hm p4 (by simp)
    have i4 : idx [a0, a1, a2, a3, a4] p4 = some ([a0, a1, a2, a3, a4].getD p4.toNat 0) := idx_in g4.1 (show p4 < (5 : Int) by omega)
    rw [i0, i1, i2, i3, i4]
    simp only [Option.bind_some]
    cases e10 : p1 == p0 with
    | true => cases t == 6 <;> rfl
    | false =>
      cases e20 : p2 == p0 with
      | true => cases t == 6 <;> rfl
      | false =>
        cases e21 : p2 == p1 with
        | true => cases t == 6 <;> rfl
        | false =>
          cases e30 : p3 == p0 with
          | true => cases t == 6 <;> rfl
          | false =>
            cases e31 : p3 == p1 with
            | true => cases t == 6 <;> rfl
            | false =>
              cases e32 : p3 == p2 with
              | true => cases t == 6 <;> rfl
              | false =>
                cases e40 : p4 == p0 with
                | true => cases t == 6 <;> rfl
                | false =>
                  cases e41 : p4 == p1 with
                  | true => cases t == 6 <;> rfl
                  | false =>
                    cases e42 : p4 == p2 with
                    | true => cases t == 6 <;> rfl
                    | false =>
                      cases e43 : p4 == p3 with
                      | true => cases t == 6 <;> rfl
                      | false =>
                        have ho : ordD [a0, a1, a2, a3, a4] [p0, p1, p2, p3, p4] = true := by rw [show ordD [a0, a1, a2, a3, a4] [p0, p1, p2, p3, p4] = (numC 5 0 4 [p0, p1, p2, p3, p4] && !(bif p1 == p0 then true else (bif p2 == p0 then true else (bif p2 == p1 then true else (bif p3 == p0 then true else (bif p3 == p1 then true else (bif p3 == p2 then true else (bif p4 == p0 then true else (bif p4 == p1 then true else (bif p4 == p2 then true else (bif p4 == p3 then true else false))))))))))) from rfl, hn, e10, e20, e21, e30, e31, e32, e40, e41, e42, e43]; rfl
                        have hp : countE [[a0, a1, a2, a3, a4].getD p0.toNat 0, [a0, a1, a2, a3, a4].getD p1.toNat 0, [a0, a1, a2, a3, a4].getD p2.toNat 0, [a0, a1, a2, a3, a4].getD p3.toNat 0, [a0, a1, a2, a3, a4].getD p4.toNat 0] = 0 := count_permI n2 ho
                        rw [hp]
                        cases t == 6 <;> rfl
theorem mbN5 {t a0 a1 a2 a3 a4 p : Int} {pm x : List Int} (h : x.length ≤ maxLen) (ht : tenE t [a0, a1, a2, a3, a4] x = 0) (hl : (p :: pm).length ≤ 2147483648) (hn : numC 5 0 4 (p :: pm) = false) : runC gBn Tryz.f42 6 [(3, [2, 4, 6, 9, 10, 11])] [nodeA strTR [] [121] (.os 2 0) (.os 1 0), .os 0 0] (hpTb false t [a0, a1, a2, a3, a4] x [lattr strPerm (p :: pm)]) ah = mbA t [a0, a1, a2, a3, a4] x (p :: pm) := by
  obtain ⟨n1, n2, _⟩ := ten_ok ht
  unfold mbA
  rw [show ordD [a0, a1, a2, a3, a4] (p :: pm) = (numC 5 0 4 (p :: pm) && !dupL [] (p :: pm)) from rfl]
  rw [mn5_eq, decide_eq_true (show 5 ≤ 9223372036854775807 ∧ x.length ≤ 9223372036854775807 from ⟨by decide, h⟩), ht, n1, n2, decide_eq_true hl, hn]
  cases t == 6 <;> rfl
theorem mbZ5 {t a0 a1 a2 a3 a4 : Int} {x : List Int} (h : x.length ≤ maxLen) (ht : tenE t [a0, a1, a2, a3, a4] x = 0) : runC gBh Tryz.f42 6 [(3, [2, 4, 6, 9, 10, 11])] [nodeA strTR [] [121] (.os 2 0) (.os 1 0), .os 0 0] (hpTb false t [a0, a1, a2, a3, a4] x [lattr strPerm []]) ah = mbA t [a0, a1, a2, a3, a4] x [] := by
  obtain ⟨n1, n2, _⟩ := ten_ok ht
  unfold mbA
  rw [show ordD [a0, a1, a2, a3, a4] [] = false from rfl]
  rw [mz5_eq, decide_eq_true (show 5 ≤ 9223372036854775807 ∧ x.length ≤ 9223372036854775807 from ⟨by decide, h⟩), ht, n1, n2]
  cases t == 6 <;> rfl
theorem mtR5 {t a0 a1 a2 a3 a4 p0 p1 p2 p3 p4 : Int} {x : List Int} (ht : tenE t [a0, a1, a2, a3, a4] x = 0) (ho : ordD [a0, a1, a2, a3, a4] [p0, p1, p2, p3, p4] = true) : runC gMq Tryz.f47 6 [(3, [2, 3, 5, 14, 15]), (9, [3, 7, 25, 26, 27])] [nodeA strTR [] [121] (.os 1 0) (.os 0 0), .d (Y0) (t, [a0, a1, a2, a3, a4], x, ())] (hpN true false [lattr strPerm [p0, p1, p2, p3, p4]] [[120]]) ah = some (.ret [.os 2 0], hpN true false [lattr strPerm [p0, p1, p2, p3, p4]] [[120]] ++ [(2, .arr 2 i64T 0 false (rdG 0 (permI [a0, a1, a2, a3, a4] [p0, p1, p2, p3, p4]) (permI (strI [a0, a1, a2, a3, a4]) [p0, p1, p2, p3, p4]) x))]) := by
  obtain ⟨n1, n2, n3, _⟩ := ten_ok ht
  obtain ⟨_, _, _, c4⟩ := count_ok n2
  have hs : [IntKind.i64.wrap (IntKind.i64.wrap (IntKind.i64.wrap (IntKind.i64.wrap (1 * a4) * a3) * a2) * a1), IntKind.i64.wrap (IntKind.i64.wrap (IntKind.i64.wrap (1 * a4) * a3) * a2), IntKind.i64.wrap (IntKind.i64.wrap (1 * a4) * a3), IntKind.i64.wrap (1 * a4), 1] = strI [a0, a1, a2, a3, a4] := (show [IntKind.i64.wrap (IntKind.i64.wrap (IntKind.i64.wrap (IntKind.i64.wrap (1 * a4) * a3) * a2) * a1), IntKind.i64.wrap (IntKind.i64.wrap (IntKind.i64.wrap (1 * a4) * a3) * a2), IntKind.i64.wrap (IntKind.i64.wrap (1 * a4) * a3), IntKind.i64.wrap (1 * a4), 1] = strW [a0, a1, a2, a3, a4] from rfl).trans (strW_eq n2)
  have hk := okRG_turn n2 ho (by rw [← c4]; exact n3)
  have hb := ordB_of n2 ho
  have hm := (numC_in ((Bool.and_eq_true _ _).mp ho).1).1
  have hsl : ((strI [a0, a1, a2, a3, a4]).length : Int) = 5 := by rw [strI_len]; rfl
  have g0 : 0 ≤ p0 ∧ p0 ≤ 5 - 1 := hm p0 (by simp)
  have g1 : 0 ≤ p1 ∧ p1 ≤ 5 - 1 := hm p1 (by simp)
  have g2 : 0 ≤ p2 ∧ p2 ≤ 5 - 1 := hm p2 (by simp)
  have g3 : 0 ≤ p3 ∧ p3 ≤ 5 - 1 := hm p3 (by simp)
  have g4 : 0 ≤ p4 ∧ p4 ≤ 5 - 1 := hm p4 (by simp)
  rw [mq5_eq, hs, n2, fine_str n2, hb]
  have i0 : idx [a0, a1, a2, a3, a4] p0 = some ([a0, a1, a2, a3, a4].getD p0.toNat 0) := idx_in g0.1 (show p0 < (5 : Int) by omega)
  have j0 : [a0, a1, a2, a3, a4][p0.toNat]? = some ([a0, a1, a2, a3, a4].getD p0.toNat 0) := get_in g0.1 (show p0 < (5 : Int) by omega)
  have k0 : idx (strI [a0, a1, a2, a3, a4]) p0 = some ((strI [a0, a1, a2, a3, a4]).getD p0.toNat 0) := idx_in g0.1 (by omega)
  have l0 : (strI [a0, a1, a2, a3, a4])[p0.toNat]? = some ((strI [a0, a1, a2, a3, a4]).getD p0.toNat 0) := get_in g0.1 (by omega)
  have i1 : idx [a0, a1, a2, a3, a4] p1 = some ([a0, a1, a2, a3, a4].getD p1.toNat 0) := idx_in g1.1 (show p1 < (5 : Int) by omega)
  have j1 : [a0, a1, a2, a3, a4][p1.toNat]? = some ([a0, a1, a2, a3, a4].getD p1.toNat 0) := get_in g1.1 (show p1 < (5 : Int) by omega)
  have k1 : idx (strI [a0, a1, a2, a3, a4]) p1 = some ((strI [a0, a1, a2, a3, a4]).getD p1.toNat 0) := idx_in g1.1 (by omega)
  have l1 : (strI [a0, a1, a2, a3, a4])[p1.toNat]? = some ((strI [a0, a1, a2, a3, a4]).getD p1.toNat 0) := get_in g1.1 (by omega)
  have i2 : idx [a0, a1, a2, a3, a4] p2 = some ([a0, a1, a2, a3, a4].getD p2.toNat 0) := idx_in g2.1 (show p2 < (5 : Int) by omega)
  have j2 : [a0, a1, a2, a3, a4][p2.toNat]? = some ([a0, a1, a2, a3, a4].getD p2.toNat 0) := get_in g2.1 (show p2 < (5 : Int) by omega)
  have k2 : idx (strI [a0, a1, a2, a3, a4]) p2 = some ((strI [a0, a1, a2, a3, a4]).getD p2.toNat 0) := idx_in g2.1 (by omega)
  have l2 : (strI [a0, a1, a2, a3, a4])[p2.toNat]? = some ((strI [a0, a1, a2, a3, a4]).getD p2.toNat 0) := get_in g2.1 (by omega)
  have i3 : idx [a0, a1, a2, a3, a4] p3 = some ([a0, a1, a2, a3, a4].getD p3.toNat 0) := idx_in g3.1 (show p3 < (5 : Int) by omega)
  have j3 : [a0, a1, a2, a3, a4][p3.toNat]? = some ([a0, a1, a2, a3, a4].getD p3.toNat 0) := get_in g3.1 (show p3 < (5 : Int) by omega)
  have k3 : idx (strI [a0, a1, a2, a3, a4]) p3 = some ((strI [a0, a1, a2, a3, a4]).getD p3.toNat 0) := idx_in g3.1 (by omega)
  have l3 : (strI [a0, a1, a2, a3, a4])[p3.toNat]? = some ((strI [a0, a1, a2, a3, a4]).getD p3.toNat 0) := get_in g3.1 (by omega)
  have i4 : idx [a0, a1, a2, a3, a4] p4 = some ([a0, a1, a2, a3, a4].getD p4.toNat 0) := idx_in g4.1 (show p4 < (5 : Int) by omega)
  have j4 : [a0, a1, a2, a3, a4][p4.toNat]? = some ([a0, a1, a2, a3, a4].getD p4.toNat 0) := get_in g4.1 (show p4 < (5 : Int) by omega)
  have k4 : idx (strI [a0, a1, a2, a3, a4]) p4 = some ((strI [a0, a1, a2, a3, a4]).getD p4.toNat 0) := idx_in g4.1 (by omega)
  have l4 : (strI [a0, a1, a2, a3, a4])[p4.toNat]? = some ((strI [a0, a1, a2, a3, a4]).getD p4.toNat 0) := get_in g4.1 (by omega)
  rw [i0, j0, k0, l0, i1, j1, k1, l1, i2, j2, k2, l2, i3, j3, k3, l3, i4, j4, k4, l4]
  simp only [Option.bind_some]
  rw [show okRG 0 [[a0, a1, a2, a3, a4].getD p0.toNat 0, [a0, a1, a2, a3, a4].getD p1.toNat 0, [a0, a1, a2, a3, a4].getD p2.toNat 0, [a0, a1, a2, a3, a4].getD p3.toNat 0, [a0, a1, a2, a3, a4].getD p4.toNat 0] [(strI [a0, a1, a2, a3, a4]).getD p0.toNat 0, (strI [a0, a1, a2, a3, a4]).getD p1.toNat 0, (strI [a0, a1, a2, a3, a4]).getD p2.toNat 0, (strI [a0, a1, a2, a3, a4]).getD p3.toNat 0, (strI [a0, a1, a2, a3, a4]).getD p4.toNat 0] x = true from hk]
  rfl
theorem mbA6 {t a0 a1 a2 a3 a4 a5 p0 p1 p2 p3 p4 p5 : Int} {x : List Int} (h : x.length ≤ maxLen) (ht : tenE t [a0, a1, a2, a3, a4, a5] x = 0) : runC gBh Tryz.f42 6 [(3, [2, 4, 6, 9, 10, 11])] [nodeA strTR [] [121] (.os 2 0) (.os 1 0), .os 0 0] (hpTb false t [a0, a1, a2, a3, a4, a5] x [lattr strPerm [p0, p1, p2, p3, p4, p5]]) ah = mbA t [a0, a1, a2, a3, a4, a5] x [p0, p1, p2, p3, p4, p5] := by
  obtain ⟨n1, n2, _⟩ := ten_ok ht
  unfold mbA
  rw [show ordD [a0, a1, a2, a3, a4, a5] [p0, p1, p2, p3, p4, p5] = (numC 6 0 5 [p0, p1, p2, p3, p4, p5] && !(bif p1 == p0 then true else (bif p2 == p0 then true else (bif p2 == p1 then true else (bif p3 == p0 then true else (bif p3 == p1 then true else (bif p3 == p2 then true else (bif p4 == p0 then true else (bif p4 == p1 then true else (bif p4 == p2 then true else (bif p4 == p3 then true else (bif p5 == p0 then true else (bif p5 == p1 then true else (bif p5 == p2 then true else (bif p5 == p3 then true else (bif p5 == p4 then true else false)))))))))))))))) from rfl]
  rw [mh6_eq, decide_eq_true (show 6 ≤ 9223372036854775807 ∧ x.length ≤ 9223372036854775807 from ⟨by decide, h⟩), ht, n1, n2]
  cases hn : numC 6 0 5 [p0, p1, p2, p3, p4, p5] with
  | false => cases t == 6 <;> rfl
  | true =>
    obtain ⟨hm, _⟩ := numC_in hn
    have g0 := hm p0 (by simp)
    have i0 : idx [a0, a1, a2, a3, a4, a5] p0 = some ([a0, a1, a2, a3, a4, a5].getD p0.toNat 0) := idx_in g0.1 (show p0 < (6 : Int) by omega)
    have g1 := hm p1 (by simp)
    have i1 : idx [a0, a1, a2, a3, a4, a5] p1 = some ([a0, a1, a2, a3, a4, a5].getD p1.toNat 0) := idx_in g1.1 (show p1 < (6 : Int) by omega)
    have g2 := hm p2 (by simp)
    have i2 : idx [a0, a1, a2, a3, a4, a5] p2 = some ([a0, a1, a2, a3, a4, a5].getD p2.toNat 0) := idx_in g2.1 (show p2 < (6 : Int) by omega)
    have g3 := hm p3 (by simp)
    have i3 : idx [a0, a1, a2, a3, a4, a5] p3 = some ([a0, a1, a2, a3, a4, a5].getD p3.toNat 0) := idx_in g3.1 (show p3 < (6 : Int) by omega)
    have g4 := hm p4 (by simp)
    have i4 : idx [a0, a1, a2, a3, a4, a5] p4 = some ([a0, a1, a2, a3, a4, a5].getD p4.toNat 0) := idx_in g4.1 (show p4 < (6 : Int) by omega)
    have g5 := hm p5 (by simp)
    have i5 : idx [a0, a1, a2, a3, a4, a5] p5 = some ([a0, a1, a2, a3, a4, a5].getD p5.toNat 0) := idx_in g5.1 (show p5 < (6 : Int) by omega)
    rw [i0, i1, i2, i3, i4, i5]
    simp only [Option.bind_some]
    cases e10 : p1 == p0 with
    | true => cases t == 6 <;> rfl
    | false =>
      cases e20 : p2 == p0 with
      | true => cases t == 6 <;> rfl
      | false =>
        cases e21 : p2 == p1 with
        | true => cases t == 6 <;> rfl
        | false =>
          cases e30 : p3 == p0 with
          | true => cases t == 6 <;> rfl
          | false =>
            cases e31 : p3 == p1 with
            | true => cases t == 6 <;> rfl
            | false =>
              cases e32 : p3 == p2 with
              | true => cases t == 6 <;> rfl
              | false =>
                cases e40 : p4 == p0 with
                | true => cases t == 6 <;> rfl
                | false =>
                  cases e41 : p4 == p1 with
                  | true => cases t == 6 <;> rfl
                  | false =>
                    cases e42 : p4 == p2 with
                    | true => cases t == 6 <;> rfl
                    | false =>
                      cases e43 : p4 == p3 with
                      | true => cases t == 6 <;> rfl
                      | false =>
                        cases e50 : p5 == p0 with
                        | true => cases t == 6 <;> rfl
                        | false =>
                          cases e51 : p5 == p1 with
                          | true => cases t == 6 <;> rfl
                          | false =>
                            cases e52 : p5 == p2 with
                            | true => cases t == 6 <;> rfl
                            | false =>
                              cases e53 : p5 == p3 with
                              | true => cases t == 6 <;> rfl
                              | false =>
                                cases e54 : p5 == p4 with
                                | true => cases t == 6 <;> rfl
                                | false =>
                                  have ho : ordD [a0, a1, a2, a3, a4, a5] [p0, p1, p2, p3, p4, p5] = true := by rw [show ordD [a0, a1, a2, a3, a4, a5] [p0, p1, p2, p3, p4, p5] = (numC 6 0 5 [p0, p1, p2, p3, p4, p5] && !(bif p1 == p0 then true else (bif p2 == p0 then true else (bif p2 == p1 then true else (bif p3 == p0 then true else (bif p3 == p1 then true else (bif p3 == p2 then true else (bif p4 == p0 then true else (bif p4 == p1 then true else (bif p4 == p2 then true else (bif p4 == p3 then true else (bif p5 == p0 then true else (bif p5 == p1 then true else (bif p5 == p2 then true else (bif p5 == p3 then true else (bif p5 == p4 then true else false)))))))))))))))) from rfl, hn, e10, e20, e21, e30, e31, e32, e40, e41, e42, e43, e50, e51, e52, e53, e54]; rfl
                                  have hp : countE [[a0, a1, a2, a3, a4, a5].getD p0.toNat 0, [a0, a1, a2, a3, a4, a5].getD p1.toNat 0, [a0, a1, a2, a3, a4, a5].getD p2.toNat 0, [a0, a1, a2, a3, a4, a5].getD p3.toNat 0, [a0, a1, a2, a3, a4, a5].getD p4.toNat 0, [a0, a1, a2, a3, a4, a5].getD p5.toNat 0] = 0 := count_permI n2 ho
                                  rw [hp]
                                  cases t == 6 <;> rfl
theorem mbN6 {t a0 a1 a2 a3 a4 a5 p : Int} {pm x : List Int} (h : x.length ≤ maxLen) (ht : tenE t [a0, a1, a2, a3, a4, a5] x = 0) (hl : (p :: pm).length ≤ 2147483648) (hn : numC 6 0 5 (p :: pm) = false) : runC gBn Tryz.f42 6 [(3, [2, 4, 6, 9, 10, 11])] [nodeA strTR [] [121] (.os 2 0) (.os 1 0), .os 0 0] (hpTb false t [a0, a1, a2, a3, a4, a5] x [lattr strPerm (p :: pm)]) ah = mbA t [a0, a1, a2, a3, a4, a5] x (p :: pm) := by
  obtain ⟨n1, n2, _⟩ := ten_ok ht
  unfold mbA
  rw [show ordD [a0, a1, a2, a3, a4, a5] (p :: pm) = (numC 6 0 5 (p :: pm) && !dupL [] (p :: pm)) from rfl]
  rw [mn6_eq, decide_eq_true (show 6 ≤ 9223372036854775807 ∧ x.length ≤ 9223372036854775807 from ⟨by decide, h⟩), ht, n1, n2, decide_eq_true hl, hn]
  cases t == 6 <;> rfl
theorem mbZ6 {t a0 a1 a2 a3 a4 a5 : Int} {x : List Int} (h : x.length ≤ maxLen) (ht : tenE t [a0, a1, a2, a3, a4, a5] x = 0) : runC gBh Tryz.f42 6 [(3, [2, 4, 6, 9, 10, 11])] [nodeA strTR [] [121] (.os 2 0) (.os 1 0), .os 0 0] (hpTb false t [a0, a1, a2, a3, a4, a5] x [lattr strPerm []]) ah = mbA t [a0, a1, a2, a3, a4, a5] x [] := by
  obtain ⟨n1, n2, _⟩ := ten_ok ht
  unfold mbA
  rw [show ordD [a0, a1, a2, a3, a4, a5] [] = false from rfl]
  rw [mz6_eq, decide_eq_true (show 6 ≤ 9223372036854775807 ∧ x.length ≤ 9223372036854775807 from ⟨by decide, h⟩), ht, n1, n2]
  cases t == 6 <;> rfl
theorem mtR6 {t a0 a1 a2 a3 a4 a5 p0 p1 p2 p3 p4 p5 : Int} {x : List Int} (ht : tenE t [a0, a1, a2, a3, a4, a5] x = 0) (ho : ordD [a0, a1, a2, a3, a4, a5] [p0, p1, p2, p3, p4, p5] = true) : runC gMq Tryz.f47 6 [(3, [2, 3, 5, 14, 15]), (9, [3, 7, 25, 26, 27])] [nodeA strTR [] [121] (.os 1 0) (.os 0 0), .d (Y0) (t, [a0, a1, a2, a3, a4, a5], x, ())] (hpN true false [lattr strPerm [p0, p1, p2, p3, p4, p5]] [[120]]) ah = some (.ret [.os 2 0], hpN true false [lattr strPerm [p0, p1, p2, p3, p4, p5]] [[120]] ++ [(2, .arr 2 i64T 0 false (rdG 0 (permI [a0, a1, a2, a3, a4, a5] [p0, p1, p2, p3, p4, p5]) (permI (strI [a0, a1, a2, a3, a4, a5]) [p0, p1, p2, p3, p4, p5]) x))]) := by
  obtain ⟨n1, n2, n3, _⟩ := ten_ok ht
  obtain ⟨_, _, _, c4⟩ := count_ok n2
  have hs : [IntKind.i64.wrap (IntKind.i64.wrap (IntKind.i64.wrap (IntKind.i64.wrap (IntKind.i64.wrap (1 * a5) * a4) * a3) * a2) * a1), IntKind.i64.wrap (IntKind.i64.wrap (IntKind.i64.wrap (IntKind.i64.wrap (1 * a5) * a4) * a3) * a2), IntKind.i64.wrap (IntKind.i64.wrap (IntKind.i64.wrap (1 * a5) * a4) * a3), IntKind.i64.wrap (IntKind.i64.wrap (1 * a5) * a4), IntKind.i64.wrap (1 * a5), 1] = strI [a0, a1, a2, a3, a4, a5] := (show [IntKind.i64.wrap (IntKind.i64.wrap (IntKind.i64.wrap (IntKind.i64.wrap (IntKind.i64.wrap (1 * a5) * a4) * a3) * a2) * a1), IntKind.i64.wrap (IntKind.i64.wrap (IntKind.i64.wrap (IntKind.i64.wrap (1 * a5) * a4) * a3) * a2), IntKind.i64.wrap (IntKind.i64.wrap (IntKind.i64.wrap (1 * a5) * a4) * a3), IntKind.i64.wrap (IntKind.i64.wrap (1 * a5) * a4), IntKind.i64.wrap (1 * a5), 1] = strW [a0, a1, a2, a3, a4, a5] from rfl).trans (strW_eq n2)
  have hk := okRG_turn n2 ho (by rw [← c4]; exact n3)
  have hb := ordB_of n2 ho
  have hm := (numC_in ((Bool.and_eq_true _ _).mp ho).1).1
  have hsl : ((strI [a0, a1, a2, a3, a4, a5]).length : Int) = 6 := by rw [strI_len]; rfl
  have g0 : 0 ≤ p0 ∧ p0 ≤ 6 - 1 := hm p0 (by simp)
  have g1 : 0 ≤ p1 ∧ p1 ≤ 6 - 1 := hm p1 (by simp)
  have g2 : 0 ≤ p2 ∧ p2 ≤ 6 - 1 := hm p2 (by simp)
  have g3 : 0 ≤ p3 ∧ p3 ≤ 6 - 1 := hm p3 (by simp)
  have g4 : 0 ≤ p4 ∧ p4 ≤ 6 - 1 := hm p4 (by simp)
  have g5 : 0 ≤ p5 ∧ p5 ≤ 6 - 1 := hm p5 (by simp)
  rw [mq6_eq, hs, n2, fine_str n2, hb]
  have i0 : idx [a0, a1, a2, a3, a4, a5] p0 = some ([a0, a1, a2, a3, a4, a5].getD p0.toNat 0) := idx_in g0.1 (show p0 < (6 : Int) by omega)
  have j0 : [a0, a1, a2, a3, a4, a5][p0.toNat]? = some ([a0, a1, a2, a3, a4, a5].getD p0.toNat 0) := get_in g0.1 (show p0 < (6 : Int) by omega)
  have k0 : idx (strI [a0, a1, a2, a3, a4, a5]) p0 = some ((strI [a0, a1, a2, a3, a4, a5]).getD p0.toNat 0) := idx_in g0.1 (by omega)
  have l0 : (strI [a0, a1, a2, a3, a4, a5])[p0.toNat]? = some ((strI [a0, a1, a2, a3, a4, a5]).getD p0.toNat 0) := get_in g0.1 (by omega)
  have i1 : idx [a0, a1, a2, a3, a4, a5] p1 = some ([a0, a1, a2, a3, a4, a5].getD p1.toNat 0) := idx_in g1.1 (show p1 < (6 : Int) by omega)
  have j1 : [a0, a1, a2, a3, a4, a5][p1.toNat]? = some ([a0, a1, a2, a3, a4, a5].getD p1.toNat 0) := get_in g1.1 (show p1 < (6 : Int) by omega)
  have k1 : idx (strI [a0, a1, a2, a3, a4, a5]) p1 = some ((strI [a0, a1, a2, a3, a4, a5]).getD p1.toNat 0) := idx_in g1.1 (by omega)
  have l1 : (strI [a0, a1, a2, a3, a4, a5])[p1.toNat]? = some ((strI [a0, a1, a2, a3, a4, a5]).getD p1.toNat 0) := get_in g1.1 (by omega)
  have i2 : idx [a0, a1, a2, a3, a4, a5] p2 = some ([a0, a1, a2, a3, a4, a5].getD p2.toNat 0) := idx_in g2.1 (show p2 < (6 : Int) by omega)
  have j2 : [a0, a1, a2, a3, a4, a5][p2.toNat]? = some ([a0, a1, a2, a3, a4, a5].getD p2.toNat 0) := get_in g2.1 (show p2 < (6 : Int) by omega)
  have k2 : idx (strI [a0, a1, a2, a3, a4, a5]) p2 = some ((strI [a0, a1, a2, a3, a4, a5]).getD p2.toNat 0) := idx_in g2.1 (by omega)
  have l2 : (strI [a0, a1, a2, a3, a4, a5])[p2.toNat]? = some ((strI [a0, a1, a2, a3, a4, a5]).getD p2.toNat 0) := get_in g2.1 (by omega)
  have i3 : idx [a0, a1, a2, a3, a4, a5] p3 = some ([a0, a1, a2, a3, a4, a5].getD p3.toNat 0) := idx_in g3.1 (show p3 < (6 : Int) by omega)
  have j3 : [a0, a1, a2, a3, a4, a5][p3.toNat]? = some ([a0, a1, a2, a3, a4, a5].getD p3.toNat 0) := get_in g3.1 (show p3 < (6 : Int) by omega)
  have k3 : idx (strI [a0, a1, a2, a3, a4, a5]) p3 = some ((strI [a0, a1, a2, a3, a4, a5]).getD p3.toNat 0) := idx_in g3.1 (by omega)
  have l3 : (strI [a0, a1, a2, a3, a4, a5])[p3.toNat]? = some ((strI [a0, a1, a2, a3, a4, a5]).getD p3.toNat 0) := get_in g3.1 (by omega)
  have i4 : idx [a0, a1, a2, a3, a4, a5] p4 = some ([a0, a1, a2, a3, a4, a5].getD p4.toNat 0) := idx_in g4.1 (show p4 < (6 : Int) by omega)
  have j4 : [a0, a1, a2, a3, a4, a5][p4.toNat]? = some ([a0, a1, a2, a3, a4, a5].getD p4.toNat 0) := get_in g4.1 (show p4 < (6 : Int) by omega)
  have k4 : idx (strI [a0, a1, a2, a3, a4, a5]) p4 = some ((strI [a0, a1, a2, a3, a4, a5]).getD p4.toNat 0) := idx_in g4.1 (by omega)
  have l4 : (strI [a0, a1, a2, a3, a4, a5])[p4.toNat]? = some ((strI [a0, a1, a2, a3, a4, a5]).getD p4.toNat 0) := get_in g4.1 (by omega)
  have i5 : idx [a0, a1, a2, a3, a4, a5] p5 = some ([a0, a1, a2, a3, a4, a5].getD p5.toNat 0) := idx_in g5.1 (show p5 < (6 : Int) by omega)
  have j5 : [a0, a1, a2, a3, a4, a5][p5.toNat]? = some ([a0, a1, a2, a3, a4, a5].getD p5.toNat 0) := get_in g5.1 (show p5 < (6 : Int) by omega)
  have k5 : idx (strI [a0, a1, a2, a3, a4, a5]) p5 = some ((strI [a0, a1, a2, a3, a4, a5]).getD p5.toNat 0) := idx_in g5.1 (by omega)
  have l5 : (strI [a0, a1, a2, a3, a4, a5])[p5.toNat]? = some ((strI [a0, a1, a2, a3, a4, a5]).getD p5.toNat 0) := get_in g5.1 (by omega)
  rw [i0, j0, k0, l0, i1, j1, k1, l1, i2, j2, k2, l2, i3, j3, k3, l3, i4, j4, k4, l4, i5, j5, k5, l5]
  simp only [Option.bind_some]
  rw [show okRG 0 [[a0, a1, a2, a3, a4, a5].getD p0.toNat 0, [a0, a1, a2, a3, a4, a5].getD p1.toNat 0, [a0, a1, a2, a3, a4, a5].getD p2.toNat 0, [a0, a1, a2, a3, a4, a5].getD p3.toNat 0, [a0, a1, a2, a3, a4, a5].getD p4.toNat 0, [a0, a1, a2, a3, a4, a5].getD p5.toNat 0] [(strI [a0, a1, a2, a3, a4, a5]).getD p0.toNat 0, (strI [a0, a1, a2, a3, a4, a5]).getD p1.toNat 0, (strI [a0, a1, a2, a3, a4, a5]).getD p2.toNat 0, (strI [a0, a1, a2, a3, a4, a5]).getD p3.toNat 0, (strI [a0, a1, a2, a3, a4, a5]).getD p4.toNat 0, (strI [a0, a1, a2, a3, a4, a5]).getD p5.toNat 0] x = true from hk]
  rfl
end Go.Proofs.XGT
namespace Go.Proofs.XGT
open Go.Vm Go
set_option maxRecDepth 100000
set_option maxHeartbeats 4000000
theorem len_succ {l : List Int} {n : Nat} (h : l.length = n + 1) : ∃ a r, l = a :: r ∧ r.length = n := by
  cases l with
  | nil => cases h
  | cons a r => exact ⟨a, r, rfl, by simpa using h⟩
theorem len_zero {l : List Int} (h : l.length = 0) : l = [] := List.eq_nil_of_length_eq_zero h
noncomputable abbrev bh1 : FnE := execFnC gBh Tryz.f42 6 [(3, [2, 4, 6, 9, 10, 11])]
theorem bh1_ok : FnE.OK e0.P e0.gam 42 bh1 := execFnC_ok gBh_good hmix Tryz.func42 Tryz.call42 (by decide +kernel) rfl
theorem bh2_ok : FnE.OK e0.P e0.gam 42 (execFnC gBn Tryz.f42 6 [(3, [2, 4, 6, 9, 10, 11])]) := execFnC_ok gBn_good hmix Tryz.func42 Tryz.call42 (by decide +kernel) rfl
theorem bh3_ok : FnE.OK e0.P e0.gam 42 (execFnC gBz Tryz.f42 6 [(3, [2, 4, 6, 9, 10, 11])]) := execFnC_ok gBz_good hmix Tryz.func42 Tryz.call42 (by decide +kernel) rfl
theorem bh4_ok : FnE.OK e0.P e0.gam 42 (execFnC gB0 Tryz.f42 6 [(3, [2, 4, 6, 9, 10, 11])]) := execFnC_ok gB0_good hmix Tryz.func42 Tryz.call42 (by decide +kernel) rfl
def FnB (t : Int) (d x l : List Int) : Prop := ∀ ae hs', mbA t d x l = some (ae, hs') → FnH e0.P e0.gam 42 [nodeA strTR [] [121] (.os 2 0) (.os 1 0), .os 0 0] (hget (hpTb false t d x [lattr strPerm l])) (fun ae' h1 => ae' = ae ∧ h1 = hget hs')
theorem fnb0 {t p : Int} {pm x : List Int} (h : x.length ≤ maxLen) (ht : tenE t [] x = 0) (hl : (p :: pm).length ≤ 2147483648) : FnB t [] x (p :: pm) := by
  intro ae hs' he
  obtain ⟨n1, n2, _⟩ := ten_ok ht
  refine bh3_ok.okC (Eq.trans ?_ he)
  unfold mbA
  have hn : numC (Int.ofNat ([] : List Int).length) 0 (Int.ofNat ([] : List Int).length - 1) (p :: pm) = false := by
    cases hc : numC (Int.ofNat ([] : List Int).length) 0 (Int.ofNat ([] : List Int).length - 1) (p :: pm) with
    | false => rfl
    | true =>
      have := numC_len hc
      simp only [List.length_cons, List.length_nil, Int.ofNat_eq_natCast] at this
      omega
  rw [show ordD [] (p :: pm) = (numC (Int.ofNat ([] : List Int).length) 0 (Int.ofNat ([] : List Int).length - 1) (p :: pm) && !dupL [] (p :: pm)) from rfl, hn]
  rw [mb0_eq, decide_eq_true (show 0 ≤ 9223372036854775807 ∧ x.length ≤ 9223372036854775807 from ⟨by decide, h⟩), ht, n1, decide_eq_true hl]
  cases t == 6 <;> rfl

theorem fnb1 {t a0 : Int} {l x : List Int} (h : x.length ≤ maxLen) (ht : tenE t [a0] x = 0) (hl : l.length ≤ 2147483648) : FnB t [a0] x l := by
  intro ae hs' he
  cases l with
  | nil => exact bh1_ok.okC ((mbZ1 h ht).trans he)
  | cons p0 pm =>
    cases hn : numC 1 0 0 (p0 :: pm) with
    | false => exact bh2_ok.okC ((mbN1 h ht hl hn).trans he)
    | true =>
      have hlen := numC_len hn
      have e0 : pm.length = 0 := by simp only [List.length_cons] at hlen; omega
      obtain rfl := len_zero e0
      exact bh1_ok.okC ((mbA1 h ht).trans he)
theorem fnb2 {t a0 a1 : Int} {l x : List Int} (h : x.length ≤ maxLen) (ht : tenE t [a0, a1] x = 0) (hl : l.length ≤ 2147483648) : FnB t [a0, a1] x l := by
  intro ae hs' he
  cases l with
  | nil => exact bh1_ok.okC ((mbZ2 h ht).trans he)
  | cons p0 pm =>
    cases hn : numC 2 0 1 (p0 :: pm) with
    | false => exact bh2_ok.okC ((mbN2 h ht hl hn).trans he)
    | true =>
      have hlen := numC_len hn
      have e0 : pm.length = 1 := by simp only [List.length_cons] at hlen; omega
      obtain ⟨p1, q1, rfl, e1⟩ := len_succ (n := 0) e0
      obtain rfl := len_zero e1
      exact bh1_ok.okC ((mbA2 h ht).trans he)
theorem fnb3 {t a0 a1 a2 : Int} {l x : List Int} (h : x.length ≤ maxLen) (ht : tenE t [a0, a1, a2] x = 0) (hl : l.length ≤ 2147483648) : FnB t [a0, a1, a2] x l := by
  intro ae hs' he
  cases l with
  | nil => exact bh1_ok.okC ((mbZ3 h ht).trans he)
  | cons p0 pm =>
    cases hn : numC 3 0 2 (p0 :: pm) with
    | false => exact bh2_ok.okC ((mbN3 h ht hl hn).trans he)
    | true =>
      have hlen := numC_len hn
      have e0 : pm.length = 2 := by simp only [List.length_cons] at hlen; omega
      obtain ⟨p1, q1, rfl, e1⟩ := len_succ (n := 1) e0
      obtain ⟨p2, q2, rfl, e2⟩ := len_succ (n := 0) e1
      obtain rfl := len_zero e2
      exact bh1_ok.okC ((mbA3 h ht).trans he)
theorem fnb4 {t a0 a1 a2 a3 : Int} {l x : List Int} (h : x.length ≤ maxLen) (ht : tenE t [a0, a1, a2, a3] x = 0) (hl : l.length ≤ 2147483648) : FnB t [a0, a1, a2, a3] x l := by
  intro ae hs' he
  cases l with
  | nil => exact bh1_ok.okC ((mbZ4 h ht).trans he)
  | cons p0 pm =>
    cases hn : numC 4 0 3 (p0 :: pm) with
    | false => exact bh2_ok.okC ((mbN4 h ht hl hn).trans he)
    | true =>
      have hlen := numC_len hn
      have e0 : pm.length = 3 := by simp only [List.length_cons] at hlen; omega
      obtain ⟨p1, q1, rfl, e1⟩ := len_succ (n := 2) e0
      obtain ⟨p2, q2, rfl, e2⟩ := len_succ (n := 1) e1
      obtain ⟨p3, q3, rfl, e3⟩ := len_succ (n := 0) e2
      obtain rfl := len_zero e3
      exact bh1_ok.okC ((mbA4 h ht).trans he)
theorem fnb5 {t a0 a1 a2 a3 a4 : Int} {l x : List Int} (h : x.length ≤ maxLen) (ht : tenE t [a0, a1, a2, a3, a4] x = 0) (hl : l.length ≤ 2147483648) : FnB t [a0, a1, a2, a3, a4] x l := by
  intro ae hs' he
  cases l with
  | nil => exact bh1_ok.okC ((mbZ5 h ht).trans he)
  | cons p0 pm =>
    cases hn : numC 5 0 4 (p0 :: pm) with
    | false => exact bh2_ok.okC ((mbN5 h ht hl hn).trans he)
    | true =>
      have hlen := numC_len hn
      have e0 : pm.length = 4 := by simp only [List.length_cons] at hlen; omega
      obtain ⟨p1, q1, rfl, e1⟩ := len_succ (n := 3) e0
      obtain ⟨p2, q2, rfl, e2⟩ := len_succ (n := 2) e1
      obtain ⟨p3, q3, rfl, e3⟩ := len_succ (n := 1) e2
      obtain ⟨p4, q4, rfl, e4⟩ := len_succ (n := 0) e3
      obtain rfl := len_zero e4
      exact bh1_ok.okC ((mbA5 h ht).trans he)
theorem fnb6 {t a0 a1 a2 a3 a4 a5 : Int} {l x : List Int} (h : x.length ≤ maxLen) (ht : tenE t [a0, a1, a2, a3, a4, a5] x = 0) (hl : l.length ≤ 2147483648) : FnB t [a0, a1, a2, a3, a4, a5] x l := by
  intro ae hs' he
  cases l with
  | nil => exact bh1_ok.okC ((mbZ6 h ht).trans he)
  | cons p0 pm =>
    cases hn : numC 6 0 5 (p0 :: pm) with
    | false => exact bh2_ok.okC ((mbN6 h ht hl hn).trans he)
    | true =>
      have hlen := numC_len hn
      have e0 : pm.length = 5 := by simp only [List.length_cons] at hlen; omega
      obtain ⟨p1, q1, rfl, e1⟩ := len_succ (n := 4) e0
      obtain ⟨p2, q2, rfl, e2⟩ := len_succ (n := 3) e1
      obtain ⟨p3, q3, rfl, e3⟩ := len_succ (n := 2) e2
      obtain ⟨p4, q4, rfl, e4⟩ := len_succ (n := 1) e3
      obtain ⟨p5, q5, rfl, e5⟩ := len_succ (n := 0) e4
      obtain rfl := len_zero e5
      exact bh1_ok.okC ((mbA6 h ht).trans he)
theorem fnb_all {t : Int} {d x l : List Int} (h : x.length ≤ maxLen) (ht : tenE t d x = 0) (hl : l.length ≤ 2147483648) (hne : ¬ (d = [] ∧ l = [])) : FnB t d x l := by
  have h6 := (count_ok (ten_ok ht).2.1).2.1
  match d, h6, ht, hne with
  | [], _, ht, hne =>
    cases l with
    | nil => exact absurd ⟨rfl, rfl⟩ hne
    | cons p pm => exact fnb0 h ht hl
  | [a0], _, ht, _ => exact fnb1 h ht hl
  | [a0, a1], _, ht, _ => exact fnb2 h ht hl
  | [a0, a1, a2], _, ht, _ => exact fnb3 h ht hl
  | [a0, a1, a2, a3], _, ht, _ => exact fnb4 h ht hl
  | [a0, a1, a2, a3, a4], _, ht, _ => exact fnb5 h ht hl
  | [a0, a1, a2, a3, a4, a5], _, ht, _ => exact fnb6 h ht hl
  | _ :: _ :: _ :: _ :: _ :: _ :: _ :: _, h6, _, _ => exact absurd h6 (by simp only [List.length_cons]; omega)
def mbL (t : Int) (d x l : List Int) : Tq :=
  .br (decide (x.length ≤ maxLen ∧ d.length ≤ maxLen ∧ l.length ≤ 2147483648)) (.br (tenE t d x != 0) (.leaf (.ret [zeroV, I 1]) (hpTb false t d x [lattr strPerm l])) (.br (!decide (d = [] ∧ l = [])) (.br (ordD d l) (.leaf (.ret [okV t, I 0]) (hpTb true t d x [lattr strPerm l] ++ [(3, .arr 3 i64T 0 false (permI d l))])) (.leaf (.ret [zeroV, I 4]) (hpTb true t d x [lattr strPerm l]))) .no)) .no
def mbB : List AV → LHp → Tq
  | [n, .os 0 0], [(0, .arr 25 ((.pair (.int .i64) (.pair (.slice (.int .i64)) (.pair (.slice (.int .i64)) .unit)))) 0 false [(t, d, x, ())]), (1, .arr 37 ((.pair .str (.pair (.int .i64) (.pair (.int .i64) (.pair (.int .i64) (.pair .str (.pair (.pair (.int .i64) (.pair (.slice (.int .i64)) (.pair (.slice (.int .i64)) .unit))) (.pair (.slice (.int .i64)) .unit)))))))) 0 false [a]), (2, .arr 9 .str 0 false ins)] =>
    (match nodeP n with
    | some (op, nm, out, .os 2 0, .os 1 0) => gate (decide (op = strTR) && decide (nm = []) && decide (out = [121]) && decide (ins = [[120]]) && isL a strPerm) (mbL t d x a.2.2.2.2.2.2.1)
    | _ => .no)
  | _, _ => .no
theorem mbB_ok : FnE.OK e0.P e0.gam 42 (treeE mbB) := by
  refine ⟨fun _ _ _ => Tq.eq _ _, fun args hs ae hs' h => ?_⟩
  have h' : (mbB args hs).run ah = some (ae, hs') := h
  clear h
  unfold mbB at h'
  split at h'
  · rename_i t d x a ins
    split at h'
    · rename_i hn
      rw [nodeP_some hn]
      obtain ⟨hb, h2⟩ := gate_run h'
      clear h'
      simp only [Bool.and_eq_true, decide_eq_true_eq] at hb
      obtain ⟨⟨⟨⟨b1, b2⟩, b3⟩, b4⟩, b6⟩ := hb
      subst b1 b2 b3 b4
      obtain ⟨l, rfl⟩ := isL_eq b6
      change (mbL t d x l).run ah = _ at h2
      obtain ⟨hl, h3⟩ := Tq.br_no h2
      obtain ⟨c1, c2, c3⟩ := of_decide_eq_true hl
      have h4 : (bif tenE t d x != 0 then some (AEnd.ret [zeroV, I 1], hpTb false t d x [lattr strPerm l]) else (Tq.br (!decide (d = [] ∧ l = [])) (.br (ordD d l) (.leaf (.ret [okV t, I 0]) (hpTb true t d x [lattr strPerm l] ++ [(3, .arr 3 i64T 0 false (permI d l))])) (.leaf (.ret [zeroV, I 4]) (hpTb true t d x [lattr strPerm l]))) .no).run ah) = some (ae, hs') := h3
      cases ht : tenE t d x != 0 with
      | true =>
        rw [ht] at h4
        refine bh4_ok.okC ((mbe_eq t d l x).trans (Eq.trans ?_ h4))
        rw [decide_eq_true (show d.length ≤ 9223372036854775807 ∧ x.length ≤ 9223372036854775807 from ⟨c2, c1⟩), ht]
        rfl
      | false =>
        rw [ht] at h4
        obtain ⟨hne, h5⟩ := Tq.br_no h4
        have hne' : ¬ (d = [] ∧ l = []) := of_decide_eq_false (by rw [Bool.not_eq_true'] at hne; exact hne)
        exact fnb_all c1 (by simpa using ht) c3 hne' ae hs' h5
    · cases h'
  · cases h'
noncomputable abbrev mtq1 : FnE := execFnC gMq Tryz.f47 6 [(3, [2, 3, 5, 14, 15]), (9, [3, 7, 25, 26, 27])]
theorem mtq1_ok : FnE.OK e0.P e0.gam 47 mtq1 := execFnC_ok gMq_good hmix Tryz.func47 Tryz.call47 (by decide +kernel) rfl
theorem mtR_all {t : Int} {d x l : List Int} (ht : tenE t d x = 0) (ho : ordD d l = true) (hne : d ≠ []) : runC gMq Tryz.f47 6 [(3, [2, 3, 5, 14, 15]), (9, [3, 7, 25, 26, 27])] [nodeA strTR [] [121] (.os 1 0) (.os 0 0), .d (Y0) (t, d, x, ())] (hpN true false [lattr strPerm l] [[120]]) ah = some (.ret [.os 2 0], hpN true false [lattr strPerm l] [[120]] ++ [(2, .arr 2 i64T 0 false (rdG 0 (permI d l) (permI (strI d) l) x))]) := by
  have h6 := (count_ok (ten_ok ht).2.1).2.1
  have hlen : (l.length : Int) = Int.ofNat d.length := numC_len ((Bool.and_eq_true _ _).mp ho).1
  have hlen : l.length = d.length := by simp only [Int.ofNat_eq_natCast] at hlen; omega
  match d, h6, ht, ho, hne, hlen with
  | [], _, _, _, hne, _ => exact absurd rfl hne
  | [a0], _, ht, ho, _, hlen =>
    have e0 : l.length = 1 := hlen
    obtain ⟨p0, q0, rfl, f0⟩ := len_succ (n := 0) e0
    obtain rfl := len_zero f0
    exact mtR1 ht ho
  | [a0, a1], _, ht, ho, _, hlen =>
    have e0 : l.length = 2 := hlen
    obtain ⟨p0, q0, rfl, f0⟩ := len_succ (n := 1) e0
    obtain ⟨p1, q1, rfl, f1⟩ := len_succ (n := 0) f0
    obtain rfl := len_zero f1
    exact mtR2 ht ho
  | [a0, a1, a2], _, ht, ho, _, hlen =>
    have e0 : l.length = 3 := hlen
    obtain ⟨p0, q0, rfl, f0⟩ := len_succ (n := 2) e0
    obtain ⟨p1, q1, rfl, f1⟩ := len_succ (n := 1) f0
    obtain ⟨p2, q2, rfl, f2⟩ := len_succ (n := 0) f1
    obtain rfl := len_zero f2
    exact mtR3 ht ho
  | [a0, a1, a2, a3], _, ht, ho, _, hlen =>
    have e0 : l.length = 4 := hlen
    obtain ⟨p0, q0, rfl, f0⟩ := len_succ (n := 3) e0
    obtain ⟨p1, q1, rfl, f1⟩ := len_succ (n := 2) f0
    obtain ⟨p2, q2, rfl, f2⟩ := len_succ (n := 1) f1
    obtain ⟨p3, q3, rfl, f3⟩ := len_succ (n := 0) f2
    obtain rfl := len_zero f3
    exact mtR4 ht ho
  | [a0, a1, a2, a3, a4], _, ht, ho, _, hlen =>
    have e0 : l.length = 5 := hlen
    obtain ⟨p0, q0, rfl, f0⟩ := len_succ (n := 4) e0
    obtain ⟨p1, q1, rfl, f1⟩ := len_succ (n := 3) f0
    obtain ⟨p2, q2, rfl, f2⟩ := len_succ (n := 2) f1
    obtain ⟨p3, q3, rfl, f3⟩ := len_succ (n := 1) f2
    obtain ⟨p4, q4, rfl, f4⟩ := len_succ (n := 0) f3
    obtain rfl := len_zero f4
    exact mtR5 ht ho
  | [a0, a1, a2, a3, a4, a5], _, ht, ho, _, hlen =>
    have e0 : l.length = 6 := hlen
    obtain ⟨p0, q0, rfl, f0⟩ := len_succ (n := 5) e0
    obtain ⟨p1, q1, rfl, f1⟩ := len_succ (n := 4) f0
    obtain ⟨p2, q2, rfl, f2⟩ := len_succ (n := 3) f1
    obtain ⟨p3, q3, rfl, f3⟩ := len_succ (n := 2) f2
    obtain ⟨p4, q4, rfl, f4⟩ := len_succ (n := 1) f3
    obtain ⟨p5, q5, rfl, f5⟩ := len_succ (n := 0) f4
    obtain rfl := len_zero f5
    exact mtR6 ht ho
  | _ :: _ :: _ :: _ :: _ :: _ :: _ :: _, h6, _, _, _, _ => exact absurd h6 (by simp only [List.length_cons]; omega)
def mtL (t : Int) (d x l : List Int) : Tq := .br (decide (tenE t d x = 0 ∧ d ≠ []) && ordD d l) (.leaf (.ret [.os 2 0]) (hpN true false [lattr strPerm l] [[120]] ++ [(2, .arr 2 i64T 0 false (rdG 0 (permI d l) (permI (strI d) l) x))])) .no
def mtB : List AV → LHp → Tq
  | [n, .d ((.pair (.int .i64) (.pair (.slice (.int .i64)) (.pair (.slice (.int .i64)) .unit)))) (t, d, x, ())], [(0, .arr 37 ((.pair .str (.pair (.int .i64) (.pair (.int .i64) (.pair (.int .i64) (.pair .str (.pair (.pair (.int .i64) (.pair (.slice (.int .i64)) (.pair (.slice (.int .i64)) .unit))) (.pair (.slice (.int .i64)) .unit)))))))) 0 true [a]), (1, .arr 9 .str 0 false ins)] =>
    (match nodeP n with
    | some (op, nm, out, .os 1 0, .os 0 0) => gate (decide (op = strTR) && decide (nm = []) && decide (out = [121]) && decide (ins = [[120]]) && isL a strPerm) (mtL t d x a.2.2.2.2.2.2.1)
    | _ => .no)
  | _, _ => .no
theorem mtB_ok : FnE.OK e0.P e0.gam 47 (treeE mtB) := by
  refine ⟨fun _ _ _ => Tq.eq _ _, fun args hs ae hs' h => ?_⟩
  have h' : (mtB args hs).run ah = some (ae, hs') := h
  clear h
  unfold mtB at h'
  split at h'
  · rename_i t d x a ins
    split at h'
    · rename_i hn
      rw [nodeP_some hn]
      obtain ⟨hb, h2⟩ := gate_run h'
      clear h'
      simp only [Bool.and_eq_true, decide_eq_true_eq] at hb
      obtain ⟨⟨⟨⟨b1, b2⟩, b3⟩, b4⟩, b6⟩ := hb
      subst b1 b2 b3 b4
      obtain ⟨l, rfl⟩ := isL_eq b6
      change (mtL t d x l).run ah = _ at h2
      obtain ⟨hl, h3⟩ := Tq.br_no h2
      rw [Bool.and_eq_true] at hl
      obtain ⟨c1, c2⟩ := of_decide_eq_true hl.1
      cases h3
      exact mtq1_ok.okC (mtR_all c1 hl.2 c2)
    · cases h'
  · cases h'
noncomputable def gMb : Env := (g227.add 42 (treeE mbB)).add 47 (treeE mtB)
theorem gMb_good : gMb.Good := (g227_good.add mbB_ok).add mtB_ok
theorem mdq_eq (t : Int) (d x l : List Int) : runC gMb Tryz.f27 7 [] [nodeA strTR [] [121] (.os 2 0) (.os 1 0), .os 0 0] (hpTb false t d x [lattr strPerm l]) ah =
  bif decide (x.length ≤ 9223372036854775807 ∧ d.length ≤ 9223372036854775807 ∧ l.length ≤ 2147483648) then 
    bif tenE t d x != 0 then some (AEnd.ret [(I 0).pr (AV.nils.pr (AV.nils.pr (AV.d Ty.unit PUnit.unit))), I 1], [(0, AObj.arr 25 ((i64T).pair ((i64T).slice.pair ((i64T).slice.pair Ty.unit))) 0 false [(t, d, x, PUnit.unit)]), (1, AObj.arr 37 (Ty.str.pair ((i64T).pair ((i64T).pair ((i64T).pair (Ty.str.pair (((i64T).pair ((i64T).slice.pair ((i64T).slice.pair Ty.unit))).pair ((i64T).slice.pair Ty.unit))))))) 0 false [([112, 101, 114, 109], 7, 0, 0, [], (0, [], [], PUnit.unit), l, PUnit.unit)]), (2, AObj.arr 9 Ty.str 0 false [[120]])])
    else 
      bif !decide (d = [] ∧ l = []) then 
        bif ordD d l then 
          bif decide (tenE t d x = 0 ∧ d ≠ []) && ordD d l then some (AEnd.ret [(I t).pr ((AV.os 3 0).pr ((AV.os 4 0).pr (AV.d Ty.unit PUnit.unit))), I 0], [(0, AObj.arr 25 ((i64T).pair ((i64T).slice.pair ((i64T).slice.pair Ty.unit))) 0 false [(t, d, x, PUnit.unit)]), (1, AObj.arr 37 (Ty.str.pair ((i64T).pair ((i64T).pair ((i64T).pair (Ty.str.pair (((i64T).pair ((i64T).slice.pair ((i64T).slice.pair Ty.unit))).pair ((i64T).slice.pair Ty.unit))))))) 0 true [([112, 101, 114, 109], 7, 0, 0, [], (0, [], [], PUnit.unit), l, PUnit.unit)]), (2, AObj.arr 9 Ty.str 0 false [[120]]), (3, AObj.arr 3 (i64T) 0 false (permI d l)), (4, AObj.arr 2 (i64T) 0 false (rdG 0 (permI d l) (permI (strI d) l) x))])
          else none
        else some (AEnd.ret [(I 0).pr (AV.nils.pr (AV.nils.pr (AV.d Ty.unit PUnit.unit))), I 4], [(0, AObj.arr 25 ((i64T).pair ((i64T).slice.pair ((i64T).slice.pair Ty.unit))) 0 false [(t, d, x, PUnit.unit)]), (1, AObj.arr 37 (Ty.str.pair ((i64T).pair ((i64T).pair ((i64T).pair (Ty.str.pair (((i64T).pair ((i64T).slice.pair ((i64T).slice.pair Ty.unit))).pair ((i64T).slice.pair Ty.unit))))))) 0 true [([112, 101, 114, 109], 7, 0, 0, [], (0, [], [], PUnit.unit), l, PUnit.unit)]), (2, AObj.arr 9 Ty.str 0 false [[120]])])
      else none
  else none := by kernel_rfl
end Go.Proofs.XGT
namespace Go.Proofs.XGT
open Go.Vm Go
set_option maxRecDepth 100000
set_option maxHeartbeats 4000000
def zTL : AV := (I 0).pr (AV.nils.pr (AV.nils.pr (AV.d Ty.unit PUnit.unit)))
def oTL (t : Int) : AV := (I t).pr ((AV.os 3 0).pr ((AV.os 4 0).pr (AV.d Ty.unit PUnit.unit)))
/-- a tensor turned by an order: its numbers -/
def turnG (d l x : List Int) : List Int := rdG 0 (permI d l) (permI (strI d) l) x
def mdL (K : Tq) (t : Int) (d x l : List Int) : Tq :=
  .br (decide (x.length ≤ maxLen ∧ d.length ≤ maxLen ∧ l.length ≤ 2147483648)) (.br (tenE t d x != 0) (.leaf (.ret [zTL, I 1]) (hpTb false t d x [lattr strPerm l])) (.br (!decide (d = [] ∧ l = [])) (.br (ordD d l) K (.leaf (.ret [zTL, I 4]) (hpTb true t d x [lattr strPerm l]))) .no)) .no
def mdK (t : Int) (d x l : List Int) : Tq := .leaf (.ret [oTL t, I 0]) (hpTb true t d x [lattr strPerm l] ++ [(3, .arr 3 i64T 0 false (permI d l)), (4, .arr 2 i64T 0 false (turnG d l x))])
theorem ordD_ne {d l : List Int} (h : ordD d l = true) (hne : decide (d = [] ∧ l = []) = false) : d ≠ [] := by
  rintro rfl
  have := numC_len ((Bool.and_eq_true _ _).mp h).1
  refine of_decide_eq_false hne ⟨rfl, List.eq_nil_of_length_eq_zero ?_⟩
  simp only [List.length_nil, Int.ofNat_eq_natCast] at this
  omega
theorem mdq_run {K : Tq} {t : Int} {d x l : List Int} {r : AEnd × LHp} (hK : K = .no ∨ K = mdK t d x l) (h : (mdL K t d x l).run ah = some r) : runC gMb Tryz.f27 7 [] [nodeA strTR [] [121] (.os 2 0) (.os 1 0), .os 0 0] (hpTb false t d x [lattr strPerm l]) ah = some r := by
  obtain ⟨hg, h1⟩ := Tq.br_no h
  have hg' := of_decide_eq_true hg
  rw [mdq_eq, decide_eq_true (show x.length ≤ 9223372036854775807 ∧ d.length ≤ 9223372036854775807 ∧ l.length ≤ 2147483648 from hg'), cond_true]
  change (bif tenE t d x != 0 then _ else _) = _ at h1
  cases ht : tenE t d x != 0 with
  | true => rw [ht] at h1; exact h1
  | false =>
    rw [ht] at h1
    have h1 := h1
    obtain ⟨hne, h2⟩ := Tq.br_no h1
    rw [cond_false, hne, cond_true]
    change (bif ordD d l then _ else _) = _ at h2
    cases ho : ordD d l with
    | false => rw [ho] at h2; exact h2
    | true =>
      rw [ho] at h2
      rcases hK with rfl | rfl
      · cases h2
      · rw [cond_true, decide_eq_true (show tenE t d x = 0 ∧ d ≠ [] from ⟨by simpa using ht, ordD_ne ho (by rw [Bool.not_eq_true'] at hne; exact hne)⟩)]
        exact h2
def mdP (g : Int → List Int → List Int → List Int → Tq) : List AV → LHp → Tq
  | [n, .os 0 0], [(0, .arr 25 ((.pair (.int .i64) (.pair (.slice (.int .i64)) (.pair (.slice (.int .i64)) .unit)))) 0 false [(t, d, x, ())]), (1, .arr 37 ((.pair .str (.pair (.int .i64) (.pair (.int .i64) (.pair (.int .i64) (.pair .str (.pair (.pair (.int .i64) (.pair (.slice (.int .i64)) (.pair (.slice (.int .i64)) .unit))) (.pair (.slice (.int .i64)) .unit)))))))) 0 false [a]), (2, .arr 9 .str 0 false ins)] =>
    (match nodeP n with
    | some (op, nm, out, .os 2 0, .os 1 0) => gate (decide (op = strTR) && decide (nm = []) && decide (out = [121]) && decide (ins = [[120]]) && isL a strPerm) (mdL (g t d x a.2.2.2.2.2.2.1) t d x a.2.2.2.2.2.2.1)
    | _ => .no)
  | _, _ => .no
theorem mdP_ok (g : Int → List Int → List Int → List Int → Tq) (hg : ∀ t d x l, g t d x l = .no ∨ g t d x l = mdK t d x l) : FnE.OK e0.P e0.gam 27 (treeE (mdP g)) := by
  have h1 : FnE.OK e0.P e0.gam 27 (execFnC gMb Tryz.f27 7 []) := execFnC_ok gMb_good hmix Tryz.func27 Tryz.call27 (by decide +kernel) rfl
  refine ⟨fun _ _ _ => Tq.eq _ _, fun args hs ae hs' h => ?_⟩
  have h' : (mdP g args hs).run ah = some (ae, hs') := h
  clear h
  unfold mdP at h'
  split at h'
  · rename_i t d x a ins
    split at h'
    · rename_i hn
      rw [nodeP_some hn]
      obtain ⟨hb, h2⟩ := gate_run h'
      clear h'
      simp only [Bool.and_eq_true, decide_eq_true_eq] at hb
      obtain ⟨⟨⟨⟨b1, b2⟩, b3⟩, b4⟩, b6⟩ := hb
      subst b1 b2 b3 b4
      obtain ⟨l, rfl⟩ := isL_eq b6
      change (mdL (g t d x l) t d x l).run ah = _ at h2
      exact h1.okC (mdq_run (hg t d x l) h2)
    · cases h'
  · cases h'
noncomputable def gMe : Env := (g230.add 27 (treeE (mdP fun _ _ _ _ => .no))).add 25 (fnE livtF)
theorem gMe_good : gMe.Good := (g230_good.add (mdP_ok _ fun _ _ _ _ => .inl rfl)).add livtE_ok
theorem mbke_eq (t : Int) (d x l : List Int) : runC gMe Tryz.f10 7 [(9, [1, 2, 5, 6, 8, 9])] [.d (Y0) (t, d, x, ()), .d (.slice i64T) l] [] ah =
  bif decide (Int.ofNat x.length > 2000) then some (AEnd.ret [B true], [])
  else 
    bif decide (x.length ≤ 9223372036854775807 ∧ d.length ≤ 9223372036854775807 ∧ l.length ≤ 2147483648) then 
      bif tenE t d x != 0 then some (AEnd.ret [B true], [])
      else 
        bif !decide (d = [] ∧ l = []) then 
          bif ordD d l then none
          else some (AEnd.ret [B true], [])
        else none
    else none := by kernel_rfl
end Go.Proofs.XGT
namespace Go.Proofs.XGT
open Go.Vm Go
set_option maxRecDepth 100000
set_option maxHeartbeats 4000000
noncomputable def C_smxs : Code := codeOf Tryz.f33
noncomputable def cf_smxs : Cfg := ⟨26, 5, 1, [(4, [0, 1, 5])], true⟩
def smxsH (z4 : Bool) (xs : List Int) : LHp := [(0, .arr 3 i64T 0 z4 xs)]
theorem smxs_eqH (hl : Hl) (z4 : Bool) (xs : List Int) : runH g173 Tryz.f33 5 [(4, [0, 1, 5])] [4] hl [.os 0 0, .d (.slice i64T) xs] (smxsH z4 xs) ah =
  bif Int.ofNat xs.length != Int.ofNat xs.length then some (AEnd.ret [B false], [(0, AObj.arr 3 (i64T) 0 z4 xs)])
  else hl (cL (cL (cR (cL (cR (cR C_smxs)))))) _ { fr := mkFr 5 [(0, AV.os 0 0), (1, AV.d (i64T).slice xs), (5, I 0)], hp := [(0, AObj.arr 3 (i64T) 0 z4 xs)], nx := 2 } (blkK 0 (seqH g173 cf_smxs [4] hl (cR (cR (cR C_smxs))) (endC Tryz.prog 1 Tryz.f33.results.toList ah))) := by kernel_rfl
theorem smxs_eq (z4 : Bool) (xs : List Int) : runC g173 Tryz.f33 5 [(4, [0, 1, 5])] [.os 0 0, .d (.slice i64T) xs] (smxsH z4 xs) ah =
  bif Int.ofNat xs.length != Int.ofNat xs.length then some (AEnd.ret [B false], [(0, AObj.arr 3 (i64T) 0 z4 xs)])
  else (hlp g173 cf_smxs) (cL (cL (cR (cL (cR (cR C_smxs)))))) _ { fr := mkFr 5 [(0, AV.os 0 0), (1, AV.d (i64T).slice xs), (5, I 0)], hp := [(0, AObj.arr 3 (i64T) 0 z4 xs)], nx := 2 } (blkK 0 (seqH g173 cf_smxs [4] (hlp g173 cf_smxs) (cR (cR (cR C_smxs))) (endC Tryz.prog 1 Tryz.f33.results.toList ah))) := runH_runC.trans (smxs_eqH (hlp g173 cf_smxs) z4 xs)
def smxsSt (z4 : Bool) (xs : List Int) (i : Int) : LSt := ⟨mkFr 5 [(0, .os 0 0), (1, .d (.slice i64T) xs), (5, I i)], smxsH z4 xs, 2⟩
theorem smxs_stepH (hl : Hl) (z4 : Bool) (xs : List Int) (i : Int) (n : Nat) {R : Type} (k : AEx → LSt → Option R) : lpH g173 cf_smxs [4] hl (cL (cL (cR (cL (cR (cR C_smxs)))))) (n + 1) (smxsSt z4 xs i) k =
  bif decide (i < Int.ofNat xs.length) then (idx xs i).bind fun v1 =>
      (xs[i.toNat]?).bind fun v2 =>
        (idx xs i).bind fun v3 =>
          bif v2 != v3 then k AEx.ret { fr := mkFr 5 [(0, AV.os 0 0), (1, AV.d (i64T).slice xs), (4, B false), (5, I i), (11, I i), (12, AV.os 0 0), (13, I (Int.ofNat xs.length)), (14, B true), (17, AV.os 0 0), (18, I i), (19, AV.oe 0 0 i.toNat), (20, I v2), (21, AV.d (i64T).slice xs), (22, I i), (23, AV.ip (i64T) v3), (24, I v3), (25, B true)], hp := [(0, AObj.arr 3 (i64T) 0 z4 xs)], nx := 2 }
          else lpH g173 cf_smxs [4] hl (cL (cL (cR (cL (cR (cR C_smxs)))))) n { fr := mkFr 5 [(0, AV.os 0 0), (1, AV.d (i64T).slice xs), (5, I (IntKind.i64.wrap (i + 1)))], hp := [(0, AObj.arr 3 (i64T) 0 z4 xs)], nx := 2 } k
  else k (AEx.exit 0) { fr := mkFr 5 [(0, AV.os 0 0), (1, AV.d (i64T).slice xs), (5, I i), (11, I i), (12, AV.os 0 0), (13, I (Int.ofNat xs.length)), (14, B false)], hp := [(0, AObj.arr 3 (i64T) 0 z4 xs)], nx := 2 } := by kernel_rfl
theorem smxs_step (z4 : Bool) (xs : List Int) (i : Int) (n : Nat) {R : Type} (k : AEx → LSt → Option R) : lp g173 cf_smxs (cL (cL (cR (cL (cR (cR C_smxs)))))) (n + 1) (smxsSt z4 xs i) k =
  bif decide (i < Int.ofNat xs.length) then (idx xs i).bind fun v1 =>
      (xs[i.toNat]?).bind fun v2 =>
        (idx xs i).bind fun v3 =>
          bif v2 != v3 then k AEx.ret { fr := mkFr 5 [(0, AV.os 0 0), (1, AV.d (i64T).slice xs), (4, B false), (5, I i), (11, I i), (12, AV.os 0 0), (13, I (Int.ofNat xs.length)), (14, B true), (17, AV.os 0 0), (18, I i), (19, AV.oe 0 0 i.toNat), (20, I v2), (21, AV.d (i64T).slice xs), (22, I i), (23, AV.ip (i64T) v3), (24, I v3), (25, B true)], hp := [(0, AObj.arr 3 (i64T) 0 z4 xs)], nx := 2 }
          else lp g173 cf_smxs (cL (cL (cR (cL (cR (cR C_smxs)))))) n { fr := mkFr 5 [(0, AV.os 0 0), (1, AV.d (i64T).slice xs), (5, I (IntKind.i64.wrap (i + 1)))], hp := [(0, AObj.arr 3 (i64T) 0 z4 xs)], nx := 2 } k
  else k (AEx.exit 0) { fr := mkFr 5 [(0, AV.os 0 0), (1, AV.d (i64T).slice xs), (5, I i), (11, I i), (12, AV.os 0 0), (13, I (Int.ofNat xs.length)), (14, B false)], hp := [(0, AObj.arr 3 (i64T) 0 z4 xs)], nx := 2 } := by
  have h := smxs_stepH (hlp g173 cf_smxs) z4 xs i n k
  simp only [lpH_lp] at h
  exact h
noncomputable def smxsK : AEx → LSt → Option (AEnd × LHp) := (blkK 0 (seqH g173 cf_smxs [4] (hlp g173 cf_smxs) (cR (cR (cR C_smxs))) (endC Tryz.prog 1 Tryz.f33.results.toList ah)))
theorem smxs_lp (z4 : Bool) (xs : List Int) : runC g173 Tryz.f33 5 [(4, [0, 1, 5])] [.os 0 0, .d (.slice i64T) xs] (smxsH z4 xs) ah = lp g173 cf_smxs (cL (cL (cR (cL (cR (cR C_smxs)))))) fu (smxsSt z4 xs 0) smxsK := (smxs_eq z4 xs).trans (by rw [bne_self_eq_false, cond_false]; kernel_rfl)
theorem smxsK_exit (z4 : Bool) (xs : List Int) (i : Int) : smxsK (AEx.exit 0) ⟨mkFr 5 [(0, .os 0 0), (1, .d (.slice i64T) xs), (5, I i), (11, I i), (12, .os 0 0), (13, I (Int.ofNat xs.length)), (14, B false)], smxsH z4 xs, 2⟩ = some (.ret [B true], smxsH z4 xs) := by kernel_rfl
theorem smxs_run (z4 : Bool) (xs : List Int) (hl : xs.length ≤ maxLen) : runC g173 Tryz.f33 5 [(4, [0, 1, 5])] [.os 0 0, .d (.slice i64T) xs] (smxsH z4 xs) ah = some (.ret [B true], smxsH z4 xs) := by
  rw [smxs_lp]
  exact allP_lp (T := fun n s => lp g173 cf_smxs (cL (cL (cR (cL (cR (cR C_smxs)))))) n s smxsK) (xs := xs) (st := smxsSt z4 xs) (r := some (.ret [B true], smxsH z4 xs)) hl (fun i x hx hi hlt n => by
    rw [smxs_step, decide_eq_true (show (i : Int) < Int.ofNat xs.length from Int.ofNat_lt.2 hlt), hi, show xs[(i : Int).toNat]? = some x from hx]
    simp only [cond_true, Option.bind_some, bne_self_eq_false, cond_false]
    rfl) (fun n => by
    rw [smxs_step, decide_eq_false (show ¬ (Int.ofNat xs.length < Int.ofNat xs.length) from Int.lt_irrefl _)]
    exact smxsK_exit _ _ _)
def smxsF : List AV → LHp → Tq
  | [.os 0 0, .d (.slice (.int .i64)) ys], [(0, .arr 3 (.int .i64) 0 z4 xs)] => .br (decide (xs.length ≤ maxLen ∧ xs = ys)) (.leaf (.ret [B true]) (smxsH z4 xs)) .no
  | _, _ => .no
theorem smxsE_ok : FnE.OK e0.P e0.gam 33 (treeE smxsF) := by
  have h1 : FnE.OK e0.P e0.gam 33 (execFnC g173 Tryz.f33 5 [(4, [0, 1, 5])]) := y33_ok
  refine ⟨fun _ _ _ => Tq.eq _ _, fun args hs ae hs' h => ?_⟩
  have h' : (smxsF args hs).run ah = some (ae, hs') := h
  clear h
  unfold smxsF at h'
  split at h'
  · obtain ⟨hb, h2⟩ := Tq.br_no h'
    clear h'
    obtain ⟨hl, he⟩ := of_decide_eq_true hb
    subst he
    cases h2
    exact h1.okC (smxs_run _ _ hl)
  · cases h'
noncomputable def C_smxt : Code := codeOf Tryz.f18
noncomputable def cf_smxt : Cfg := ⟨46, 6, 2, [(4, [2, 3, 5])], true⟩
noncomputable def gsmx : Env := g174.add 33 (treeE smxsF)
theorem gsmx_good : gsmx.Good := g174_good.add smxsE_ok
def smxtH (z3 z4 : Bool) (xd dt : List Int) : LHp := [(0, .arr 2 i64T 0 z3 dt), (1, .arr 3 i64T 0 z4 xd)]
def smxtA (t : Int) : AV := .pr (I t) (.pr (.os 1 0) (.pr (.os 0 0) (.d .unit ())))
def smxtB (t : Int) (xd dt : List Int) : AV := .d (Y0) (t, xd, dt, ())
theorem smxt_eqH (hl : Hl) (z3 z4 : Bool) (t : Int) (xd dt : List Int) : runH gsmx Tryz.f18 6 [(4, [2, 3, 5])] [4] hl [smxtA t, smxtB t xd dt] (smxtH z3 z4 xd dt) ah =
  bif t != t then some (AEnd.ret [B false], [(0, AObj.arr 2 (i64T) 0 z3 dt), (1, AObj.arr 3 (i64T) 0 z4 xd)])
  else 
    bif decide (xd.length ≤ 9223372036854775807 ∧ xd = xd) then 
      bif Int.ofNat dt.length != Int.ofNat dt.length then some (AEnd.ret [B false], [(0, AObj.arr 2 (i64T) 0 z3 dt), (1, AObj.arr 3 (i64T) 0 z4 xd)])
      else hl (cL (cL (cR (cL (cR (cR C_smxt)))))) _ { fr := mkFr 6 [(2, AV.op 2 [] 0), (3, AV.op 3 [] 0), (5, I 0)], hp := [(0, AObj.arr 2 (i64T) 0 z3 dt), (1, AObj.arr 3 (i64T) 0 z4 xd), (2, AObj.box ((I t).pr ((AV.os 1 0).pr ((AV.os 0 0).pr (AV.d Ty.unit PUnit.unit))))), (3, AObj.box (AV.d ((i64T).pair ((i64T).slice.pair ((i64T).slice.pair Ty.unit))) (t, xd, dt, PUnit.unit)))], nx := 6 } (blkK 0 (seqH gsmx cf_smxt [4] hl (cR (cR (cR C_smxt))) (endC Tryz.prog 2 Tryz.f18.results.toList ah)))
    else none := by kernel_rfl
theorem smxt_eq (z3 z4 : Bool) (t : Int) (xd dt : List Int) : runC gsmx Tryz.f18 6 [(4, [2, 3, 5])] [smxtA t, smxtB t xd dt] (smxtH z3 z4 xd dt) ah =
  bif t != t then some (AEnd.ret [B false], [(0, AObj.arr 2 (i64T) 0 z3 dt), (1, AObj.arr 3 (i64T) 0 z4 xd)])
  else 
    bif decide (xd.length ≤ 9223372036854775807 ∧ xd = xd) then 
      bif Int.ofNat dt.length != Int.ofNat dt.length then some (AEnd.ret [B false], [(0, AObj.arr 2 (i64T) 0 z3 dt), (1, AObj.arr 3 (i64T) 0 z4 xd)])
      else (hlp gsmx cf_smxt) (cL (cL (cR (cL (cR (cR C_smxt)))))) _ { fr := mkFr 6 [(2, AV.op 2 [] 0), (3, AV.op 3 [] 0), (5, I 0)], hp := [(0, AObj.arr 2 (i64T) 0 z3 dt), (1, AObj.arr 3 (i64T) 0 z4 xd), (2, AObj.box ((I t).pr ((AV.os 1 0).pr ((AV.os 0 0).pr (AV.d Ty.unit PUnit.unit))))), (3, AObj.box (AV.d ((i64T).pair ((i64T).slice.pair ((i64T).slice.pair Ty.unit))) (t, xd, dt, PUnit.unit)))], nx := 6 } (blkK 0 (seqH gsmx cf_smxt [4] (hlp gsmx cf_smxt) (cR (cR (cR C_smxt))) (endC Tryz.prog 2 Tryz.f18.results.toList ah)))
    else none := runH_runC.trans (smxt_eqH (hlp gsmx cf_smxt) z3 z4 t xd dt)
def smxtSt (z3 z4 : Bool) (t : Int) (xd dt : List Int) (i : Int) : LSt := ⟨mkFr 6 [(2, .op 2 [] 0), (3, .op 3 [] 0), (5, I i)], smxtH z3 z4 xd dt ++ [(2, .box (smxtA t)), (3, .box (smxtB t xd dt))], 6⟩
theorem smxt_stepH (hl : Hl) (z3 z4 : Bool) (t : Int) (xd dt : List Int) (i : Int) (n : Nat) {R : Type} (k : AEx → LSt → Option R) : lpH gsmx cf_smxt [4] hl (cL (cL (cR (cL (cR (cR C_smxt)))))) (n + 1) (smxtSt z3 z4 t xd dt i) k =
  bif decide (i < Int.ofNat dt.length) then (idx dt i).bind fun v1 =>
      (dt[i.toNat]?).bind fun v2 =>
        (idx dt i).bind fun v3 =>
          bif v2 != v3 then k AEx.ret { fr := mkFr 6 [(2, AV.op 2 [] 0), (3, AV.op 3 [] 0), (4, B false), (5, I i), (28, I i), (29, AV.op 2 [2] 2), (30, AV.os 0 0), (31, I (Int.ofNat dt.length)), (32, B true), (35, AV.op 2 [2] 2), (36, AV.os 0 0), (37, I i), (38, AV.oe 0 0 i.toNat), (39, I v2), (40, AV.op 3 [2] 2), (41, AV.d (i64T).slice dt), (42, I i), (43, AV.ip (i64T) v3), (44, I v3), (45, B true)], hp := [(0, AObj.arr 2 (i64T) 0 z3 dt), (1, AObj.arr 3 (i64T) 0 z4 xd), (2, AObj.box ((I t).pr ((AV.os 1 0).pr ((AV.os 0 0).pr (AV.d Ty.unit PUnit.unit))))), (3, AObj.box (AV.d ((i64T).pair ((i64T).slice.pair ((i64T).slice.pair Ty.unit))) (t, xd, dt, PUnit.unit)))], nx := 6 }
          else lpH gsmx cf_smxt [4] hl (cL (cL (cR (cL (cR (cR C_smxt)))))) n { fr := mkFr 6 [(2, AV.op 2 [] 0), (3, AV.op 3 [] 0), (5, I (IntKind.i64.wrap (i + 1)))], hp := [(0, AObj.arr 2 (i64T) 0 z3 dt), (1, AObj.arr 3 (i64T) 0 z4 xd), (2, AObj.box ((I t).pr ((AV.os 1 0).pr ((AV.os 0 0).pr (AV.d Ty.unit PUnit.unit))))), (3, AObj.box (AV.d ((i64T).pair ((i64T).slice.pair ((i64T).slice.pair Ty.unit))) (t, xd, dt, PUnit.unit)))], nx := 6 } k
  else k (AEx.exit 0) { fr := mkFr 6 [(2, AV.op 2 [] 0), (3, AV.op 3 [] 0), (5, I i), (28, I i), (29, AV.op 2 [2] 2), (30, AV.os 0 0), (31, I (Int.ofNat dt.length)), (32, B false)], hp := [(0, AObj.arr 2 (i64T) 0 z3 dt), (1, AObj.arr 3 (i64T) 0 z4 xd), (2, AObj.box ((I t).pr ((AV.os 1 0).pr ((AV.os 0 0).pr (AV.d Ty.unit PUnit.unit))))), (3, AObj.box (AV.d ((i64T).pair ((i64T).slice.pair ((i64T).slice.pair Ty.unit))) (t, xd, dt, PUnit.unit)))], nx := 6 } := by kernel_rfl
theorem smxt_step (z3 z4 : Bool) (t : Int) (xd dt : List Int) (i : Int) (n : Nat) {R : Type} (k : AEx → LSt → Option R) : lp gsmx cf_smxt (cL (cL (cR (cL (cR (cR C_smxt)))))) (n + 1) (smxtSt z3 z4 t xd dt i) k =
  bif decide (i < Int.ofNat dt.length) then (idx dt i).bind fun v1 =>
      (dt[i.toNat]?).bind fun v2 =>
        (idx dt i).bind fun v3 =>
          bif v2 != v3 then k AEx.ret { fr := mkFr 6 [(2, AV.op 2 [] 0), (3, AV.op 3 [] 0), (4, B false), (5, I i), (28, I i), (29, AV.op 2 [2] 2), (30, AV.os 0 0), (31, I (Int.ofNat dt.length)), (32, B true), (35, AV.op 2 [2] 2), (36, AV.os 0 0), (37, I i), (38, AV.oe 0 0 i.toNat), (39, I v2), (40, AV.op 3 [2] 2), (41, AV.d (i64T).slice dt), (42, I i), (43, AV.ip (i64T) v3), (44, I v3), (45, B true)], hp := [(0, AObj.arr 2 (i64T) 0 z3 dt), (1, AObj.arr 3 (i64T) 0 z4 xd), (2, AObj.box ((I t).pr ((AV.os 1 0).pr ((AV.os 0 0).pr (AV.d Ty.unit PUnit.unit))))), (3, AObj.box (AV.d ((i64T).pair ((i64T).slice.pair ((i64T).slice.pair Ty.unit))) (t, xd, dt, PUnit.unit)))], nx := 6 }
          else lp gsmx cf_smxt (cL (cL (cR (cL (cR (cR C_smxt)))))) n { fr := mkFr 6 [(2, AV.op 2 [] 0), (3, AV.op 3 [] 0), (5, I (IntKind.i64.wrap (i + 1)))], hp := [(0, AObj.arr 2 (i64T) 0 z3 dt), (1, AObj.arr 3 (i64T) 0 z4 xd), (2, AObj.box ((I t).pr ((AV.os 1 0).pr ((AV.os 0 0).pr (AV.d Ty.unit PUnit.unit))))), (3, AObj.box (AV.d ((i64T).pair ((i64T).slice.pair ((i64T).slice.pair Ty.unit))) (t, xd, dt, PUnit.unit)))], nx := 6 } k
  else k (AEx.exit 0) { fr := mkFr 6 [(2, AV.op 2 [] 0), (3, AV.op 3 [] 0), (5, I i), (28, I i), (29, AV.op 2 [2] 2), (30, AV.os 0 0), (31, I (Int.ofNat dt.length)), (32, B false)], hp := [(0, AObj.arr 2 (i64T) 0 z3 dt), (1, AObj.arr 3 (i64T) 0 z4 xd), (2, AObj.box ((I t).pr ((AV.os 1 0).pr ((AV.os 0 0).pr (AV.d Ty.unit PUnit.unit))))), (3, AObj.box (AV.d ((i64T).pair ((i64T).slice.pair ((i64T).slice.pair Ty.unit))) (t, xd, dt, PUnit.unit)))], nx := 6 } := by
  have h := smxt_stepH (hlp gsmx cf_smxt) z3 z4 t xd dt i n k
  simp only [lpH_lp] at h
  exact h
noncomputable def smxtK : AEx → LSt → Option (AEnd × LHp) := (blkK 0 (seqH gsmx cf_smxt [4] (hlp gsmx cf_smxt) (cR (cR (cR C_smxt))) (endC Tryz.prog 2 Tryz.f18.results.toList ah)))
theorem smxt_lp (z3 z4 : Bool) (t : Int) (xd dt : List Int) (hl : xd.length ≤ maxLen) : runC gsmx Tryz.f18 6 [(4, [2, 3, 5])] [smxtA t, smxtB t xd dt] (smxtH z3 z4 xd dt) ah = lp gsmx cf_smxt (cL (cL (cR (cL (cR (cR C_smxt)))))) fu (smxtSt z3 z4 t xd dt 0) smxtK := (smxt_eq z3 z4 t xd dt).trans (by rw [bne_self_eq_false, bne_self_eq_false, decide_eq_true (show xd.length ≤ 9223372036854775807 ∧ xd = xd from ⟨hl, rfl⟩), cond_false, cond_false, cond_true]; kernel_rfl)
theorem smxtK_exit (z3 z4 : Bool) (t : Int) (xd dt : List Int) (i : Int) : smxtK (AEx.exit 0) ⟨mkFr 6 [(2, .op 2 [] 0), (3, .op 3 [] 0), (5, I i), (28, I i), (29, AV.op 2 [2] 2), (30, AV.os 0 0), (31, I (Int.ofNat dt.length)), (32, B false)], smxtH z3 z4 xd dt ++ [(2, .box (smxtA t)), (3, .box (smxtB t xd dt))], 6⟩ = some (.ret [B true], smxtH z3 z4 xd dt) := by kernel_rfl
theorem smxt_run (z3 z4 : Bool) (t : Int) (xd dt : List Int) (h1 : xd.length ≤ maxLen) (h2 : dt.length ≤ maxLen) : runC gsmx Tryz.f18 6 [(4, [2, 3, 5])] [smxtA t, smxtB t xd dt] (smxtH z3 z4 xd dt) ah = some (.ret [B true], smxtH z3 z4 xd dt) := by
  rw [smxt_lp z3 z4 t xd dt h1]
  exact allP_lp (T := fun n s => lp gsmx cf_smxt (cL (cL (cR (cL (cR (cR C_smxt)))))) n s smxtK) (xs := dt) (st := smxtSt z3 z4 t xd dt) (r := some (.ret [B true], smxtH z3 z4 xd dt)) h2 (fun i x hx hi hlt n => by
    rw [smxt_step, decide_eq_true (show (i : Int) < Int.ofNat dt.length from Int.ofNat_lt.2 hlt), hi]
    simp only [show dt[(i : Int).toNat]? = some x from hx, cond_true, Option.bind_some, bne_self_eq_false, cond_false]
    rfl) (fun n => by
    rw [smxt_step, decide_eq_false (show ¬ (Int.ofNat dt.length < Int.ofNat dt.length) from Int.lt_irrefl _)]
    exact smxtK_exit _ _ _ _ _ _)
def smxtF : List AV → LHp → Tq
  | [.pr (.d (.int .i64) t) (.pr (.os 1 0) (.pr (.os 0 0) (.d .unit ()))), .d ((.pair (.int .i64) (.pair (.slice (.int .i64)) (.pair (.slice (.int .i64)) .unit)))) (t2, xd2, dt2, ())], [(0, .arr 2 (.int .i64) 0 z3 dt), (1, .arr 3 (.int .i64) 0 z4 xd)] =>
    .br (decide (xd.length ≤ maxLen ∧ dt.length ≤ maxLen ∧ t = t2 ∧ xd = xd2 ∧ dt = dt2)) (.leaf (.ret [B true]) (smxtH z3 z4 xd dt)) .no
  | _, _ => .no
theorem smxtE_ok : FnE.OK e0.P e0.gam 18 (treeE smxtF) := by
  have h1 : FnE.OK e0.P e0.gam 18 (execFnC gsmx Tryz.f18 6 [(4, [2, 3, 5])]) := execFnC_ok gsmx_good hmix Tryz.func18 Tryz.call18 (by decide +kernel) rfl
  refine ⟨fun _ _ _ => Tq.eq _ _, fun args hs ae hs' h => ?_⟩
  have h' : (smxtF args hs).run ah = some (ae, hs') := h
  clear h
  unfold smxtF at h'
  split at h'
  · obtain ⟨hb, h2⟩ := Tq.br_no h'
    clear h'
    obtain ⟨hl, hl2, he1, he2, he3⟩ := of_decide_eq_true hb
    subst he1 he2 he3
    cases h2
    exact h1.okC (smxt_run _ _ _ _ _ hl hl2)
  · cases h'
end Go.Proofs.XGT
namespace Go.Proofs.XGT
open Go.Vm Go
set_option maxRecDepth 100000
set_option maxHeartbeats 4000000
noncomputable def gMf : Env := ((g230.add 27 (treeE (mdP mdK))).add 18 (treeElse smxtF y18)).add 25 (fnE livtF)
theorem gMf_good : gMf.Good := ((g230_good.add (mdP_ok _ fun _ _ _ _ => .inr rfl)).add (treeElse_ok smxtE_ok y18_ok)).add livtE_ok
theorem mbk1_eq (t p0 : Int) (d x : List Int) : runC gMf Tryz.f10 7 [(9, [1, 2, 5, 6, 8, 9])] [.d (Y0) (t, d, x, ()), .d (.slice i64T) [p0]] [] ah =
  bif decide (Int.ofNat x.length > 2000) then some (AEnd.ret [B true], [])
  else 
    bif decide (x.length ≤ 9223372036854775807 ∧ d.length ≤ 9223372036854775807 ∧ 1 ≤ 2147483648) then 
      bif tenE t d x != 0 then some (AEnd.ret [B true], [])
      else 
        bif !decide (d = [] ∧ [p0] = []) then 
          bif ordD d [p0] then (idx [(0 : Int)] p0).bind fun v5 =>
              (setN [0] p0.toNat 0).bind fun v6 =>
                bif decide ((turnG d [p0] x).length ≤ 9223372036854775807 ∧ 1 ≤ 9223372036854775807 ∧ v6.length ≤ 2147483648) then 
                  bif tenE t [d.getD p0.toNat 0] (turnG d [p0] x) != 0 then some (AEnd.ret [B false], [])
                  else 
                    bif ordD [d.getD p0.toNat 0] v6 then 
                      bif decide ((permI [d.getD p0.toNat 0] v6).length ≤ 9223372036854775807 ∧ (turnG [d.getD p0.toNat 0] v6 (turnG d [p0] x)).length ≤ 9223372036854775807 ∧ t = t ∧ permI [d.getD p0.toNat 0] v6 = d ∧ turnG [d.getD p0.toNat 0] v6 (turnG d [p0] x) = x) then some (AEnd.ret [B true], [])
                      else none
                    else some (AEnd.ret [B false], [])
                else none
          else some (AEnd.ret [B true], [])
        else none
    else none := by kernel_rfl
theorem mbk2_eq (t p0 p1 : Int) (d x : List Int) : runC gMf Tryz.f10 7 [(9, [1, 2, 5, 6, 8, 9])] [.d (Y0) (t, d, x, ()), .d (.slice i64T) [p0, p1]] [] ah =
  bif decide (Int.ofNat x.length > 2000) then some (AEnd.ret [B true], [])
  else 
    bif decide (x.length ≤ 9223372036854775807 ∧ d.length ≤ 9223372036854775807 ∧ 2 ≤ 2147483648) then 
      bif tenE t d x != 0 then some (AEnd.ret [B true], [])
      else 
        bif !decide (d = [] ∧ [p0, p1] = []) then 
          bif ordD d [p0, p1] then (idx [(0 : Int), 0] p0).bind fun v5 =>
              (setN [0, 0] p0.toNat 0).bind fun v6 =>
                (idx v6 p1).bind fun v7 =>
                  (setN v6 p1.toNat 1).bind fun v8 =>
                    bif decide ((turnG d [p0, p1] x).length ≤ 9223372036854775807 ∧ 2 ≤ 9223372036854775807 ∧ v8.length ≤ 2147483648) then 
                      bif tenE t [d.getD p0.toNat 0, d.getD p1.toNat 0] (turnG d [p0, p1] x) != 0 then some (AEnd.ret [B false], [])
                      else 
                        bif ordD [d.getD p0.toNat 0, d.getD p1.toNat 0] v8 then 
                          bif decide ((permI [d.getD p0.toNat 0, d.getD p1.toNat 0] v8).length ≤ 9223372036854775807 ∧ (turnG [d.getD p0.toNat 0, d.getD p1.toNat 0] v8 (turnG d [p0, p1] x)).length ≤ 9223372036854775807 ∧ t = t ∧ permI [d.getD p0.toNat 0, d.getD p1.toNat 0] v8 = d ∧ turnG [d.getD p0.toNat 0, d.getD p1.toNat 0] v8 (turnG d [p0, p1] x) = x) then some (AEnd.ret [B true], [])
                          else none
                        else some (AEnd.ret [B false], [])
                    else none
          else some (AEnd.ret [B true], [])
        else none
    else none := by kernel_rfl
theorem mbk3_eq (t p0 p1 p2 : Int) (d x : List Int) : runC gMf Tryz.f10 7 [(9, [1, 2, 5, 6, 8, 9])] [.d (Y0) (t, d, x, ()), .d (.slice i64T) [p0, p1, p2]] [] ah =
  bif decide (Int.ofNat x.length > 2000) then some (AEnd.ret [B true], [])
  else 
    bif decide (x.length ≤ 9223372036854775807 ∧ d.length ≤ 9223372036854775807 ∧ 3 ≤ 2147483648) then 
      bif tenE t d x != 0 then some (AEnd.ret [B true], [])
      else 
        bif !decide (d = [] ∧ [p0, p1, p2] = []) then 
          bif ordD d [p0, p1, p2] then (idx [(0 : Int), 0, 0] p0).bind fun v5 =>
              (setN [0, 0, 0] p0.toNat 0).bind fun v6 =>
                (idx v6 p1).bind fun v7 =>
                  (setN v6 p1.toNat 1).bind fun v8 =>
                    (idx v8 p2).bind fun v9 =>
                      (setN v8 p2.toNat 2).bind fun v10 =>
                        bif decide ((turnG d [p0, p1, p2] x).length ≤ 9223372036854775807 ∧ 3 ≤ 9223372036854775807 ∧ v10.length ≤ 2147483648) then 
                          bif tenE t [d.getD p0.toNat 0, d.getD p1.toNat 0, d.getD p2.toNat 0] (turnG d [p0, p1, p2] x) != 0 then some (AEnd.ret [B false], [])
                          else 
                            bif ordD [d.getD p0.toNat 0, d.getD p1.toNat 0, d.getD p2.toNat 0] v10 then 
                              bif decide ((permI [d.getD p0.toNat 0, d.getD p1.toNat 0, d.getD p2.toNat 0] v10).length ≤ 9223372036854775807 ∧ (turnG [d.getD p0.toNat 0, d.getD p1.toNat 0, d.getD p2.toNat 0] v10 (turnG d [p0, p1, p2] x)).length ≤ 9223372036854775807 ∧ t = t ∧ permI [d.getD p0.toNat 0, d.getD p1.toNat 0, d.getD p2.toNat 0] v10 = d ∧ turnG [d.getD p0.toNat 0, d.getD p1.toNat 0, d.getD p2.toNat 0] v10 (turnG d [p0, p1, p2] x) = x) then some (AEnd.ret [B true], [])
                              else none
                            else some (AEnd.ret [B false], [])
                        else none
          else some (AEnd.ret [B true], [])
        else none
    else none := by kernel_rfl
theorem mbk4_eq (t p0 p1 p2 p3 : Int) (d x : List Int) : runC gMf Tryz.f10 7 [(9, [1, 2, 5, 6, 8, 9])] [.d (Y0) (t, d, x, ()), .d (.slice i64T) [p0, p1, p2, p3]] [] ah =
  bif decide (Int.ofNat x.length > 2000) then some (AEnd.ret [B true], [])
  else 
    bif decide (x.length ≤ 9223372036854775807 ∧ d.length ≤ 9223372036854775807 ∧ 4 ≤ 2147483648) then 
      bif tenE t d x != 0 then some (AEnd.ret [B true], [])
      else 
        bif !decide (d = [] ∧ [p0, p1, p2, p3] = []) then 
          bif ordD d [p0, p1, p2, p3] then (idx [(0 : Int), 0, 0, 0] p0).bind fun v5 =>
              (setN [0, 0, 0, 0] p0.toNat 0).bind fun v6 =>
                (idx v6 p1).bind fun v7 =>
                  (setN v6 p1.toNat 1).bind fun v8 =>
                    (idx v8 p2).bind fun v9 =>
                      (setN v8 p2.toNat 2).bind fun v10 =>
                        (idx v10 p3).bind fun v11 =>
                          (setN v10 p3.toNat 3).bind fun v12 =>
                            bif decide ((turnG d [p0, p1, p2, p3] x).length ≤ 9223372036854775807 ∧ 4 ≤ 9223372036854775807 ∧ v12.length ≤ 2147483648) then 
                              bif tenE t [d.getD p0.toNat 0, d.getD p1.toNat 0, d.getD p2.toNat 0, d.getD p3.toNat 0] (turnG d [p0, p1, p2, p3] x) != 0 then some (AEnd.ret [B false], [])
                              else 
                                bif ordD [d.getD p0.toNat 0, d.getD p1.toNat 0, d.getD p2.toNat 0, d.getD p3.toNat 0] v12 then 
                                  bif decide ((permI [d.getD p0.toNat 0, d.getD p1.toNat 0, d.getD p2.toNat 0, d.getD p3.toNat 0] v12).length ≤ 9223372036854775807 ∧ (turnG [d.getD p0.toNat 0, d.getD p1.toNat 0, d.getD p2.toNat 0, d.getD p3.toNat 0] v12 (turnG d [p0, p1, p2, p3] x)).length ≤ 9223372036854775807 ∧ t = t ∧ permI [d.getD p0.toNat 0, d.getD p1.toNat 0, d.getD p2.toNat 0, d.getD p3.toNat 0] v12 = d ∧ turnG [d.getD p0.toNat 0, d.getD p1.toNat 0, d.getD p2.toNat 0, d.getD p3.toNat 0] v12 (turnG d [p0, p1, p2, p3] x) = x) then some (AEnd.ret [B true], [])
                                  else none
                                else some (AEnd.ret [B false], [])
                            else none
          else some (AEnd.ret [B true], [])
        else none
    else none := by kernel_rfl
theorem mbk5_eq (t p0 p1 p2 p3 p4 : Int) (d x : List Int) : runC gMf Tryz.f10 7 [(9, [1, 2, 5, 6, 8, 9])] [.d (Y0) (t, d, x, ()), .d (.slice i64T) [p0, p1, p2, p3, p4]] [] ah =
  bif decide (Int.ofNat x.length > 2000) then some (AEnd.ret [B true], [])
  else 
    bif decide (x.length ≤ 9223372036854775807 ∧ d.length ≤ 9223372036854775807 ∧ 5 ≤ 2147483648) then 
      bif tenE t d x != 0 then some (AEnd.ret [B true], [])
      else 
        bif !decide (d = [] ∧ [p0, p1, p2, p3, p4] = []) then 
          bif ordD d [p0, p1, p2, p3, p4] then (idx [(0 : Int), 0, 0, 0, 0] p0).bind fun v5 =>
              (setN [0, 0, 0, 0, 0] p0.toNat 0).bind fun v6 =>
                (idx v6 p1).bind fun v7 =>
                  (setN v6 p1.toNat 1).bind fun v8 =>
                    (idx v8 p2).bind fun v9 =>
                      (setN v8 p2.toNat 2).bind fun v10 =>
                        (idx v10 p3).bind fun v11 =>
                          (setN v10 p3.toNat 3).bind fun v12 =>
                            (idx v12 p4).bind fun v13 =>
                              (setN v12 p4.toNat 4).bind fun v14 =>
                                bif decide ((turnG d [p0, p1, p2, p3, p4] x).length ≤ 9223372036854775807 ∧ 5 ≤ 9223372036854775807 ∧ v14.length ≤ 2147483648) then 
                                  bif tenE t [d.getD p0.toNat 0, d.getD p1.toNat 0, d.getD p2.toNat 0, d.getD p3.toNat 0, d.getD p4.toNat 0] (turnG d [p0, p1, p2, p3, p4] x) != 0 then some (AEnd.ret [B false], [])
                                  else 
                                    bif ordD [d.getD p0.toNat 0, d.getD p1.toNat 0, d.getD p2.toNat 0, d.getD p3.toNat 0, d.getD p4.toNat 0] v14 then 
                                      bif decide ((permI [d.getD p0.toNat 0, d.getD p1.toNat 0, d.getD p2.toNat 0, d.getD p3.toNat 0, d.getD p4.toNat 0] v14).length ≤ 9223372036854775807 ∧ (turnG [d.getD p0.toNat 0, d.getD p1.toNat 0, d.getD p2.toNat 0, d.getD p3.toNat 0, d.getD p4.toNat 0] v14 (turnG d [p0, p1, p2, p3, p4] x)).length ≤ 9223372036854775807 ∧ t = t ∧ permI [d.getD p0.toNat 0, d.getD p1.toNat 0, d.getD p2.toNat 0, d.getD p3.toNat 0, d.getD p4.toNat 0] v14 = d ∧ turnG [d.getD p0.toNat 0, d.getD p1.toNat 0, d.getD p2.toNat 0, d.getD p3.toNat 0, d.getD p4.toNat 0] v14 (turnG d [p0, p1, p2, p3, p4] x) = x) then some (AEnd.ret [B true], [])
                                      else none
                                    else some (AEnd.ret [B false], [])
                                else none
          else some (AEnd.ret [B true], [])
        else none
    else none := by kernel_rfl
theorem mbk6_eq (t p0 p1 p2 p3 p4 p5 : Int) (d x : List Int) : runC gMf Tryz.f10 7 [(9, [1, 2, 5, 6, 8, 9])] [.d (Y0) (t, d, x, ()), .d (.slice i64T) [p0, p1, p2, p3, p4, p5]] [] ah =
  bif decide (Int.ofNat x.length > 2000) then some (AEnd.ret [B true], [])
  else 
    bif decide (x.length ≤ 9223372036854775807 ∧ d.length ≤ 9223372036854775807 ∧ 6 ≤ 2147483648) then 
      bif tenE t d x != 0 then some (AEnd.ret [B true], [])
      else 
        bif !decide (d = [] ∧ [p0, p1, p2, p3, p4, p5] = []) then 
          bif ordD d [p0, p1, p2, p3, p4, p5] then (idx [(0 : Int), 0, 0, 0, 0, 0] p0).bind fun v5 =>
              (setN [0, 0, 0, 0, 0, 0] p0.toNat 0).bind fun v6 =>
                (idx v6 p1).bind fun v7 =>
                  (setN v6 p1.toNat 1).bind fun v8 =>
                    (idx v8 p2).bind fun v9 =>
                      (setN v8 p2.toNat 2).bind fun v10 =>
                        (idx v10 p3).bind fun v11 =>
                          (setN v10 p3.toNat 3).bind fun v12 =>
                            (idx v12 p4).bind fun v13 =>
                              (setN v12 p4.toNat 4).bind fun v14 =>
                                (idx v14 p5).bind fun v15 =>
                                  (setN v14 p5.toNat 5).bind fun v16 =>
                                    bif decide ((turnG d [p0, p1, p2, p3, p4, p5] x).length ≤ 9223372036854775807 ∧ 6 ≤ 9223372036854775807 ∧ v16.length ≤ 2147483648) then 
                                      bif tenE t [d.getD p0.toNat 0, d.getD p1.toNat 0, d.getD p2.toNat 0, d.getD p3.toNat 0, d.getD p4.toNat 0, d.getD p5.toNat 0] (turnG d [p0, p1, p2, p3, p4, p5] x) != 0 then some (AEnd.ret [B false], [])
                                      else 
                                        bif ordD [d.getD p0.toNat 0, d.getD p1.toNat 0, d.getD p2.toNat 0, d.getD p3.toNat 0, d.getD p4.toNat 0, d.getD p5.toNat 0] v16 then 
                                          bif decide ((permI [d.getD p0.toNat 0, d.getD p1.toNat 0, d.getD p2.toNat 0, d.getD p3.toNat 0, d.getD p4.toNat 0, d.getD p5.toNat 0] v16).length ≤ 9223372036854775807 ∧ (turnG [d.getD p0.toNat 0, d.getD p1.toNat 0, d.getD p2.toNat 0, d.getD p3.toNat 0, d.getD p4.toNat 0, d.getD p5.toNat 0] v16 (turnG d [p0, p1, p2, p3, p4, p5] x)).length ≤ 9223372036854775807 ∧ t = t ∧ permI [d.getD p0.toNat 0, d.getD p1.toNat 0, d.getD p2.toNat 0, d.getD p3.toNat 0, d.getD p4.toNat 0, d.getD p5.toNat 0] v16 = d ∧ turnG [d.getD p0.toNat 0, d.getD p1.toNat 0, d.getD p2.toNat 0, d.getD p3.toNat 0, d.getD p4.toNat 0, d.getD p5.toNat 0] v16 (turnG d [p0, p1, p2, p3, p4, p5] x) = x) then some (AEnd.ret [B true], [])
                                          else none
                                        else some (AEnd.ret [B false], [])
                                    else none
          else some (AEnd.ret [B true], [])
        else none
    else none := by kernel_rfl
end Go.Proofs.XGT
namespace Go.Proofs.XGT
open Go.Vm Go
set_option maxRecDepth 100000
set_option maxHeartbeats 4000000
noncomputable def cnW : FnE := treeElse countG x57
theorem cnW_ok : FnE.OK e0.P e0.gam 57 cnW := treeElse_ok countG_ok x57_ok
noncomputable def ouW : FnE := execFnDC (g152.add 57 cnW) Tryz.f55 7 [(5, [1, 2, 4, 5, 26, 27, 28])] dd55
theorem ouW_ok : FnE.OK e0.P e0.gam 55 ouW := execFnDC_ok (g152_good.add cnW_ok) (execFnD_ok (D := dd55) (g152_good.add cnW_ok) hmix Tryz.func55 Tryz.call55 rfl rfl (by decide +kernel) rfl Tryz.func89 Tryz.call89 rfl rfl (by decide +kernel))
noncomputable def gBw : Env := g212.add 55 ouW
theorem gBw_good : gBw.Good := g212_good.add ouW_ok
noncomputable def bhW : FnE := execFnC gBw Tryz.f42 6 [(3, [2, 4, 6, 9, 10, 11])]
theorem bhW_ok : FnE.OK e0.P e0.gam 42 bhW := execFnC_ok gBw_good hmix Tryz.func42 Tryz.call42 (by decide +kernel) rfl
noncomputable def mdW : FnE := execFnC (g227.add 42 bhW) Tryz.f27 7 []
theorem mdW_ok : FnE.OK e0.P e0.gam 27 mdW := execFnC_ok (g227_good.add bhW_ok) hmix Tryz.func27 Tryz.call27 (by decide +kernel) rfl
noncomputable def gMw : Env := (g230.add 27 mdW).add 25 (fnE livtF)
theorem gMw_good : gMw.Good := (g230_good.add mdW_ok).add livtE_ok
theorem mbk0_eq (t v : Int) : runC gMw Tryz.f10 7 [(9, [1, 2, 5, 6, 8, 9])] [.d (Y0) (t, [], [v], ()), .d (.slice i64T) []] [] ah =
  bif tenE t [] [v] != 0 then some (AEnd.ret [B true], [])
  else 
    bif !numOk t 0 then some (AEnd.ret [B true], [])
    else 
      bif t == 6 then 
        bif tenE t [] [v] != 0 then some (AEnd.ret [B false], [])
        else 
          bif !numOk t 0 then some (AEnd.ret [B false], [])
          else 
            bif t == 6 then 
              bif t != t then some (AEnd.ret [B false], [])
              else 
                bif v != v then some (AEnd.ret [B false], [])
                else some (AEnd.ret [B true], [])
            else 
              bif t != t then some (AEnd.ret [B false], [])
              else 
                bif v != v then some (AEnd.ret [B false], [])
                else some (AEnd.ret [B true], [])
      else 
        bif tenE t [] [v] != 0 then some (AEnd.ret [B false], [])
        else 
          bif !numOk t 0 then some (AEnd.ret [B false], [])
          else 
            bif t == 6 then 
              bif t != t then some (AEnd.ret [B false], [])
              else 
                bif v != v then some (AEnd.ret [B false], [])
                else some (AEnd.ret [B true], [])
            else 
              bif t != t then some (AEnd.ret [B false], [])
              else 
                bif v != v then some (AEnd.ret [B false], [])
                else some (AEnd.ret [B true], []) := by kernel_rfl
end Go.Proofs.XGT
namespace Go.Proofs.XGT
open Go.Vm Go
set_option maxRecDepth 100000
set_option maxHeartbeats 1000000
/-- what the law's loop makes: at p stands where p stands in the order -/
def bkL : List Int → Nat → List Int → List Int
  | [], _, acc => acc
  | p :: r, i, acc => bkL r (i + 1) (acc.set p.toNat (i : Int))
def bkN : List Nat → Nat → List Nat → List Nat
  | [], _, acc => acc
  | p :: r, i, acc => bkN r (i + 1) (acc.set p i)
theorem bk_ints : ∀ (L : List Nat) (i : Nat) (acc : List Nat), bkL (ints L) i (ints acc) = ints (bkN L i acc)
  | [], _, _ => rfl
  | p :: r, i, acc => by
    show bkL (ints r) (i + 1) ((ints acc).set (Int.toNat (p : Int)) (i : Int)) = ints (bkN r (i + 1) (acc.set p i))
    rw [Int.toNat_natCast, show (ints acc).set p (i : Int) = ints (acc.set p i) by unfold ints; rw [List.map_set], bk_ints r]
theorem bkN_len : ∀ (L : List Nat) (i : Nat) (acc : List Nat), (bkN L i acc).length = acc.length
  | [], _, _ => rfl
  | p :: r, i, acc => by
    show (bkN r (i + 1) (acc.set p i)).length = _
    rw [bkN_len r, List.length_set]
theorem bkN_out : ∀ (L : List Nat) (i : Nat) (acc : List Nat) (k : Nat), k ∉ L → (bkN L i acc).getD k 0 = acc.getD k 0
  | [], _, _, _, _ => rfl
  | p :: r, i, acc, k, h => by
    show (bkN r (i + 1) (acc.set p i)).getD k 0 = _
    rw [bkN_out r _ _ k fun hk => h (by simp [hk])]
    have hne : p ≠ k := fun e => h (by simp [e])
    rw [List.getD_eq_getElem?_getD, List.getD_eq_getElem?_getD, List.getElem?_set_ne hne]
theorem bkN_at : ∀ (L : List Nat) (i : Nat) (acc : List Nat) (j : Nat), L.Nodup → (∀ p ∈ L, p < acc.length) → j < L.length → (bkN L i acc).getD (L.getD j 0) 0 = i + j
  | [], _, _, _, _, _, h => absurd h (Nat.not_lt_zero _)
  | p :: r, i, acc, j, nd, hl, h => by
    obtain ⟨h1, h2⟩ := List.nodup_cons.1 nd
    show (bkN r (i + 1) (acc.set p i)).getD ((p :: r).getD j 0) 0 = _
    cases j with
    | zero =>
      show (bkN r (i + 1) (acc.set p i)).getD p 0 = _
      rw [bkN_out r _ _ p h1, List.getD_eq_getElem?_getD, List.getElem?_set_self (hl p (by simp))]
      rfl
    | succ j =>
      have := bkN_at r (i + 1) (acc.set p i) j h2 (fun q hq => by rw [List.length_set]; exact hl q (by simp [hq])) (by simp only [List.length_cons] at h; omega)
      show (bkN r (i + 1) (acc.set p i)).getD (r.getD j 0) 0 = _
      omega
theorem bk_opp {L : List Nat} (h : L.Perm (List.range L.length)) : Opp L (bkN L 0 (List.replicate L.length 0)) := by
  have nd : L.Nodup := (h.nodup_iff).2 List.nodup_range
  have lt : ∀ p ∈ L, p < (List.replicate L.length 0).length := fun p hp => by rw [List.length_replicate]; exact List.mem_range.1 (h.subset hp)
  refine ⟨by rw [bkN_len, List.length_replicate], fun j hj => ?_, fun j hj => List.mem_range.1 (h.subset (getD_mem hj)), h⟩
  have := bkN_at L 0 (List.replicate L.length 0) j nd lt hj
  omega
theorem ints_rep0 (n : Nat) : ints (List.replicate n 0) = List.replicate n 0 := by unfold ints; rw [List.map_replicate]; rfl
theorem ordD_mk {D L : List Nat} (h : L.Perm (List.range L.length)) (hl : L.length = D.length) : ordD (ints D) (ints L) = true := by
  unfold ordD numC allIn
  have nd : L.Nodup := (h.nodup_iff).2 List.nodup_range
  have e1 : ((ints L).all fun v => decide (0 ≤ v) && decide (v ≤ Int.ofNat (ints D).length - 1)) = true := by
    rw [List.all_eq_true]
    intro v hv
    obtain ⟨p, hp, rfl⟩ := List.mem_map.1 hv
    have := List.mem_range.1 (h.subset hp)
    rw [ints_len, decide_eq_true (by omega), decide_eq_true (by simp only [Int.ofNat_eq_natCast]; omega)]
    rfl
  have e2 : ∀ (l pre : List Int), (pre ++ l).Nodup → dupL pre l = false := by
    intro l
    induction l with
    | nil => intro pre _; rfl
    | cons p r ih =>
      intro pre hn
      have h3 := ih (pre ++ [p]) (by rw [List.append_assoc]; exact hn)
      have hp : ∀ q ∈ pre, p ≠ q := fun q hq e => (List.nodup_append.1 hn).2.2 q hq p (by simp) e.symm
      unfold dupL
      rw [h3]
      clear ih h3 hn
      induction pre with
      | nil => rfl
      | cons q t ih2 =>
        unfold dupP
        rw [show (p == q) = false by rw [beq_eq_false_iff_ne]; exact hp q (by simp), cond_false]
        exact ih2 fun z hz => hp z (by simp [hz])
  have nd2 : (ints L).Nodup := by
    unfold ints
    exact List.pairwise_map.2 (nd.imp fun hab e => hab (by omega))
  rw [e1, e2 (ints L) [] (by rw [List.nil_append]; exact nd2), ints_len, ints_len, hl]
  simp
theorem vwL_len (o : Nat) (ds ss : List Nat) (l : List Int) : (vwL o ds ss l).length = prodN ds := tab_length _ _
theorem vwL_getD {o : Nat} {ds ss : List Nat} {l : List Int} {q : Nat} (h : q < prodN ds) : (vwL o ds ss l).getD q 0 = l.getD (o + dot (dig ds q) ss) 0 := by
  unfold vwL
  rw [List.getD_eq_getElem?_getD, tab_get h]
  rfl
theorem rdG_ints (o : Nat) (D S : List Nat) (l : List Int) : rdG (o : Int) (ints D) (ints S) l = vwL o D S l := by
  unfold rdG
  rw [ints_toNat, ints_toNat, Int.toNat_natCast]
theorem turnG_ints (D L : List Nat) (x : List Int) : turnG (ints D) (ints L) x = vwL 0 (pmN D L) (pmN (strN D) L) x := by
  unfold turnG
  rw [strI_ints, permI_ints, permI_ints]
  exact rdG_ints 0 _ _ _
structure Back (t : Int) (d x l b : List Int) : Prop where
  ylen : (turnG d l x).length ≤ 65536
  blen : b.length ≤ 6
  ten : tenE t (permI d l) (turnG d l x) = 0
  ord : ordD (permI d l) b = true
  dims : permI (permI d l) b = d
  data : turnG (permI d l) b (turnG d l x) = x
theorem back_all {t : Int} {d x l b : List Int} (ht : tenE t d x = 0) (ho : ordD d l = true) (hb : b = bkL l 0 (List.replicate l.length 0)) : Back t d x l b := by
  obtain ⟨n1, n2, n3, n4⟩ := ten_ok ht
  obtain ⟨_, _, _, c4⟩ := count_ok n2
  have hcp := count_permI n2 ho
  obtain ⟨_, _, _, c4'⟩ := count_ok hcp
  obtain ⟨D, L, rfl, rfl, h1, h2, h3, h4, h5, h6⟩ := ord_nat n2 ho
  have hp := mem_pmN h6 h4
  have hop := bk_opp h6
  rw [ints_len, ← ints_rep0, bk_ints] at hb
  generalize hB : bkN L 0 (List.replicate L.length 0) = B at hb hop
  subst hb
  rw [c4, prodI_ints] at n3
  rw [permI_ints, prodI_ints] at c4'
  have hx : x.length = prodN D := by omega
  have hy : (turnG (ints D) (ints L) x).length = prodN D := by rw [turnG_ints, vwL_len, prodN_perm hp]
  have hyg : ∀ q, q < prodN (pmN D L) → (turnG (ints D) (ints L) x).getD q 0 = x.getD (dot (dig (pmN D L) q) (pmN (strN D) L)) 0 := fun q hq => by
    rw [turnG_ints, vwL_getD hq, Nat.zero_add]
  refine ⟨by rw [hy]; exact h2, by rw [ints_len, hop.len]; omega, ?_, ?_, ?_, ?_⟩
  · refine tenE_mk n1 hcp (by rw [permI_ints, c4', hy, prodN_perm hp]) fun v hv => ?_
    obtain ⟨q, hq, rfl⟩ := List.mem_iff_getElem.1 hv
    have hq' : q < prodN (pmN D L) := by rw [hy] at hq; rw [prodN_perm hp]; exact hq
    have e : (turnG (ints D) (ints L) x)[q] = (turnG (ints D) (ints L) x).getD q 0 := by rw [List.getD_eq_getElem?_getD, List.getElem?_eq_getElem hq]; rfl
    have hlt : dot (dig (pmN D L) q) (pmN (strN D) L) < x.length := by rw [hx]; exact turn_lt hop h4.symm hq'
    rw [e, hyg q hq', List.getD_eq_getElem?_getD, List.getElem?_eq_getElem hlt]
    exact n4 _ (List.getElem_mem _)
  · rw [permI_ints]
    exact ordD_mk hop.symm.pm (by rw [hop.len, pmN_len])
  · rw [permI_ints, permI_ints, pm_pm hop (by rw [h4])]
  · have e1 : turnG (permI (ints D) (ints L)) (ints B) (turnG (ints D) (ints L) x) = vwL 0 D (pmN (strN (pmN D L)) B) (turnG (ints D) (ints L) x) := by
      rw [permI_ints, turnG_ints (pmN D L) B, pm_pm hop (by rw [h4])]
    rw [e1]
    apply List.ext_getElem?
    intro q
    by_cases hq : q < prodN D
    · obtain ⟨q', b1, b2, b3⟩ := back_at hop h4.symm hq
      have e2 : (vwL 0 D (pmN (strN (pmN D L)) B) (turnG (ints D) (ints L) x))[q]? = some ((turnG (ints D) (ints L) x).getD (0 + dot (dig D q) (pmN (strN (pmN D L)) B)) 0) := tab_get hq
      rw [e2, Nat.zero_add, b1, hyg q' b2, b3, List.getD_eq_getElem?_getD, List.getElem?_eq_getElem (by rw [hx]; exact hq)]
      rfl
    · rw [List.getElem?_eq_none (by rw [vwL_len]; omega), List.getElem?_eq_none (by omega)]
end Go.Proofs.XGT
namespace Go.Proofs.XGT
open Go.Vm Go
set_option maxRecDepth 100000
set_option maxHeartbeats 4000000
theorem set_in {xs : List Int} {p v : Int} (h0 : 0 ≤ p) (h1 : p < xs.length) : setN xs p.toNat v = some (xs.set p.toNat v) := by
  unfold setN
  rw [show Nat.blt p.toNat xs.length = true from Nat.ble_eq_true_of_le (by omega), cond_true]
theorem mbke_true {t : Int} {d x l : List Int} (hd : d.length ≤ maxLen) (hx : x.length ≤ maxLen) (hl : l.length ≤ 2147483648) (h : (tenE t d x != 0) = true ∨ (¬ (d = [] ∧ l = []) ∧ ordD d l = false)) : runC gMe Tryz.f10 7 [(9, [1, 2, 5, 6, 8, 9])] [.d (Y0) (t, d, x, ()), .d (.slice i64T) l] [] ah = some (.ret [B true], []) := by
  rw [mbke_eq, decide_eq_true (show x.length ≤ 9223372036854775807 ∧ d.length ≤ 9223372036854775807 ∧ l.length ≤ 2147483648 from ⟨hx, hd, hl⟩)]
  cases decide (Int.ofNat x.length > 2000) with
  | true => rfl
  | false =>
    rcases h with h | ⟨h1, h2⟩
    · rw [h]; rfl
    · cases tenE t d x != 0 with
      | true => rfl
      | false => rw [decide_eq_false h1, h2]; rfl
theorem mbk_true1 {t p0 : Int} {d x : List Int} (hd : d.length ≤ maxLen) (hx : x.length ≤ maxLen) (ht : tenE t d x = 0) (ho : ordD d [p0] = true) : runC gMf Tryz.f10 7 [(9, [1, 2, 5, 6, 8, 9])] [.d (Y0) (t, d, x, ()), .d (.slice i64T) [p0]] [] ah = some (.ret [B true], []) := by
  have hmx : maxLen = 9223372036854775807 := by decide
  have hnc := numC_in ((Bool.and_eq_true _ _).mp ho).1
  have hlen : (1 : Int) = Int.ofNat d.length := hnc.2
  rw [mbk1_eq, decide_eq_true (show x.length ≤ 9223372036854775807 ∧ d.length ≤ 9223372036854775807 ∧ 1 ≤ 2147483648 from ⟨hx, hd, by decide⟩), decide_eq_false (show ¬ (d = [] ∧ [p0] = []) from fun h => by cases h.2), ht, ho]
  cases decide (Int.ofNat x.length > 2000) with
  | true => rfl
  | false =>
    have g0 := hnc.1 p0 (by simp)
    have n0 : ((([0] : List Int).length : Nat) : Int) = 1 := by simp only [List.length_set, List.length_cons, List.length_nil]; rfl
    have i0 := idx_in (xs := ([0] : List Int)) (p := p0) g0.1 (by omega)
    have s0 := set_in (xs := ([0] : List Int)) (p := p0) (v := 0) g0.1 (by omega)
    have bk : Back t d x [p0] (([0] : List Int).set p0.toNat 0) := back_all ht ho rfl
    have q1 : tenE t [d.getD p0.toNat 0] (turnG d [p0] x) = 0 := bk.ten
    have q2 : ordD [d.getD p0.toNat 0] (([0] : List Int).set p0.toNat 0) = true := bk.ord
    have q3 : permI [d.getD p0.toNat 0] (([0] : List Int).set p0.toNat 0) = d := bk.dims
    have q4 : turnG [d.getD p0.toNat 0] (([0] : List Int).set p0.toNat 0) (turnG d [p0] x) = x := bk.data
    simp only [show (0 != (0 : Int)) = false from rfl, cond_false, cond_true, Bool.not_false]
    rw [i0, Option.bind_some, s0, Option.bind_some, decide_eq_true (show (turnG d [p0] x).length ≤ 9223372036854775807 ∧ 1 ≤ 9223372036854775807 ∧ (([0] : List Int).set p0.toNat 0).length ≤ 2147483648 from ⟨Nat.le_trans bk.ylen (by decide), by decide, Nat.le_trans bk.blen (by decide)⟩), q1, q2, q3, q4, decide_eq_true (show d.length ≤ 9223372036854775807 ∧ x.length ≤ 9223372036854775807 ∧ True ∧ d = d ∧ x = x from ⟨hd, hx, trivial, rfl, rfl⟩)]
    rfl
theorem mbk_true2 {t p0 p1 : Int} {d x : List Int} (hd : d.length ≤ maxLen) (hx : x.length ≤ maxLen) (ht : tenE t d x = 0) (ho : ordD d [p0, p1] = true) : runC gMf Tryz.f10 7 [(9, [1, 2, 5, 6, 8, 9])] [.d (Y0) (t, d, x, ()), .d (.slice i64T) [p0, p1]] [] ah = some (.ret [B true], []) := by
  have hmx : maxLen = 9223372036854775807 := by decide
  have hnc := numC_in ((Bool.and_eq_true _ _).mp ho).1
  have hlen : (2 : Int) = Int.ofNat d.length := hnc.2
  rw [mbk2_eq, decide_eq_true (show x.length ≤ 9223372036854775807 ∧ d.length ≤ 9223372036854775807 ∧ 2 ≤ 2147483648 from ⟨hx, hd, by decide⟩), decide_eq_false (show ¬ (d = [] ∧ [p0, p1] = []) from fun h => by cases h.2), ht, ho]
  cases decide (Int.ofNat x.length > 2000) with
  | true => rfl
  | false =>
    have g0 := hnc.1 p0 (by simp)
    have n0 : ((([0, 0] : List Int).length : Nat) : Int) = 2 := by simp only [List.length_set, List.length_cons, List.length_nil]; rfl
    have i0 := idx_in (xs := ([0, 0] : List Int)) (p := p0) g0.1 (by omega)
    have s0 := set_in (xs := ([0, 0] : List Int)) (p := p0) (v := 0) g0.1 (by omega)
    have g1 := hnc.1 p1 (by simp)
    have n1 : (((([0, 0] : List Int).set p0.toNat 0).length : Nat) : Int) = 2 := by simp only [List.length_set, List.length_cons, List.length_nil]; rfl
    have i1 := idx_in (xs := (([0, 0] : List Int).set p0.toNat 0)) (p := p1) g1.1 (by omega)
    have s1 := set_in (xs := (([0, 0] : List Int).set p0.toNat 0)) (p := p1) (v := 1) g1.1 (by omega)
    have bk : Back t d x [p0, p1] ((([0, 0] : List Int).set p0.toNat 0).set p1.toNat 1) := back_all ht ho rfl
    have q1 : tenE t [d.getD p0.toNat 0, d.getD p1.toNat 0] (turnG d [p0, p1] x) = 0 := bk.ten
    have q2 : ordD [d.getD p0.toNat 0, d.getD p1.toNat 0] ((([0, 0] : List Int).set p0.toNat 0).set p1.toNat 1) = true := bk.ord
    have q3 : permI [d.getD p0.toNat 0, d.getD p1.toNat 0] ((([0, 0] : List Int).set p0.toNat 0).set p1.toNat 1) = d := bk.dims
    have q4 : turnG [d.getD p0.toNat 0, d.getD p1.toNat 0] ((([0, 0] : List Int).set p0.toNat 0).set p1.toNat 1) (turnG d [p0, p1] x) = x := bk.data
    simp only [show (0 != (0 : Int)) = false from rfl, cond_false, cond_true, Bool.not_false]
    rw [i0, Option.bind_some, s0, Option.bind_some, i1, Option.bind_some, s1, Option.bind_some, decide_eq_true (show (turnG d [p0, p1] x).length ≤ 9223372036854775807 ∧ 2 ≤ 9223372036854775807 ∧ ((([0, 0] : List Int).set p0.toNat 0).set p1.toNat 1).length ≤ 2147483648 from ⟨Nat.le_trans bk.ylen (by decide), by decide, Nat.le_trans bk.blen (by decide)⟩), q1, q2, q3, q4, decide_eq_true (show d.length ≤ 9223372036854775807 ∧ x.length ≤ 9223372036854775807 ∧ True ∧ d = d ∧ x = x from ⟨hd, hx, trivial, rfl, rfl⟩)]
    rfl
theorem mbk_true3 {t p0 p1 p2 : Int} {d x : List Int} (hd : d.length ≤ maxLen) (hx : x.length ≤ maxLen) (ht : tenE t d x = 0) (ho : ordD d [p0, p1, p2] = true) : runC gMf Tryz.f10 7 [(9, [1, 2, 5, 6, 8, 9])] [.d (Y0) (t, d, x, ()), .d (.slice i64T) [p0, p1, p2]] [] ah = some (.ret [B true], []) := by
  have hmx : maxLen = 9223372036854775807 := by decide
  have hnc := numC_in ((Bool.and_eq_true _ _).mp ho).1
  have hlen : (3 : Int) = Int.ofNat d.length := hnc.2
  rw [mbk3_eq, decide_eq_true (show x.length ≤ 9223372036854775807 ∧ d.length ≤ 9223372036854775807 ∧ 3 ≤ 2147483648 from ⟨hx, hd, by decide⟩), decide_eq_false (show ¬ (d = [] ∧ [p0, p1, p2] = []) from fun h => by cases h.2), ht, ho]
  cases decide (Int.ofNat x.length > 2000) with
  | true => rfl
  | false =>
    have g0 := hnc.1 p0 (by simp)
    have n0 : ((([0, 0, 0] : List Int).length : Nat) : Int) = 3 := by simp only [List.length_set, List.length_cons, List.length_nil]; rfl
    have i0 := idx_in (xs := ([0, 0, 0] : List Int)) (p := p0) g0.1 (by omega)
    have s0 := set_in (xs := ([0, 0, 0] : List Int)) (p := p0) (v := 0) g0.1 (by omega)
    have g1 := hnc.1 p1 (by simp)
    have n1 : (((([0, 0, 0] : List Int).set p0.toNat 0).length : Nat) : Int) = 3 := by simp only [List.length_set, List.length_cons, List.length_nil]; rfl
    have i1 := idx_in (xs := (([0, 0, 0] : List Int).set p0.toNat 0)) (p := p1) g1.1 (by omega)
    have s1 := set_in (xs := (([0, 0, 0] : List Int).set p0.toNat 0)) (p := p1) (v := 1) g1.1 (by omega)
    have g2 := hnc.1 p2 (by simp)
    have n2 : ((((([0, 0, 0] : List Int).set p0.toNat 0).set p1.toNat 1).length : Nat) : Int) = 3 := by simp only [List.length_set, List.length_cons, List.length_nil]; rfl
    have i2 := idx_in (xs := ((([0, 0, 0] : List Int).set p0.toNat 0).set p1.toNat 1)) (p := p2) g2.1 (by omega)
    have s2 := set_in (xs := ((([0, 0, 0] : List Int).set p0.toNat 0).set p1.toNat 1)) (p := p2) (v := 2) g2.1 (by omega)
    have bk : Back t d x [p0, p1, p2] (((([0, 0, 0] : List Int).set p0.toNat 0).set p1.toNat 1).set p2.toNat 2) := back_all ht ho rfl
    have q1 : tenE t [d.getD p0.toNat 0, d.getD p1.toNat 0, d.getD p2.toNat 0] (turnG d [p0, p1, p2] x) = 0 := bk.ten
    have q2 : ordD [d.getD p0.toNat 0, d.getD p1.toNat 0, d.getD p2.toNat 0] (((([0, 0, 0] : List Int).set p0.toNat 0).set p1.toNat 1).set p2.toNat 2) = true := bk.ord
    have q3 : permI [d.getD p0.toNat 0, d.getD p1.toNat 0, d.getD p2.toNat 0] (((([0, 0, 0] : List Int).set p0.toNat 0).set p1.toNat 1).set p2.toNat 2) = d := bk.dims
    have q4 : turnG [d.getD p0.toNat 0, d.getD p1.toNat 0, d.getD p2.toNat 0] (((([0, 0, 0] : List Int).set p0.toNat 0).set p1.toNat 1).set p2.toNat 2) (turnG d [p0, p1, p2] x) = x := bk.data
    simp only [show (0 != (0 : Int)) = false from rfl, cond_false, cond_true, Bool.not_false]
    rw [i0, Option.bind_some, s0, Option.bind_some, i1, Option.bind_some, s1, Option.bind_some, i2, Option.bind_some, s2, Option.bind_some, decide_eq_true (show (turnG d [p0, p1, p2] x).length ≤ 9223372036854775807 ∧ 3 ≤ 9223372036854775807 ∧ (((([0, 0, 0] : List Int).set p0.toNat 0).set p1.toNat 1).set p2.toNat 2).length ≤ 2147483648 from ⟨Nat.le_trans bk.ylen (by decide), by decide, Nat.le_trans bk.blen (by decide)⟩), q1, q2, q3, q4, decide_eq_true (show d.length ≤ 9223372036854775807 ∧ x.length ≤ 9223372036854775807 ∧ True ∧ d = d ∧ x = x from ⟨hd, hx, trivial, rfl, rfl⟩)]
    rfl
theorem mbk_true4 {t p0 p1 p2 p3 : Int} {d x : List Int} (hd : d.length ≤ maxLen) (hx : x.length ≤ maxLen) (ht : tenE t d x = 0) (ho : ordD d [p0, p1, p2, p3] = true) : runC gMf Tryz.f10 7 [(9, [1, 2, 5, 6, 8, 9])] [.d (Y0) (t, d, x, ()), .d (.slice i64T) [p0, p1, p2, p3]] [] ah = some (.ret [B true], []) := by
  have hmx : maxLen = 9223372036854775807 := by decide
  have hnc := numC_in ((Bool.and_eq_true _ _).mp ho).1
  have hlen : (4 : Int) = Int.ofNat d.length := hnc.2
  rw [mbk4_eq, decide_eq_true (show x.length ≤ 9223372036854775807 ∧ d.length ≤ 9223372036854775807 ∧ 4 ≤ 2147483648 from ⟨hx, hd, by decide⟩), decide_eq_false (show ¬ (d = [] ∧ [p0, p1, p2, p3] = []) from fun h => by cases h.2), ht, ho]
  cases decide (Int.ofNat x.length > 2000) with
  | true => rfl
  | false =>
    have g0 := hnc.1 p0 (by simp)
    have n0 : ((([0, 0, 0, 0] : List Int).length : Nat) : Int) = 4 := by simp only [List.length_set, List.length_cons, List.length_nil]; rfl
    have i0 := idx_in (xs := ([0, 0, 0, 0] : List Int)) (p := p0) g0.1 (by omega)
    have s0 := set_in (xs := ([0, 0, 0, 0] : List Int)) (p := p0) (v := 0) g0.1 (by omega)
    have g1 := hnc.1 p1 (by simp)
    have n1 : (((([0, 0, 0, 0] : List Int).set p0.toNat 0).length : Nat) : Int) = 4 := by simp only [List.length_set, List.length_cons, List.length_nil]; rfl
    have i1 := idx_in (xs := (([0, 0, 0, 0] : List Int).set p0.toNat 0)) (p := p1) g1.1 (by omega)
    have s1 := set_in (xs := (([0, 0, 0, 0] : List Int).set p0.toNat 0)) (p := p1) (v := 1) g1.1 (by omega)
    have g2 := hnc.1 p2 (by simp)
    have n2 : ((((([0, 0, 0, 0] : List Int).set p0.toNat 0).set p1.toNat 1).length : Nat) : Int) = 4 := by simp only [List.length_set, List.length_cons, List.length_nil]; rfl
    have i2 := idx_in (xs := ((([0, 0, 0, 0] : List Int).set p0.toNat 0).set p1.toNat 1)) (p := p2) g2.1 (by omega)
    have s2 := set_in (xs := ((([0, 0, 0, 0] : List Int).set p0.toNat 0).set p1.toNat 1)) (p := p2) (v := 2) g2.1 (by omega)
    have g3 := hnc.1 p3 (by simp)
    have n3 : (((((([0, 0, 0, 0] : List Int).set p0.toNat 0).set p1.toNat 1).set p2.toNat 2).length : Nat) : Int) = 4 := by simp only [List.length_set, List.length_cons, List.length_nil]; rfl
    have i3 := idx_in (xs := (((([0, 0, 0, 0] : List Int).set p0.toNat 0).set p1.toNat 1).set p2.toNat 2)) (p := p3) g3.1 (by omega)
    have s3 := set_in (xs := (((([0, 0, 0, 0] : List Int).set p0.toNat 0).set p1.toNat 1).set p2.toNat 2)) (p := p3) (v := 3) g3.1 (by omega)
    have bk : Back t d x [p0, p1, p2, p3] ((((([0, 0, 0, 0] : List Int).set p0.toNat 0).set p1.toNat 1).set p2.toNat 2).set p3.toNat 3) := back_all ht ho rfl
    have q1 : tenE t [d.getD p0.toNat 0, d.getD p1.toNat 0, d.getD p2.toNat 0, d.getD p3.toNat 0] (turnG d [p0, p1, p2, p3] x) = 0 := bk.ten
    have q2 : ordD [d.getD p0.toNat 0, d.getD p1.toNat 0, d.getD p2.toNat 0, d.getD p3.toNat 0] ((((([0, 0, 0, 0] : List Int).set p0.toNat 0).set p1.toNat 1).set p2.toNat 2).set p3.toNat 3) = true := bk.ord
    have q3 : permI [d.getD p0.toNat 0, d.getD p1.toNat 0, d.getD p2.toNat 0, d.getD p3.toNat 0] ((((([0, 0, 0, 0] : List Int).set p0.toNat 0).set p1.toNat 1).set p2.toNat 2).set p3.toNat 3) = d := bk.dims
    have q4 : turnG [d.getD p0.toNat 0, d.getD p1.toNat 0, d.getD p2.toNat 0, d.getD p3.toNat 0] ((((([0, 0, 0, 0] : List Int).set p0.toNat 0).set p1.toNat 1).set p2.toNat 2).set p3.toNat 3) (turnG d [p0, p1, p2, p3] x) = x := bk.data
    simp only [show (0 != (0 : Int)) = false from rfl, cond_false, cond_true, Bool.not_false]
    rw [i0, Option.bind_some, s0, Option.bind_some, i1, Option.bind_some, s1, Option.bind_some, i2, Option.bind_some, s2, Option.bind_some, i3, Option.bind_some, s3, Option.bind_some, decide_eq_true (show (turnG d [p0, p1, p2, p3] x).length ≤ 9223372036854775807 ∧ 4 ≤ 9223372036854775807 ∧ ((((([0, 0, 0, 0] : List Int).set p0.toNat 0).set p1.toNat 1).set p2.toNat 2).set p3.toNat 3).length ≤ 2147483648 from ⟨Nat.le_trans bk.ylen (by decide), by decide, Nat.le_trans bk.blen (by decide)⟩), q1, q2, q3, q4, decide_eq_true (show d.length ≤ 9223372036854775807 ∧ x.length ≤ 9223372036854775807 ∧ True ∧ d = d ∧ x = x from ⟨hd, hx, trivial, rfl, rfl⟩)]
    rfl
theorem mbk_true5 {t p0 p1 p2 p3 p4 : Int} {d x : List Int} (hd : d.length ≤ maxLen) (hx : x.length ≤ maxLen) (ht : tenE t d x = 0) (ho : ordD d [p0, p1, p2, p3, p4] = true) : runC gMf Tryz.f10 7 [(9, [1, 2, 5, 6, 8, 9])] [.d (Y0) (t, d, x, ()), .d (.slice i64T) [p0, p1, p2, p3, p4]] [] ah = some (.ret [B true], []) := by
  have hmx : maxLen = 9223372036854775807 := by decide
  have hnc := numC_in ((Bool.and_eq_true _ _).mp ho).1
  have hlen : (5 : Int) = Int.ofNat d.length := hnc.2
  rw [mbk5_eq, decide_eq_true (show x.length ≤ 9223372036854775807 ∧ d.length ≤ 9223372036854775807 ∧ 5 ≤ 2147483648 from ⟨hx, hd, by decide⟩), decide_eq_false (show ¬ (d = [] ∧ [p0, p1, p2, p3, p4] = []) from fun h => by cases h.2), ht, ho]
  cases decide (Int.ofNat x.length > 2000) with
  | true => rfl
  | false =>
    have g0 := hnc.1 p0 (by simp)
    have n0 : ((([0, 0, 0, 0, 0] : List Int).length : Nat) : Int) = 5 := by simp only [List.length_set, List.length_cons, List.length_nil]; rfl
    have i0 := idx_in (xs := ([0, 0, 0, 0, 0] : List Int)) (p := p0) g0.1 (by omega)
    have s0 := set_in (xs := ([0, 0, 0, 0, 0] : List Int)) (p := p0) (v := 0) g0.1 (by omega)
    have g1 := hnc.1 p1 (by simp)
    have n1 : (((([0, 0, 0, 0, 0] : List Int).set p0.toNat 0).length : Nat) : Int) = 5 := by simp only [List.length_set, List.length_cons, List.length_nil]; rfl
    have i1 := idx_in (xs := (([0, 0, 0, 0, 0] : List Int).set p0.toNat 0)) (p := p1) g1.1 (by omega)
    have s1 := set_in (xs := (([0, 0, 0, 0, 0] : List Int).set p0.toNat 0)) (p := p1) (v := 1) g1.1 (by omega)
    have g2 := hnc.1 p2 (by simp)
    have n2 : ((((([0, 0, 0, 0, 0] : List Int).set p0.toNat 0).set p1.toNat 1).length : Nat) : Int) = 5 := by simp only [List.length_set, List.length_cons, List.length_nil]; rfl
    have i2 := idx_in (xs := ((([0, 0, 0, 0, 0] : List Int).set p0.toNat 0).set p1.toNat 1)) (p := p2) g2.1 (by omega)
    have s2 := set_in (xs := ((([0, 0, 0, 0, 0] : List Int).set p0.toNat 0).set p1.toNat 1)) (p := p2) (v := 2) g2.1 (by omega)
    have g3 := hnc.1 p3 (by simp)
    have n3 : (((((([0, 0, 0, 0, 0] : List Int).set p0.toNat 0).set p1.toNat 1).set p2.toNat 2).length : Nat) : Int) = 5 := by simp only [List.length_set, List.length_cons, List.length_nil]; rfl
    have i3 := idx_in (xs := (((([0, 0, 0, 0, 0] : List Int).set p0.toNat 0).set p1.toNat 1).set p2.toNat 2)) (p := p3) g3.1 (by omega)
    have s3 := set_in (xs := (((([0, 0, 0, 0, 0] : List Int).set p0.toNat 0).set p1.toNat 1).set p2.toNat 2)) (p := p3) (v := 3) g3.1 (by omega)
    have g4 := hnc.1 p4 (by simp)
    have n4 : ((((((([0, 0, 0, 0, 0] : List Int).set p0.toNat 0).set p1.toNat 1).set p2.toNat 2).set p3.toNat 3).length : Nat) : Int) = 5 := by simp only [List.length_set, List.length_cons, List.length_nil]; rfl
    have i4 := idx_in (xs := ((((([0, 0, 0, 0, 0] : List Int).set p0.toNat 0).set p1.toNat 1).set p2.toNat 2).set p3.toNat 3)) (p := p4) g4.1 (by omega)
    have s4 := set_in (xs := ((((([0, 0, 0, 0, 0] : List Int).set p0.toNat 0).set p1.toNat 1).set p2.toNat 2).set p3.toNat 3)) (p := p4) (v := 4) g4.1 (by omega)
    have bk : Back t d x [p0, p1, p2, p3, p4] (((((([0, 0, 0, 0, 0] : List Int).set p0.toNat 0).set p1.toNat 1).set p2.toNat 2).set p3.toNat 3).set p4.toNat 4) := back_all ht ho rfl
    have q1 : tenE t [d.getD p0.toNat 0, d.getD p1.toNat 0, d.getD p2.toNat 0, d.getD p3.toNat 0, d.getD p4.toNat 0] (turnG d [p0, p1, p2, p3, p4] x) = 0 := bk.ten
    have q2 : ordD [d.getD p0.toNat 0, d.getD p1.toNat 0, d.getD p2.toNat 0, d.getD p3.toNat 0, d.getD p4.toNat 0] (((((([0, 0, 0, 0, 0] : List Int).set p0.toNat 0).set p1.toNat 1).set p2.toNat 2).set p3.toNat 3).set p4.toNat 4) = true := bk.ord
    have q3 : permI [d.getD p0.toNat 0, d.getD p1.toNat 0, d.getD p2.toNat 0, d.getD p3.toNat 0, d.getD p4.toNat 0] (((((([0, 0, 0, 0, 0] : List Int).set p0.toNat 0).set p1.toNat 1).set p2.toNat 2).set p3.toNat 3).set p4.toNat 4) = d := bk.dims
    have q4 : turnG [d.getD p0.toNat 0, d.getD p1.toNat 0, d.getD p2.toNat 0, d.getD p3.toNat 0, d.getD p4.toNat 0] (((((([0, 0, 0, 0, 0] : List Int).set p0.toNat 0).set p1.toNat 1).set p2.toNat 2).set p3.toNat 3).set p4.toNat 4) (turnG d [p0, p1, p2, p3, p4] x) = x := bk.data
    simp only [show (0 != (0 : Int)) = false from rfl, cond_false, cond_true, Bool.not_false]
    rw [i0, Option.bind_some, s0, Option.bind_some, i1, Option.bind_some, s1, Option.bind_some, i2, Option.bind_some, s2, Option.bind_some, i3, Option.bind_some, s3, Option.bind_some, i4, Option.bind_some, s4, Option.bind_some, decide_eq_true (show (turnG d [p0, p1, p2, p3, p4] x).length ≤ 9223372036854775807 ∧ 5 ≤ 9223372036854775807 ∧ (((((([0, 0, 0, 0, 0] : List Int).set p0.toNat 0).set p1.toNat 1).set p2.toNat 2).set p3.toNat 3).set p4.toNat 4).length ≤ 2147483648 from ⟨Nat.le_trans bk.ylen (by decide), by decide, Nat.le_trans bk.blen (by decide)⟩), q1, q2, q3, q4, decide_eq_true (show d.length ≤ 9223372036854775807 ∧ x.length ≤ 9223372036854775807 ∧ True ∧ d = d ∧ x = x from ⟨hd, hx, trivial, rfl, rfl⟩)]
    rfl
theorem mbk_true6 {t p0 p1 p2 p3 p4 p5 : Int} {d x : List Int} (hd : d.length ≤ maxLen) (hx : x.length ≤ maxLen) (ht : tenE t d x = 0) (ho : ordD d [p0, p1, p2, p3, p4, p5] = true) : runC gMf Tryz.f10 7 [(9, [1, 2, 5, 6, 8, 9])] [.d (Y0) (t, d, x, ()), .d (.slice i64T) [p0, p1, p2, p3, p4, p5]] [] ah = some (.ret [B true], []) := by
  have hmx : maxLen = 9223372036854775807 := by decide
  have hnc := numC_in ((Bool.and_eq_true _ _).mp ho).1
  have hlen : (6 : Int) = Int.ofNat d.length := hnc.2
  rw [mbk6_eq, decide_eq_true (show x.length ≤ 9223372036854775807 ∧ d.length ≤ 9223372036854775807 ∧ 6 ≤ 2147483648 from ⟨hx, hd, by decide⟩), decide_eq_false (show ¬ (d = [] ∧ [p0, p1, p2, p3, p4, p5] = []) from fun h => by cases h.2), ht, ho]
  cases decide (Int.ofNat x.length > 2000) with
  | true => rfl
  | false =>
    have g0 := hnc.1 p0 (by simp)
    have n0 : ((([0, 0, 0, 0, 0, 0] : List Int).length : Nat) : Int) = 6 := by simp only [List.length_set, List.length_cons, List.length_nil]; rfl
    have i0 := idx_in (xs := ([0, 0, 0, 0, 0, 0] : List Int)) (p := p0) g0.1 (by omega)
    have s0 := set_in (xs := ([0, 0, 0, 0, 0, 0] : List Int)) (p := p0) (v := 0) g0.1 (by omega)
    have g1 := hnc.1 p1 (by simp)
    have n1 : (((([0, 0, 0, 0, 0, 0] : List Int).set p0.toNat 0).length : Nat) : Int) = 6 := by simp only [List.length_set, List.length_cons, List.length_nil]; rfl
    have i1 := idx_in (xs := (([0, 0, 0, 0, 0, 0] : List Int).set p0.toNat 0)) (p := p1) g1.1 (by omega)
    have s1 := set_in (xs := (([0, 0, 0, 0, 0, 0] : List Int).set p0.toNat 0)) (p := p1) (v := 1) g1.1 (by omega)
    have g2 := hnc.1 p2 (by simp)
    have n2 : ((((([0, 0, 0, 0, 0, 0] : List Int).set p0.toNat 0).set p1.toNat 1).length : Nat) : Int) = 6 := by simp only [List.length_set, List.length_cons, List.length_nil]; rfl
    have i2 := idx_in (xs := ((([0, 0, 0, 0, 0, 0] : List Int).set p0.toNat 0).set p1.toNat 1)) (p := p2) g2.1 (by omega)
    have s2 := set_in (xs := ((([0, 0, 0, 0, 0, 0] : List Int).set p0.toNat 0).set p1.toNat 1)) (p := p2) (v := 2) g2.1 (by omega)
    have g3 := hnc.1 p3 (by simp)
    have n3 : (((((([0, 0, 0, 0, 0, 0] : List Int).set p0.toNat 0).set p1.toNat 1).set p2.toNat 2).length : Nat) : Int) = 6 := by simp only [List.length_set, List.length_cons, List.length_nil]; rfl
    have i3 := idx_in (xs := (((([0, 0, 0, 0, 0, 0] : List Int).set p0.toNat 0).set p1.toNat 1).set p2.toNat 2)) (p := p3) g3.1 (by omega)
    have s3 := set_in (xs := (((([0, 0, 0, 0, 0, 0] : List Int).set p0.toNat 0).set p1.toNat 1).set p2.toNat 2)) (p := p3) (v := 3) g3.1 (by omega)
    have g4 := hnc.1 p4 (by simp)
    have n4 : ((((((([0, 0, 0, 0, 0, 0] : List Int).set p0.toNat 0).set p1.toNat 1).set p2.toNat 2).set p3.toNat 3).length : Nat) : Int) = 6 := by simp only [List.length_set, List.length_cons, List.length_nil]; rfl
    have i4 := idx_in (xs := ((((([0, 0, 0, 0, 0, 0] : List Int).set p0.toNat 0).set p1.toNat 1).set p2.toNat 2).set p3.toNat 3)) (p := p4) g4.1 (by omega)
    have s4 := set_in (xs := ((((([0, 0, 0, 0, 0, 0] : List Int).set p0.toNat 0).set p1.toNat 1).set p2.toNat 2).set p3.toNat 3)) (p := p4) (v := 4) g4.1 (by omega)
    have g5 := hnc.1 p5 (by simp)
    have n5 : (((((((([0, 0, 0, 0, 0, 0] : List Int).set p0.toNat 0).set p1.toNat 1).set p2.toNat 2).set p3.toNat 3).set p4.toNat 4).length : Nat) : Int) = 6 := by simp only [List.length_set, List.length_cons, List.length_nil]; rfl
    have i5 := idx_in (xs := (((((([0, 0, 0, 0, 0, 0] : List Int).set p0.toNat 0).set p1.toNat 1).set p2.toNat 2).set p3.toNat 3).set p4.toNat 4)) (p := p5) g5.1 (by omega)
    have s5 := set_in (xs := (((((([0, 0, 0, 0, 0, 0] : List Int).set p0.toNat 0).set p1.toNat 1).set p2.toNat 2).set p3.toNat 3).set p4.toNat 4)) (p := p5) (v := 5) g5.1 (by omega)
    have bk : Back t d x [p0, p1, p2, p3, p4, p5] ((((((([0, 0, 0, 0, 0, 0] : List Int).set p0.toNat 0).set p1.toNat 1).set p2.toNat 2).set p3.toNat 3).set p4.toNat 4).set p5.toNat 5) := back_all ht ho rfl
    have q1 : tenE t [d.getD p0.toNat 0, d.getD p1.toNat 0, d.getD p2.toNat 0, d.getD p3.toNat 0, d.getD p4.toNat 0, d.getD p5.toNat 0] (turnG d [p0, p1, p2, p3, p4, p5] x) = 0 := bk.ten
    have q2 : ordD [d.getD p0.toNat 0, d.getD p1.toNat 0, d.getD p2.toNat 0, d.getD p3.toNat 0, d.getD p4.toNat 0, d.getD p5.toNat 0] ((((((([0, 0, 0, 0, 0, 0] : List Int).set p0.toNat 0).set p1.toNat 1).set p2.toNat 2).set p3.toNat 3).set p4.toNat 4).set p5.toNat 5) = true := bk.ord
    have q3 : permI [d.getD p0.toNat 0, d.getD p1.toNat 0, d.getD p2.toNat 0, d.getD p3.toNat 0, d.getD p4.toNat 0, d.getD p5.toNat 0] ((((((([0, 0, 0, 0, 0, 0] : List Int).set p0.toNat 0).set p1.toNat 1).set p2.toNat 2).set p3.toNat 3).set p4.toNat 4).set p5.toNat 5) = d := bk.dims
    have q4 : turnG [d.getD p0.toNat 0, d.getD p1.toNat 0, d.getD p2.toNat 0, d.getD p3.toNat 0, d.getD p4.toNat 0, d.getD p5.toNat 0] ((((((([0, 0, 0, 0, 0, 0] : List Int).set p0.toNat 0).set p1.toNat 1).set p2.toNat 2).set p3.toNat 3).set p4.toNat 4).set p5.toNat 5) (turnG d [p0, p1, p2, p3, p4, p5] x) = x := bk.data
    simp only [show (0 != (0 : Int)) = false from rfl, cond_false, cond_true, Bool.not_false]
    rw [i0, Option.bind_some, s0, Option.bind_some, i1, Option.bind_some, s1, Option.bind_some, i2, Option.bind_some, s2, Option.bind_some, i3, Option.bind_some, s3, Option.bind_some, i4, Option.bind_some, s4, Option.bind_some, i5, Option.bind_some, s5, Option.bind_some, decide_eq_true (show (turnG d [p0, p1, p2, p3, p4, p5] x).length ≤ 9223372036854775807 ∧ 6 ≤ 9223372036854775807 ∧ ((((((([0, 0, 0, 0, 0, 0] : List Int).set p0.toNat 0).set p1.toNat 1).set p2.toNat 2).set p3.toNat 3).set p4.toNat 4).set p5.toNat 5).length ≤ 2147483648 from ⟨Nat.le_trans bk.ylen (by decide), by decide, Nat.le_trans bk.blen (by decide)⟩), q1, q2, q3, q4, decide_eq_true (show d.length ≤ 9223372036854775807 ∧ x.length ≤ 9223372036854775807 ∧ True ∧ d = d ∧ x = x from ⟨hd, hx, trivial, rfl, rfl⟩)]
    rfl
theorem mbk_true0 (t v : Int) : runC gMw Tryz.f10 7 [(9, [1, 2, 5, 6, 8, 9])] [.d (Y0) (t, [], [v], ()), .d (.slice i64T) []] [] ah = some (.ret [B true], []) := by
  rw [mbk0_eq]
  cases tenE t [] [v] != 0 with
  | true => rfl
  | false =>
    cases numOk t 0 with
    | false => rfl
    | true =>
      rw [bne_self_eq_false, bne_self_eq_false]
      cases t == 6 <;> rfl
theorem mbk_call (t : Int) (d x : List Int) (hd : d.length ≤ maxLen) (hx : x.length ≤ maxLen) (l : List Int) (hl : l.length ≤ 2147483648) : FnH Tryz.prog (Env.gam e0) 10 [.d (Y0) (t, d, x, ()), .d (.slice i64T) l] (hget []) (fun ae h1 => ae = .ret [B true] ∧ h1 = hget []) := by
  have eN : ∀ (h : (tenE t d x != 0) = true ∨ (¬ (d = [] ∧ l = []) ∧ ordD d l = false)), FnH Tryz.prog (Env.gam e0) 10 [.d (Y0) (t, d, x, ()), .d (.slice i64T) l] (hget []) (fun ae h1 => ae = .ret [B true] ∧ h1 = hget []) := fun h =>
    runC_call gMe_good hmix Tryz.func10 Tryz.call10 (by decide +kernel) rfl (mbke_true hd hx hl h)
  cases ht : tenE t d x != 0 with
  | true => exact eN (.inl ht)
  | false =>
    have ht0 : tenE t d x = 0 := by simpa using ht
    rcases Classical.em (d = [] ∧ l = []) with hz | hz
    · obtain ⟨hd0, hl0⟩ := hz
      subst hd0 hl0
      obtain ⟨_, _, n3, _⟩ := ten_ok ht0
      have h1 : x.length = 1 := by rw [show countN [] = 1 from rfl] at n3; omega
      obtain ⟨v, q, rfl, e⟩ := len_succ h1
      obtain rfl := len_zero e
      exact runC_call gMw_good hmix Tryz.func10 Tryz.call10 (by decide +kernel) rfl (mbk_true0 t v)
    · cases ho : ordD d l with
      | false => exact eN (.inr ⟨hz, ho⟩)
      | true =>
        have h6 := (count_ok (ten_ok ht0).2.1).2.1
        have hlen := numC_len ((Bool.and_eq_true _ _).mp ho).1
        have hlen : l.length = d.length := by simp only [Int.ofNat_eq_natCast] at hlen; omega
        clear eN
        match hl2 : l.length with
        | 0 =>
          have e1 : d = [] := len_zero (by omega)
          exact absurd ⟨e1, len_zero hl2⟩ hz
        | 1 =>
          obtain ⟨p0, q0, rfl, f0⟩ := len_succ (n := 0) hl2
          clear hl2
          obtain rfl := len_zero f0
          exact runC_call gMf_good hmix Tryz.func10 Tryz.call10 (by decide +kernel) rfl (mbk_true1 hd hx ht0 ho)
        | 2 =>
          obtain ⟨p0, q0, rfl, f0⟩ := len_succ (n := 1) hl2
          clear hl2
          obtain ⟨p1, q1, rfl, f1⟩ := len_succ (n := 0) f0
          obtain rfl := len_zero f1
          exact runC_call gMf_good hmix Tryz.func10 Tryz.call10 (by decide +kernel) rfl (mbk_true2 hd hx ht0 ho)
        | 3 =>
          obtain ⟨p0, q0, rfl, f0⟩ := len_succ (n := 2) hl2
          clear hl2
          obtain ⟨p1, q1, rfl, f1⟩ := len_succ (n := 1) f0
          obtain ⟨p2, q2, rfl, f2⟩ := len_succ (n := 0) f1
          obtain rfl := len_zero f2
          exact runC_call gMf_good hmix Tryz.func10 Tryz.call10 (by decide +kernel) rfl (mbk_true3 hd hx ht0 ho)
        | 4 =>
          obtain ⟨p0, q0, rfl, f0⟩ := len_succ (n := 3) hl2
          clear hl2
          obtain ⟨p1, q1, rfl, f1⟩ := len_succ (n := 2) f0
          obtain ⟨p2, q2, rfl, f2⟩ := len_succ (n := 1) f1
          obtain ⟨p3, q3, rfl, f3⟩ := len_succ (n := 0) f2
          obtain rfl := len_zero f3
          exact runC_call gMf_good hmix Tryz.func10 Tryz.call10 (by decide +kernel) rfl (mbk_true4 hd hx ht0 ho)
        | 5 =>
          obtain ⟨p0, q0, rfl, f0⟩ := len_succ (n := 4) hl2
          clear hl2
          obtain ⟨p1, q1, rfl, f1⟩ := len_succ (n := 3) f0
          obtain ⟨p2, q2, rfl, f2⟩ := len_succ (n := 2) f1
          obtain ⟨p3, q3, rfl, f3⟩ := len_succ (n := 1) f2
          obtain ⟨p4, q4, rfl, f4⟩ := len_succ (n := 0) f3
          obtain rfl := len_zero f4
          exact runC_call gMf_good hmix Tryz.func10 Tryz.call10 (by decide +kernel) rfl (mbk_true5 hd hx ht0 ho)
        | 6 =>
          obtain ⟨p0, q0, rfl, f0⟩ := len_succ (n := 5) hl2
          clear hl2
          obtain ⟨p1, q1, rfl, f1⟩ := len_succ (n := 4) f0
          obtain ⟨p2, q2, rfl, f2⟩ := len_succ (n := 3) f1
          obtain ⟨p3, q3, rfl, f3⟩ := len_succ (n := 2) f2
          obtain ⟨p4, q4, rfl, f4⟩ := len_succ (n := 1) f3
          obtain ⟨p5, q5, rfl, f5⟩ := len_succ (n := 0) f4
          obtain rfl := len_zero f5
          exact runC_call gMf_good hmix Tryz.func10 Tryz.call10 (by decide +kernel) rfl (mbk_true6 hd hx ht0 ho)
        | k + 7 => omega
end Go.Proofs.XGT
