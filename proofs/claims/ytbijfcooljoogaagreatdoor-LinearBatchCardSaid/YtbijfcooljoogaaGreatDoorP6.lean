/- view.Read of a views of rank 1 and 2: run. -/
import Derived.Test.YtbijfcooljoogaaGreatDoorP2
import Derived.Test.YtbijfcooljoogaaGreatDoorWH
import Derived.Test.YtbijfcooljoogaaGreatDoorP3

namespace Go.Proofs.XGT
open Go.Vm Go
set_option maxRecDepth 100000
set_option maxHeartbeats 4000000
noncomputable def C_rea : Code := codeOf Tryz.f79
noncomputable def cf_rea : Cfg := ⟨26, 5, 3, [(5, [0, 1, 2, 3, 4, 5, 6, 14, 15, 16, 17, 18, 19, 20, 21, 22, 23, 24])], true⟩
noncomputable def C_pla : Code := codeOf Tryz.f132
noncomputable def cf_pla : Cfg := ⟨63, 6, 10, [(2, [0, 1, 3, 4]), (4, [0, 1, 3, 4, 5])], true⟩
noncomputable def gV (F : FnE) : Env := g182.add 132 F
def vwA (off : Int) (a b : Nat) : AV := .pr (I off) (.pr (.os a 0) (.pr (.os b 0) (.d .unit ())))
def hpV1 (n s : Int) (l : List Int) : LHp := [(0, .arr 2 i64T 0 false l), (1, .arr 3 i64T 0 false [s]), (2, .arr 3 i64T 0 false [n])]
theorem rea_eqH (hl : Hl) (F : FnE) (off n s : Int) (l : List Int) : runQ (gV F) Tryz.f79 5 [(5, [0, 1, 2, 3, 4, 5, 6, 14, 15, 16, 17, 18, 19, 20, 21, 22, 23, 24])] hl [vwA off 2 1, .os 0 0] (hpV1 n s l) ah =
  bif countE [n] == 0 then 
    bif decide (off ≥ 0) then 
      bif decide (off < 65536) then 
        bif decide (s < 0) then some (AEnd.ret [AV.nils, I 1], [(0, AObj.arr 2 (i64T) 0 false l), (1, AObj.arr 3 (i64T) 0 false [s]), (2, AObj.arr 3 (i64T) 0 false [n])])
        else 
          bif decide (s > 65536) then some (AEnd.ret [AV.nils, I 1], [(0, AObj.arr 2 (i64T) 0 false l), (1, AObj.arr 3 (i64T) 0 false [s]), (2, AObj.arr 3 (i64T) 0 false [n])])
          else hl (cL (cR (cL (cR (cR (cR C_rea)))))) _ { fr := mkFr 5 [(0, (I off).pr ((AV.os 2 0).pr ((AV.os 1 0).pr (AV.d Ty.unit PUnit.unit)))), (1, AV.os 0 0), (2, AV.op 3 [] 0), (3, AV.op 4 [] 0), (4, AV.op 5 [] 0), (5, AV.op 6 [] 0), (6, AV.op 9 [] 0), (8, (I off).pr ((AV.os 2 0).pr ((AV.os 1 0).pr (AV.d Ty.unit PUnit.unit)))), (9, B true), (10, B false), (11, (I off).pr ((AV.os 2 0).pr ((AV.os 1 0).pr (AV.d Ty.unit PUnit.unit)))), (12, AV.fn (Fn.func 132) [] [AV.op 10 [] 0])], hp := [(1, AObj.arr 3 (i64T) 0 false [s]), (2, AObj.arr 3 (i64T) 0 false [n]), (10, AObj.box ((I off).pr ((AV.os 2 0).pr ((AV.os 1 0).pr (AV.d Ty.unit PUnit.unit))))), (9, AObj.box AV.nils), (1, AObj.arr 3 (i64T) 0 false [s]), (2, AObj.arr 3 (i64T) 0 false [n]), (6, AObj.box (I 0)), (5, AObj.box AV.nils), (4, AObj.box (AV.os 0 0)), (3, AObj.box ((I off).pr ((AV.os 2 0).pr ((AV.os 1 0).pr (AV.d Ty.unit PUnit.unit))))), (0, AObj.arr 2 (i64T) 0 false l), (1, AObj.arr 3 (i64T) 0 false [s]), (2, AObj.arr 3 (i64T) 0 false [n])], nx := 13 } (blkK 0 (seqQ (gV F) cf_rea hl (cR (cR (cR (cR C_rea)))) (endC Tryz.prog 3 Tryz.f79.results.toList ah)))
      else some (AEnd.ret [AV.nils, I 1], [(0, AObj.arr 2 (i64T) 0 false l), (1, AObj.arr 3 (i64T) 0 false [s]), (2, AObj.arr 3 (i64T) 0 false [n])])
    else some (AEnd.ret [AV.nils, I 1], [(0, AObj.arr 2 (i64T) 0 false l), (1, AObj.arr 3 (i64T) 0 false [s]), (2, AObj.arr 3 (i64T) 0 false [n])])
  else some (AEnd.ret [AV.nils, I 1], [(0, AObj.arr 2 (i64T) 0 false l), (1, AObj.arr 3 (i64T) 0 false [s]), (2, AObj.arr 3 (i64T) 0 false [n])]) := by kernel_rfl
theorem rea_eq (F : FnE) (off n s : Int) (l : List Int) : runC (gV F) Tryz.f79 5 [(5, [0, 1, 2, 3, 4, 5, 6, 14, 15, 16, 17, 18, 19, 20, 21, 22, 23, 24])] [vwA off 2 1, .os 0 0] (hpV1 n s l) ah =
  bif countE [n] == 0 then 
    bif decide (off ≥ 0) then 
      bif decide (off < 65536) then 
        bif decide (s < 0) then some (AEnd.ret [AV.nils, I 1], [(0, AObj.arr 2 (i64T) 0 false l), (1, AObj.arr 3 (i64T) 0 false [s]), (2, AObj.arr 3 (i64T) 0 false [n])])
        else 
          bif decide (s > 65536) then some (AEnd.ret [AV.nils, I 1], [(0, AObj.arr 2 (i64T) 0 false l), (1, AObj.arr 3 (i64T) 0 false [s]), (2, AObj.arr 3 (i64T) 0 false [n])])
          else (rfp (gV F) cf_rea) (cL (cR (cL (cR (cR (cR C_rea)))))) _ { fr := mkFr 5 [(0, (I off).pr ((AV.os 2 0).pr ((AV.os 1 0).pr (AV.d Ty.unit PUnit.unit)))), (1, AV.os 0 0), (2, AV.op 3 [] 0), (3, AV.op 4 [] 0), (4, AV.op 5 [] 0), (5, AV.op 6 [] 0), (6, AV.op 9 [] 0), (8, (I off).pr ((AV.os 2 0).pr ((AV.os 1 0).pr (AV.d Ty.unit PUnit.unit)))), (9, B true), (10, B false), (11, (I off).pr ((AV.os 2 0).pr ((AV.os 1 0).pr (AV.d Ty.unit PUnit.unit)))), (12, AV.fn (Fn.func 132) [] [AV.op 10 [] 0])], hp := [(1, AObj.arr 3 (i64T) 0 false [s]), (2, AObj.arr 3 (i64T) 0 false [n]), (10, AObj.box ((I off).pr ((AV.os 2 0).pr ((AV.os 1 0).pr (AV.d Ty.unit PUnit.unit))))), (9, AObj.box AV.nils), (1, AObj.arr 3 (i64T) 0 false [s]), (2, AObj.arr 3 (i64T) 0 false [n]), (6, AObj.box (I 0)), (5, AObj.box AV.nils), (4, AObj.box (AV.os 0 0)), (3, AObj.box ((I off).pr ((AV.os 2 0).pr ((AV.os 1 0).pr (AV.d Ty.unit PUnit.unit))))), (0, AObj.arr 2 (i64T) 0 false l), (1, AObj.arr 3 (i64T) 0 false [s]), (2, AObj.arr 3 (i64T) 0 false [n])], nx := 13 } (blkK 0 (seqQ (gV F) cf_rea (rfp (gV F) cf_rea) (cR (cR (cR (cR C_rea)))) (endC Tryz.prog 3 Tryz.f79.results.toList ah)))
      else some (AEnd.ret [AV.nils, I 1], [(0, AObj.arr 2 (i64T) 0 false l), (1, AObj.arr 3 (i64T) 0 false [s]), (2, AObj.arr 3 (i64T) 0 false [n])])
    else some (AEnd.ret [AV.nils, I 1], [(0, AObj.arr 2 (i64T) 0 false l), (1, AObj.arr 3 (i64T) 0 false [s]), (2, AObj.arr 3 (i64T) 0 false [n])])
  else some (AEnd.ret [AV.nils, I 1], [(0, AObj.arr 2 (i64T) 0 false l), (1, AObj.arr 3 (i64T) 0 false [s]), (2, AObj.arr 3 (i64T) 0 false [n])]) := runQ_runC.trans (rea_eqH (rfp (gV F) cf_rea) F off n s l)
def frV (off : Int) : Tr := mkFr 5 [(0, vwA off 2 1), (1, .os 0 0), (2, .op 3 [] 0), (3, .op 4 [] 0), (4, .op 5 [] 0), (5, .op 6 [] 0), (6, .op 9 [] 0), (8, vwA off 2 1), (9, B true), (10, B false), (11, vwA off 2 1), (12, .fn (.func 132) [] [.op 10 [] 0])]
def hpVx (off : Int) (ds ss l : List Int) : LHp := [(1, .arr 3 i64T 0 false ss), (2, .arr 3 i64T 0 false ds), (10, .box (vwA off 2 1)), (9, .box .nils), (1, .arr 3 i64T 0 false ss), (2, .arr 3 i64T 0 false ds), (6, .box (I 0)), (5, .box .nils), (4, .box (.os 0 0)), (3, .box (vwA off 2 1)), (0, .arr 2 i64T 0 false l), (1, .arr 3 i64T 0 false ss), (2, .arr 3 i64T 0 false ds)]
def rfLv (cf : Cfg) : Code → LoopC
  | .rangeFunc _ ps a b => ⟨cf.depth, ps, a, b, cf.n⟩
  | _ => ⟨0, #[], .skip, .skip, 0⟩
noncomputable def LC_rea : LoopC := rfLv cf_rea (cL (cR (cL (cR (cR (cR C_rea))))))
def frecV (off : Int) : List (Nat × AV) := [(0, vwA off 8 7), (1, .os 6 0), (2, .op 5 [] 0), (3, .op 4 [] 0), (4, .op 3 [] 0), (5, .op 2 [] 0), (6, .op 1 [] 0)]
noncomputable def hpYV (off : Int) (ds ss l : List Int) (o : AV) : LHp := [(0, .box (vwA off 8 7)), (1, .box o), (2, .box (I 0)), (3, .box .nils), (4, .box (.os 6 0)), (5, .box (vwA off 8 7)), (6, .arr 2 i64T 0 false l), (7, .arr 3 i64T 0 false ss), (8, .arr 3 i64T 0 false ds), (9, .rc (.loop LC_rea (frecV off) .ready))]
theorem pla_eq1H (hl : Hl) (off n s : Int) (l : List Int) : runH g180 Tryz.f132 6 [(2, [0, 1, 3, 4]), (4, [0, 1, 3, 4, 5])] [2] hl [.ref 9, .op 0 [] 0] (hpYV off [n] [s] l .nils) ah =
  hl (cL (cL (cR (cR C_pla)))) _ { fr := mkFr 6 [(0, AV.ref 9), (1, AV.op 0 [] 0), (3, AV.os 10 0), (4, I off)], hp := [(0, AObj.box ((I off).pr ((AV.os 8 0).pr ((AV.os 7 0).pr (AV.d Ty.unit PUnit.unit))))), (8, AObj.arr 3 (i64T) 0 false [n]), (7, AObj.arr 3 (i64T) 0 false [s]), (1, AObj.box AV.nils), (2, AObj.box (I 0)), (3, AObj.box AV.nils), (4, AObj.box (AV.os 6 0)), (6, AObj.arr 2 (i64T) 0 false l), (5, AObj.box ((I off).pr ((AV.os 8 0).pr ((AV.os 7 0).pr (AV.d Ty.unit PUnit.unit))))), (9, AObj.rc (ARec.loop LC_rea [(0, (I off).pr ((AV.os 8 0).pr ((AV.os 7 0).pr (AV.d Ty.unit PUnit.unit)))), (1, AV.os 6 0), (2, AV.op 5 [] 0), (3, AV.op 4 [] 0), (4, AV.op 3 [] 0), (5, AV.op 2 [] 0), (6, AV.op 1 [] 0)] LSta.ready)), (10, AObj.arr 3 (i64T) 0 false [0])], nx := 21 } (blkK 0 (endC Tryz.prog 10 Tryz.f132.results.toList ah)) := by kernel_rfl
theorem pla_eq1 (off n s : Int) (l : List Int) : runC g180 Tryz.f132 6 [(2, [0, 1, 3, 4]), (4, [0, 1, 3, 4, 5])] [.ref 9, .op 0 [] 0] (hpYV off [n] [s] l .nils) ah =
  (hlp g180 cf_pla) (cL (cL (cR (cR C_pla)))) _ { fr := mkFr 6 [(0, AV.ref 9), (1, AV.op 0 [] 0), (3, AV.os 10 0), (4, I off)], hp := [(0, AObj.box ((I off).pr ((AV.os 8 0).pr ((AV.os 7 0).pr (AV.d Ty.unit PUnit.unit))))), (8, AObj.arr 3 (i64T) 0 false [n]), (7, AObj.arr 3 (i64T) 0 false [s]), (1, AObj.box AV.nils), (2, AObj.box (I 0)), (3, AObj.box AV.nils), (4, AObj.box (AV.os 6 0)), (6, AObj.arr 2 (i64T) 0 false l), (5, AObj.box ((I off).pr ((AV.os 8 0).pr ((AV.os 7 0).pr (AV.d Ty.unit PUnit.unit))))), (9, AObj.rc (ARec.loop LC_rea [(0, (I off).pr ((AV.os 8 0).pr ((AV.os 7 0).pr (AV.d Ty.unit PUnit.unit)))), (1, AV.os 6 0), (2, AV.op 5 [] 0), (3, AV.op 4 [] 0), (4, AV.op 3 [] 0), (5, AV.op 2 [] 0), (6, AV.op 1 [] 0)] LSta.ready)), (10, AObj.arr 3 (i64T) 0 false [0])], nx := 21 } (blkK 0 (endC Tryz.prog 10 Tryz.f132.results.toList ah)) := runH_runC.trans (pla_eq1H (hlp g180 cf_pla) off n s l)
theorem pla_eq2H (hl : Hl) (off n m s u : Int) (l : List Int) : runH g180 Tryz.f132 6 [(2, [0, 1, 3, 4]), (4, [0, 1, 3, 4, 5])] [2] hl [.ref 9, .op 0 [] 0] (hpYV off [n, m] [s, u] l .nils) ah =
  hl (cL (cL (cR (cR C_pla)))) _ { fr := mkFr 6 [(0, AV.ref 9), (1, AV.op 0 [] 0), (3, AV.os 10 0), (4, I off)], hp := [(0, AObj.box ((I off).pr ((AV.os 8 0).pr ((AV.os 7 0).pr (AV.d Ty.unit PUnit.unit))))), (8, AObj.arr 3 (i64T) 0 false [n, m]), (7, AObj.arr 3 (i64T) 0 false [s, u]), (1, AObj.box AV.nils), (2, AObj.box (I 0)), (3, AObj.box AV.nils), (4, AObj.box (AV.os 6 0)), (6, AObj.arr 2 (i64T) 0 false l), (5, AObj.box ((I off).pr ((AV.os 8 0).pr ((AV.os 7 0).pr (AV.d Ty.unit PUnit.unit))))), (9, AObj.rc (ARec.loop LC_rea [(0, (I off).pr ((AV.os 8 0).pr ((AV.os 7 0).pr (AV.d Ty.unit PUnit.unit)))), (1, AV.os 6 0), (2, AV.op 5 [] 0), (3, AV.op 4 [] 0), (4, AV.op 3 [] 0), (5, AV.op 2 [] 0), (6, AV.op 1 [] 0)] LSta.ready)), (10, AObj.arr 3 (i64T) 0 false [0, 0])], nx := 21 } (blkK 0 (endC Tryz.prog 10 Tryz.f132.results.toList ah)) := by kernel_rfl
theorem pla_eq2 (off n m s u : Int) (l : List Int) : runC g180 Tryz.f132 6 [(2, [0, 1, 3, 4]), (4, [0, 1, 3, 4, 5])] [.ref 9, .op 0 [] 0] (hpYV off [n, m] [s, u] l .nils) ah =
  (hlp g180 cf_pla) (cL (cL (cR (cR C_pla)))) _ { fr := mkFr 6 [(0, AV.ref 9), (1, AV.op 0 [] 0), (3, AV.os 10 0), (4, I off)], hp := [(0, AObj.box ((I off).pr ((AV.os 8 0).pr ((AV.os 7 0).pr (AV.d Ty.unit PUnit.unit))))), (8, AObj.arr 3 (i64T) 0 false [n, m]), (7, AObj.arr 3 (i64T) 0 false [s, u]), (1, AObj.box AV.nils), (2, AObj.box (I 0)), (3, AObj.box AV.nils), (4, AObj.box (AV.os 6 0)), (6, AObj.arr 2 (i64T) 0 false l), (5, AObj.box ((I off).pr ((AV.os 8 0).pr ((AV.os 7 0).pr (AV.d Ty.unit PUnit.unit))))), (9, AObj.rc (ARec.loop LC_rea [(0, (I off).pr ((AV.os 8 0).pr ((AV.os 7 0).pr (AV.d Ty.unit PUnit.unit)))), (1, AV.os 6 0), (2, AV.op 5 [] 0), (3, AV.op 4 [] 0), (4, AV.op 3 [] 0), (5, AV.op 2 [] 0), (6, AV.op 1 [] 0)] LSta.ready)), (10, AObj.arr 3 (i64T) 0 false [0, 0])], nx := 21 } (blkK 0 (endC Tryz.prog 10 Tryz.f132.results.toList ah)) := runH_runC.trans (pla_eq2H (hlp g180 cf_pla) off n m s u l)
noncomputable def stW (at_ : Nat) (off : Int) (ds ss l A : List Int) (p : Int) (nx : Nat) (o : AV) (oh : LHp) : LSt := ⟨mkFr 6 [(0, .ref 9), (1, .op 0 [] 0), (3, .os at_ 0), (4, I p)], [(0, .box (vwA off 8 7)), (8, .arr 3 i64T 0 false ds), (7, .arr 3 i64T 0 false ss), (1, .box o)] ++ oh ++ [(2, .box (I 0)), (3, .box .nils), (4, .box (.os 6 0)), (6, .arr 2 i64T 0 false l), (5, .box (vwA off 8 7)), (9, .rc (.loop LC_rea (frecV off) .ready)), (at_, .arr 3 i64T 0 false A)], nx⟩
noncomputable def stW0 (off : Int) (ds ss l A : List Int) (p : Int) : LSt := stW 10 off ds ss l A p 21 .nils []
noncomputable def stW1 (off : Int) (ds ss l A : List Int) (p : Int) (out : List Int) : LSt := stW 11 off ds ss l A p 22 (.os 10 0) [(10, .arr 2 i64T 0 false out)]
theorem w1_st0H (hl : Hl) (off w s : Int) (l : List Int) (a p : Int) (n : Nat) {R : Type} (k : AEx → LSt → Option R) : lpH g180 cf_pla [2] hl (cL (cL (cR (cR C_pla)))) (n + 1) (stW0 off [w] [s] l [a] p) k =
  bif decide (p ≥ Int.ofNat l.length) then k AEx.ret { fr := mkFr 6 [(0, AV.ref 9), (1, AV.op 0 [] 0), (3, AV.os 10 0), (4, I p), (12, AV.ref 9), (13, I p), (14, B false), (15, B true)], hp := [(1, AObj.box AV.nils), (2, AObj.box (I 1)), (3, AObj.box AV.nils), (4, AObj.box (AV.os 6 0)), (5, AObj.box ((I off).pr ((AV.os 8 0).pr ((AV.os 7 0).pr (AV.d Ty.unit PUnit.unit))))), (6, AObj.arr 2 (i64T) 0 false l), (7, AObj.arr 3 (i64T) 0 false [s]), (8, AObj.arr 3 (i64T) 0 false [w]), (9, AObj.rc (ARec.loop LC_rea [(0, (I off).pr ((AV.os 8 0).pr ((AV.os 7 0).pr (AV.d Ty.unit PUnit.unit)))), (1, AV.os 6 0), (2, AV.op 5 [] 0), (3, AV.op 4 [] 0), (4, AV.op 3 [] 0), (5, AV.op 2 [] 0), (6, AV.op 1 [] 0)] (LSta.done Jmp.ret))), (0, AObj.box ((I off).pr ((AV.os 8 0).pr ((AV.os 7 0).pr (AV.d Ty.unit PUnit.unit))))), (8, AObj.arr 3 (i64T) 0 false [w]), (7, AObj.arr 3 (i64T) 0 false [s]), (1, AObj.box AV.nils), (2, AObj.box (I 0)), (3, AObj.box AV.nils), (4, AObj.box (AV.os 6 0)), (6, AObj.arr 2 (i64T) 0 false l), (5, AObj.box ((I off).pr ((AV.os 8 0).pr ((AV.os 7 0).pr (AV.d Ty.unit PUnit.unit))))), (9, AObj.rc (ARec.loop LC_rea [(0, (I off).pr ((AV.os 8 0).pr ((AV.os 7 0).pr (AV.d Ty.unit PUnit.unit)))), (1, AV.os 6 0), (2, AV.op 5 [] 0), (3, AV.op 4 [] 0), (4, AV.op 3 [] 0), (5, AV.op 2 [] 0), (6, AV.op 1 [] 0)] LSta.ready)), (10, AObj.arr 3 (i64T) 0 false [a])], nx := 30 }
  else (idx l p).bind fun v1 =>
      (l[p.toNat]?).bind fun v2 =>
        bif decide (IntKind.i64.wrap (a + 1) < w) then lpH g180 cf_pla [2] hl (cL (cL (cR (cR C_pla)))) n { fr := mkFr 6 [(0, AV.ref 9), (1, AV.op 0 [] 0), (3, AV.os 11 0), (4, I (IntKind.i64.wrap (p + s)))], hp := [(0, AObj.box ((I off).pr ((AV.os 8 0).pr ((AV.os 7 0).pr (AV.d Ty.unit PUnit.unit))))), (8, AObj.arr 3 (i64T) 0 false [w]), (7, AObj.arr 3 (i64T) 0 false [s]), (1, AObj.box (AV.os 10 0)), (10, AObj.arr 2 (i64T) 0 false [v2]), (2, AObj.box (I 0)), (3, AObj.box AV.nils), (4, AObj.box (AV.os 6 0)), (6, AObj.arr 2 (i64T) 0 false l), (5, AObj.box ((I off).pr ((AV.os 8 0).pr ((AV.os 7 0).pr (AV.d Ty.unit PUnit.unit))))), (9, AObj.rc (ARec.loop LC_rea [(0, (I off).pr ((AV.os 8 0).pr ((AV.os 7 0).pr (AV.d Ty.unit PUnit.unit)))), (1, AV.os 6 0), (2, AV.op 5 [] 0), (3, AV.op 4 [] 0), (4, AV.op 3 [] 0), (5, AV.op 2 [] 0), (6, AV.op 1 [] 0)] LSta.ready)), (11, AObj.arr 3 (i64T) 0 false [IntKind.i64.wrap (a + 1)])], nx := 22 } k
        else k AEx.ret { fr := mkFr 6 [(0, AV.ref 9), (1, AV.op 0 [] 0), (3, AV.os 11 0), (4, I (IntKind.i64.wrap (IntKind.i64.wrap (p + s) - IntKind.i64.wrap (IntKind.i64.wrap (a + 1) * s)))), (5, I (-1)), (19, I (-1)), (20, B false), (61, I (-1)), (62, B true)], hp := [(0, AObj.box ((I off).pr ((AV.os 8 0).pr ((AV.os 7 0).pr (AV.d Ty.unit PUnit.unit))))), (8, AObj.arr 3 (i64T) 0 false [w]), (7, AObj.arr 3 (i64T) 0 false [s]), (1, AObj.box (AV.os 10 0)), (10, AObj.arr 2 (i64T) 0 false [v2]), (2, AObj.box (I 0)), (3, AObj.box AV.nils), (4, AObj.box (AV.os 6 0)), (6, AObj.arr 2 (i64T) 0 false l), (5, AObj.box ((I off).pr ((AV.os 8 0).pr ((AV.os 7 0).pr (AV.d Ty.unit PUnit.unit))))), (9, AObj.rc (ARec.loop LC_rea [(0, (I off).pr ((AV.os 8 0).pr ((AV.os 7 0).pr (AV.d Ty.unit PUnit.unit)))), (1, AV.os 6 0), (2, AV.op 5 [] 0), (3, AV.op 4 [] 0), (4, AV.op 3 [] 0), (5, AV.op 2 [] 0), (6, AV.op 1 [] 0)] LSta.ready)), (11, AObj.arr 3 (i64T) 0 false [0])], nx := 22 } := by kernel_rfl
theorem w1_st0 (off w s : Int) (l : List Int) (a p : Int) (n : Nat) {R : Type} (k : AEx → LSt → Option R) : lp g180 cf_pla (cL (cL (cR (cR C_pla)))) (n + 1) (stW0 off [w] [s] l [a] p) k =
  bif decide (p ≥ Int.ofNat l.length) then k AEx.ret { fr := mkFr 6 [(0, AV.ref 9), (1, AV.op 0 [] 0), (3, AV.os 10 0), (4, I p), (12, AV.ref 9), (13, I p), (14, B false), (15, B true)], hp := [(1, AObj.box AV.nils), (2, AObj.box (I 1)), (3, AObj.box AV.nils), (4, AObj.box (AV.os 6 0)), (5, AObj.box ((I off).pr ((AV.os 8 0).pr ((AV.os 7 0).pr (AV.d Ty.unit PUnit.unit))))), (6, AObj.arr 2 (i64T) 0 false l), (7, AObj.arr 3 (i64T) 0 false [s]), (8, AObj.arr 3 (i64T) 0 false [w]), (9, AObj.rc (ARec.loop LC_rea [(0, (I off).pr ((AV.os 8 0).pr ((AV.os 7 0).pr (AV.d Ty.unit PUnit.unit)))), (1, AV.os 6 0), (2, AV.op 5 [] 0), (3, AV.op 4 [] 0), (4, AV.op 3 [] 0), (5, AV.op 2 [] 0), (6, AV.op 1 [] 0)] (LSta.done Jmp.ret))), (0, AObj.box ((I off).pr ((AV.os 8 0).pr ((AV.os 7 0).pr (AV.d Ty.unit PUnit.unit))))), (8, AObj.arr 3 (i64T) 0 false [w]), (7, AObj.arr 3 (i64T) 0 false [s]), (1, AObj.box AV.nils), (2, AObj.box (I 0)), (3, AObj.box AV.nils), (4, AObj.box (AV.os 6 0)), (6, AObj.arr 2 (i64T) 0 false l), (5, AObj.box ((I off).pr ((AV.os 8 0).pr ((AV.os 7 0).pr (AV.d Ty.unit PUnit.unit))))), (9, AObj.rc (ARec.loop LC_rea [(0, (I off).pr ((AV.os 8 0).pr ((AV.os 7 0).pr (AV.d Ty.unit PUnit.unit)))), (1, AV.os 6 0), (2, AV.op 5 [] 0), (3, AV.op 4 [] 0), (4, AV.op 3 [] 0), (5, AV.op 2 [] 0), (6, AV.op 1 [] 0)] LSta.ready)), (10, AObj.arr 3 (i64T) 0 false [a])], nx := 30 }
  else (idx l p).bind fun v1 =>
      (l[p.toNat]?).bind fun v2 =>
        bif decide (IntKind.i64.wrap (a + 1) < w) then lp g180 cf_pla (cL (cL (cR (cR C_pla)))) n { fr := mkFr 6 [(0, AV.ref 9), (1, AV.op 0 [] 0), (3, AV.os 11 0), (4, I (IntKind.i64.wrap (p + s)))], hp := [(0, AObj.box ((I off).pr ((AV.os 8 0).pr ((AV.os 7 0).pr (AV.d Ty.unit PUnit.unit))))), (8, AObj.arr 3 (i64T) 0 false [w]), (7, AObj.arr 3 (i64T) 0 false [s]), (1, AObj.box (AV.os 10 0)), (10, AObj.arr 2 (i64T) 0 false [v2]), (2, AObj.box (I 0)), (3, AObj.box AV.nils), (4, AObj.box (AV.os 6 0)), (6, AObj.arr 2 (i64T) 0 false l), (5, AObj.box ((I off).pr ((AV.os 8 0).pr ((AV.os 7 0).pr (AV.d Ty.unit PUnit.unit))))), (9, AObj.rc (ARec.loop LC_rea [(0, (I off).pr ((AV.os 8 0).pr ((AV.os 7 0).pr (AV.d Ty.unit PUnit.unit)))), (1, AV.os 6 0), (2, AV.op 5 [] 0), (3, AV.op 4 [] 0), (4, AV.op 3 [] 0), (5, AV.op 2 [] 0), (6, AV.op 1 [] 0)] LSta.ready)), (11, AObj.arr 3 (i64T) 0 false [IntKind.i64.wrap (a + 1)])], nx := 22 } k
        else k AEx.ret { fr := mkFr 6 [(0, AV.ref 9), (1, AV.op 0 [] 0), (3, AV.os 11 0), (4, I (IntKind.i64.wrap (IntKind.i64.wrap (p + s) - IntKind.i64.wrap (IntKind.i64.wrap (a + 1) * s)))), (5, I (-1)), (19, I (-1)), (20, B false), (61, I (-1)), (62, B true)], hp := [(0, AObj.box ((I off).pr ((AV.os 8 0).pr ((AV.os 7 0).pr (AV.d Ty.unit PUnit.unit))))), (8, AObj.arr 3 (i64T) 0 false [w]), (7, AObj.arr 3 (i64T) 0 false [s]), (1, AObj.box (AV.os 10 0)), (10, AObj.arr 2 (i64T) 0 false [v2]), (2, AObj.box (I 0)), (3, AObj.box AV.nils), (4, AObj.box (AV.os 6 0)), (6, AObj.arr 2 (i64T) 0 false l), (5, AObj.box ((I off).pr ((AV.os 8 0).pr ((AV.os 7 0).pr (AV.d Ty.unit PUnit.unit))))), (9, AObj.rc (ARec.loop LC_rea [(0, (I off).pr ((AV.os 8 0).pr ((AV.os 7 0).pr (AV.d Ty.unit PUnit.unit)))), (1, AV.os 6 0), (2, AV.op 5 [] 0), (3, AV.op 4 [] 0), (4, AV.op 3 [] 0), (5, AV.op 2 [] 0), (6, AV.op 1 [] 0)] LSta.ready)), (11, AObj.arr 3 (i64T) 0 false [0])], nx := 22 } := by
  have h := w1_st0H (hlp g180 cf_pla) off w s l a p n k
  simp only [lpH_lp] at h
  exact h
theorem w1_st1H (hl : Hl) (off w s : Int) (l : List Int) (a p o : Int) (out : List Int) (n : Nat) {R : Type} (k : AEx → LSt → Option R) : lpH g180 cf_pla [2] hl (cL (cL (cR (cR C_pla)))) (n + 1) (stW1 off [w] [s] l [a] p (o :: out)) k =
  bif decide (p ≥ Int.ofNat l.length) then k AEx.ret { fr := mkFr 6 [(0, AV.ref 9), (1, AV.op 0 [] 0), (3, AV.os 11 0), (4, I p), (12, AV.ref 9), (13, I p), (14, B false), (15, B true)], hp := [(10, AObj.arr 2 (i64T) 0 false (o :: out)), (1, AObj.box (AV.os 10 0)), (2, AObj.box (I 1)), (3, AObj.box AV.nils), (4, AObj.box (AV.os 6 0)), (5, AObj.box ((I off).pr ((AV.os 8 0).pr ((AV.os 7 0).pr (AV.d Ty.unit PUnit.unit))))), (6, AObj.arr 2 (i64T) 0 false l), (7, AObj.arr 3 (i64T) 0 false [s]), (8, AObj.arr 3 (i64T) 0 false [w]), (9, AObj.rc (ARec.loop LC_rea [(0, (I off).pr ((AV.os 8 0).pr ((AV.os 7 0).pr (AV.d Ty.unit PUnit.unit)))), (1, AV.os 6 0), (2, AV.op 5 [] 0), (3, AV.op 4 [] 0), (4, AV.op 3 [] 0), (5, AV.op 2 [] 0), (6, AV.op 1 [] 0)] (LSta.done Jmp.ret))), (0, AObj.box ((I off).pr ((AV.os 8 0).pr ((AV.os 7 0).pr (AV.d Ty.unit PUnit.unit))))), (8, AObj.arr 3 (i64T) 0 false [w]), (7, AObj.arr 3 (i64T) 0 false [s]), (1, AObj.box (AV.os 10 0)), (10, AObj.arr 2 (i64T) 0 false (o :: out)), (2, AObj.box (I 0)), (3, AObj.box AV.nils), (4, AObj.box (AV.os 6 0)), (6, AObj.arr 2 (i64T) 0 false l), (5, AObj.box ((I off).pr ((AV.os 8 0).pr ((AV.os 7 0).pr (AV.d Ty.unit PUnit.unit))))), (9, AObj.rc (ARec.loop LC_rea [(0, (I off).pr ((AV.os 8 0).pr ((AV.os 7 0).pr (AV.d Ty.unit PUnit.unit)))), (1, AV.os 6 0), (2, AV.op 5 [] 0), (3, AV.op 4 [] 0), (4, AV.op 3 [] 0), (5, AV.op 2 [] 0), (6, AV.op 1 [] 0)] LSta.ready)), (11, AObj.arr 3 (i64T) 0 false [a])], nx := 32 }
  else (idx l p).bind fun v1 =>
      (l[p.toNat]?).bind fun v2 =>
        (app (o :: out) [v2]).bind fun v3 =>
          bif decide (IntKind.i64.wrap (a + 1) < w) then lpH g180 cf_pla [2] hl (cL (cL (cR (cR C_pla)))) n { fr := mkFr 6 [(0, AV.ref 9), (1, AV.op 0 [] 0), (3, AV.os 11 0), (4, I (IntKind.i64.wrap (p + s)))], hp := [(0, AObj.box ((I off).pr ((AV.os 8 0).pr ((AV.os 7 0).pr (AV.d Ty.unit PUnit.unit))))), (8, AObj.arr 3 (i64T) 0 false [w]), (7, AObj.arr 3 (i64T) 0 false [s]), (1, AObj.box (AV.os 10 0)), (10, AObj.arr 2 (i64T) 0 false v3), (2, AObj.box (I 0)), (3, AObj.box AV.nils), (4, AObj.box (AV.os 6 0)), (6, AObj.arr 2 (i64T) 0 false l), (5, AObj.box ((I off).pr ((AV.os 8 0).pr ((AV.os 7 0).pr (AV.d Ty.unit PUnit.unit))))), (9, AObj.rc (ARec.loop LC_rea [(0, (I off).pr ((AV.os 8 0).pr ((AV.os 7 0).pr (AV.d Ty.unit PUnit.unit)))), (1, AV.os 6 0), (2, AV.op 5 [] 0), (3, AV.op 4 [] 0), (4, AV.op 3 [] 0), (5, AV.op 2 [] 0), (6, AV.op 1 [] 0)] LSta.ready)), (11, AObj.arr 3 (i64T) 0 false [IntKind.i64.wrap (a + 1)])], nx := 22 } k
          else k AEx.ret { fr := mkFr 6 [(0, AV.ref 9), (1, AV.op 0 [] 0), (3, AV.os 11 0), (4, I (IntKind.i64.wrap (IntKind.i64.wrap (p + s) - IntKind.i64.wrap (IntKind.i64.wrap (a + 1) * s)))), (5, I (-1)), (19, I (-1)), (20, B false), (61, I (-1)), (62, B true)], hp := [(0, AObj.box ((I off).pr ((AV.os 8 0).pr ((AV.os 7 0).pr (AV.d Ty.unit PUnit.unit))))), (8, AObj.arr 3 (i64T) 0 false [w]), (7, AObj.arr 3 (i64T) 0 false [s]), (1, AObj.box (AV.os 10 0)), (10, AObj.arr 2 (i64T) 0 false v3), (2, AObj.box (I 0)), (3, AObj.box AV.nils), (4, AObj.box (AV.os 6 0)), (6, AObj.arr 2 (i64T) 0 false l), (5, AObj.box ((I off).pr ((AV.os 8 0).pr ((AV.os 7 0).pr (AV.d Ty.unit PUnit.unit))))), (9, AObj.rc (ARec.loop LC_rea [(0, (I off).pr ((AV.os 8 0).pr ((AV.os 7 0).pr (AV.d Ty.unit PUnit.unit)))), (1, AV.os 6 0), (2, AV.op 5 [] 0), (3, AV.op 4 [] 0), (4, AV.op 3 [] 0), (5, AV.op 2 [] 0), (6, AV.op 1 [] 0)] LSta.ready)), (11, AObj.arr 3 (i64T) 0 false [0])], nx := 22 } := by kernel_rfl
theorem w1_st1 (off w s : Int) (l : List Int) (a p o : Int) (out : List Int) (n : Nat) {R : Type} (k : AEx → LSt → Option R) : lp g180 cf_pla (cL (cL (cR (cR C_pla)))) (n + 1) (stW1 off [w] [s] l [a] p (o :: out)) k =
  bif decide (p ≥ Int.ofNat l.length) then k AEx.ret { fr := mkFr 6 [(0, AV.ref 9), (1, AV.op 0 [] 0), (3, AV.os 11 0), (4, I p), (12, AV.ref 9), (13, I p), (14, B false), (15, B true)], hp := [(10, AObj.arr 2 (i64T) 0 false (o :: out)), (1, AObj.box (AV.os 10 0)), (2, AObj.box (I 1)), (3, AObj.box AV.nils), (4, AObj.box (AV.os 6 0)), (5, AObj.box ((I off).pr ((AV.os 8 0).pr ((AV.os 7 0).pr (AV.d Ty.unit PUnit.unit))))), (6, AObj.arr 2 (i64T) 0 false l), (7, AObj.arr 3 (i64T) 0 false [s]), (8, AObj.arr 3 (i64T) 0 false [w]), (9, AObj.rc (ARec.loop LC_rea [(0, (I off).pr ((AV.os 8 0).pr ((AV.os 7 0).pr (AV.d Ty.unit PUnit.unit)))), (1, AV.os 6 0), (2, AV.op 5 [] 0), (3, AV.op 4 [] 0), (4, AV.op 3 [] 0), (5, AV.op 2 [] 0), (6, AV.op 1 [] 0)] (LSta.done Jmp.ret))), (0, AObj.box ((I off).pr ((AV.os 8 0).pr ((AV.os 7 0).pr (AV.d Ty.unit PUnit.unit))))), (8, AObj.arr 3 (i64T) 0 false [w]), (7, AObj.arr 3 (i64T) 0 false [s]), (1, AObj.box (AV.os 10 0)), (10, AObj.arr 2 (i64T) 0 false (o :: out)), (2, AObj.box (I 0)), (3, AObj.box AV.nils), (4, AObj.box (AV.os 6 0)), (6, AObj.arr 2 (i64T) 0 false l), (5, AObj.box ((I off).pr ((AV.os 8 0).pr ((AV.os 7 0).pr (AV.d Ty.unit PUnit.unit))))), (9, AObj.rc (ARec.loop LC_rea [(0, (I off).pr ((AV.os 8 0).pr ((AV.os 7 0).pr (AV.d Ty.unit PUnit.unit)))), (1, AV.os 6 0), (2, AV.op 5 [] 0), (3, AV.op 4 [] 0), (4, AV.op 3 [] 0), (5, AV.op 2 [] 0), (6, AV.op 1 [] 0)] LSta.ready)), (11, AObj.arr 3 (i64T) 0 false [a])], nx := 32 }
  else (idx l p).bind fun v1 =>
      (l[p.toNat]?).bind fun v2 =>
        (app (o :: out) [v2]).bind fun v3 =>
          bif decide (IntKind.i64.wrap (a + 1) < w) then lp g180 cf_pla (cL (cL (cR (cR C_pla)))) n { fr := mkFr 6 [(0, AV.ref 9), (1, AV.op 0 [] 0), (3, AV.os 11 0), (4, I (IntKind.i64.wrap (p + s)))], hp := [(0, AObj.box ((I off).pr ((AV.os 8 0).pr ((AV.os 7 0).pr (AV.d Ty.unit PUnit.unit))))), (8, AObj.arr 3 (i64T) 0 false [w]), (7, AObj.arr 3 (i64T) 0 false [s]), (1, AObj.box (AV.os 10 0)), (10, AObj.arr 2 (i64T) 0 false v3), (2, AObj.box (I 0)), (3, AObj.box AV.nils), (4, AObj.box (AV.os 6 0)), (6, AObj.arr 2 (i64T) 0 false l), (5, AObj.box ((I off).pr ((AV.os 8 0).pr ((AV.os 7 0).pr (AV.d Ty.unit PUnit.unit))))), (9, AObj.rc (ARec.loop LC_rea [(0, (I off).pr ((AV.os 8 0).pr ((AV.os 7 0).pr (AV.d Ty.unit PUnit.unit)))), (1, AV.os 6 0), (2, AV.op 5 [] 0), (3, AV.op 4 [] 0), (4, AV.op 3 [] 0), (5, AV.op 2 [] 0), (6, AV.op 1 [] 0)] LSta.ready)), (11, AObj.arr 3 (i64T) 0 false [IntKind.i64.wrap (a + 1)])], nx := 22 } k
          else k AEx.ret { fr := mkFr 6 [(0, AV.ref 9), (1, AV.op 0 [] 0), (3, AV.os 11 0), (4, I (IntKind.i64.wrap (IntKind.i64.wrap (p + s) - IntKind.i64.wrap (IntKind.i64.wrap (a + 1) * s)))), (5, I (-1)), (19, I (-1)), (20, B false), (61, I (-1)), (62, B true)], hp := [(0, AObj.box ((I off).pr ((AV.os 8 0).pr ((AV.os 7 0).pr (AV.d Ty.unit PUnit.unit))))), (8, AObj.arr 3 (i64T) 0 false [w]), (7, AObj.arr 3 (i64T) 0 false [s]), (1, AObj.box (AV.os 10 0)), (10, AObj.arr 2 (i64T) 0 false v3), (2, AObj.box (I 0)), (3, AObj.box AV.nils), (4, AObj.box (AV.os 6 0)), (6, AObj.arr 2 (i64T) 0 false l), (5, AObj.box ((I off).pr ((AV.os 8 0).pr ((AV.os 7 0).pr (AV.d Ty.unit PUnit.unit))))), (9, AObj.rc (ARec.loop LC_rea [(0, (I off).pr ((AV.os 8 0).pr ((AV.os 7 0).pr (AV.d Ty.unit PUnit.unit)))), (1, AV.os 6 0), (2, AV.op 5 [] 0), (3, AV.op 4 [] 0), (4, AV.op 3 [] 0), (5, AV.op 2 [] 0), (6, AV.op 1 [] 0)] LSta.ready)), (11, AObj.arr 3 (i64T) 0 false [0])], nx := 22 } := by
  have h := w1_st1H (hlp g180 cf_pla) off w s l a p o out n k
  simp only [lpH_lp] at h
  exact h
theorem w2_st0H (hl : Hl) (off w v s u : Int) (l : List Int) (a b p : Int) (n : Nat) {R : Type} (k : AEx → LSt → Option R) : lpH g180 cf_pla [2] hl (cL (cL (cR (cR C_pla)))) (n + 1) (stW0 off [w, v] [s, u] l [a, b] p) k =
  bif decide (p ≥ Int.ofNat l.length) then k AEx.ret { fr := mkFr 6 [(0, AV.ref 9), (1, AV.op 0 [] 0), (3, AV.os 10 0), (4, I p), (12, AV.ref 9), (13, I p), (14, B false), (15, B true)], hp := [(1, AObj.box AV.nils), (2, AObj.box (I 1)), (3, AObj.box AV.nils), (4, AObj.box (AV.os 6 0)), (5, AObj.box ((I off).pr ((AV.os 8 0).pr ((AV.os 7 0).pr (AV.d Ty.unit PUnit.unit))))), (6, AObj.arr 2 (i64T) 0 false l), (7, AObj.arr 3 (i64T) 0 false [s, u]), (8, AObj.arr 3 (i64T) 0 false [w, v]), (9, AObj.rc (ARec.loop LC_rea [(0, (I off).pr ((AV.os 8 0).pr ((AV.os 7 0).pr (AV.d Ty.unit PUnit.unit)))), (1, AV.os 6 0), (2, AV.op 5 [] 0), (3, AV.op 4 [] 0), (4, AV.op 3 [] 0), (5, AV.op 2 [] 0), (6, AV.op 1 [] 0)] (LSta.done Jmp.ret))), (0, AObj.box ((I off).pr ((AV.os 8 0).pr ((AV.os 7 0).pr (AV.d Ty.unit PUnit.unit))))), (8, AObj.arr 3 (i64T) 0 false [w, v]), (7, AObj.arr 3 (i64T) 0 false [s, u]), (1, AObj.box AV.nils), (2, AObj.box (I 0)), (3, AObj.box AV.nils), (4, AObj.box (AV.os 6 0)), (6, AObj.arr 2 (i64T) 0 false l), (5, AObj.box ((I off).pr ((AV.os 8 0).pr ((AV.os 7 0).pr (AV.d Ty.unit PUnit.unit))))), (9, AObj.rc (ARec.loop LC_rea [(0, (I off).pr ((AV.os 8 0).pr ((AV.os 7 0).pr (AV.d Ty.unit PUnit.unit)))), (1, AV.os 6 0), (2, AV.op 5 [] 0), (3, AV.op 4 [] 0), (4, AV.op 3 [] 0), (5, AV.op 2 [] 0), (6, AV.op 1 [] 0)] LSta.ready)), (10, AObj.arr 3 (i64T) 0 false [a, b])], nx := 30 }
  else (idx l p).bind fun v1 =>
      (l[p.toNat]?).bind fun v2 =>
        bif decide (IntKind.i64.wrap (b + 1) < v) then lpH g180 cf_pla [2] hl (cL (cL (cR (cR C_pla)))) n { fr := mkFr 6 [(0, AV.ref 9), (1, AV.op 0 [] 0), (3, AV.os 11 0), (4, I (IntKind.i64.wrap (p + u)))], hp := [(0, AObj.box ((I off).pr ((AV.os 8 0).pr ((AV.os 7 0).pr (AV.d Ty.unit PUnit.unit))))), (8, AObj.arr 3 (i64T) 0 false [w, v]), (7, AObj.arr 3 (i64T) 0 false [s, u]), (1, AObj.box (AV.os 10 0)), (10, AObj.arr 2 (i64T) 0 false [v2]), (2, AObj.box (I 0)), (3, AObj.box AV.nils), (4, AObj.box (AV.os 6 0)), (6, AObj.arr 2 (i64T) 0 false l), (5, AObj.box ((I off).pr ((AV.os 8 0).pr ((AV.os 7 0).pr (AV.d Ty.unit PUnit.unit))))), (9, AObj.rc (ARec.loop LC_rea [(0, (I off).pr ((AV.os 8 0).pr ((AV.os 7 0).pr (AV.d Ty.unit PUnit.unit)))), (1, AV.os 6 0), (2, AV.op 5 [] 0), (3, AV.op 4 [] 0), (4, AV.op 3 [] 0), (5, AV.op 2 [] 0), (6, AV.op 1 [] 0)] LSta.ready)), (11, AObj.arr 3 (i64T) 0 false [a, IntKind.i64.wrap (b + 1)])], nx := 22 } k
        else 
          bif decide (IntKind.i64.wrap (a + 1) < w) then lpH g180 cf_pla [2] hl (cL (cL (cR (cR C_pla)))) n { fr := mkFr 6 [(0, AV.ref 9), (1, AV.op 0 [] 0), (3, AV.os 11 0), (4, I (IntKind.i64.wrap (IntKind.i64.wrap (IntKind.i64.wrap (p + u) - IntKind.i64.wrap (IntKind.i64.wrap (b + 1) * u)) + s)))], hp := [(0, AObj.box ((I off).pr ((AV.os 8 0).pr ((AV.os 7 0).pr (AV.d Ty.unit PUnit.unit))))), (8, AObj.arr 3 (i64T) 0 false [w, v]), (7, AObj.arr 3 (i64T) 0 false [s, u]), (1, AObj.box (AV.os 10 0)), (10, AObj.arr 2 (i64T) 0 false [v2]), (2, AObj.box (I 0)), (3, AObj.box AV.nils), (4, AObj.box (AV.os 6 0)), (6, AObj.arr 2 (i64T) 0 false l), (5, AObj.box ((I off).pr ((AV.os 8 0).pr ((AV.os 7 0).pr (AV.d Ty.unit PUnit.unit))))), (9, AObj.rc (ARec.loop LC_rea [(0, (I off).pr ((AV.os 8 0).pr ((AV.os 7 0).pr (AV.d Ty.unit PUnit.unit)))), (1, AV.os 6 0), (2, AV.op 5 [] 0), (3, AV.op 4 [] 0), (4, AV.op 3 [] 0), (5, AV.op 2 [] 0), (6, AV.op 1 [] 0)] LSta.ready)), (11, AObj.arr 3 (i64T) 0 false [IntKind.i64.wrap (a + 1), 0])], nx := 22 } k
          else k AEx.ret { fr := mkFr 6 [(0, AV.ref 9), (1, AV.op 0 [] 0), (3, AV.os 11 0), (4, I (IntKind.i64.wrap (IntKind.i64.wrap (IntKind.i64.wrap (IntKind.i64.wrap (p + u) - IntKind.i64.wrap (IntKind.i64.wrap (b + 1) * u)) + s) - IntKind.i64.wrap (IntKind.i64.wrap (a + 1) * s)))), (5, I (-1)), (19, I (-1)), (20, B false), (61, I (-1)), (62, B true)], hp := [(0, AObj.box ((I off).pr ((AV.os 8 0).pr ((AV.os 7 0).pr (AV.d Ty.unit PUnit.unit))))), (8, AObj.arr 3 (i64T) 0 false [w, v]), (7, AObj.arr 3 (i64T) 0 false [s, u]), (1, AObj.box (AV.os 10 0)), (10, AObj.arr 2 (i64T) 0 false [v2]), (2, AObj.box (I 0)), (3, AObj.box AV.nils), (4, AObj.box (AV.os 6 0)), (6, AObj.arr 2 (i64T) 0 false l), (5, AObj.box ((I off).pr ((AV.os 8 0).pr ((AV.os 7 0).pr (AV.d Ty.unit PUnit.unit))))), (9, AObj.rc (ARec.loop LC_rea [(0, (I off).pr ((AV.os 8 0).pr ((AV.os 7 0).pr (AV.d Ty.unit PUnit.unit)))), (1, AV.os 6 0), (2, AV.op 5 [] 0), (3, AV.op 4 [] 0), (4, AV.op 3 [] 0), (5, AV.op 2 [] 0), (6, AV.op 1 [] 0)] LSta.ready)), (11, AObj.arr 3 (i64T) 0 false [0, 0])], nx := 22 } := by kernel_rfl
theorem w2_st0 (off w v s u : Int) (l : List Int) (a b p : Int) (n : Nat) {R : Type} (k : AEx → LSt → Option R) : lp g180 cf_pla (cL (cL (cR (cR C_pla)))) (n + 1) (stW0 off [w, v] [s, u] l [a, b] p) k =
  bif decide (p ≥ Int.ofNat l.length) then k AEx.ret { fr := mkFr 6 [(0, AV.ref 9), (1, AV.op 0 [] 0), (3, AV.os 10 0), (4, I p), (12, AV.ref 9), (13, I p), (14, B false), (15, B true)], hp := [(1, AObj.box AV.nils), (2, AObj.box (I 1)), (3, AObj.box AV.nils), (4, AObj.box (AV.os 6 0)), (5, AObj.box ((I off).pr ((AV.os 8 0).pr ((AV.os 7 0).pr (AV.d Ty.unit PUnit.unit))))), (6, AObj.arr 2 (i64T) 0 false l), (7, AObj.arr 3 (i64T) 0 false [s, u]), (8, AObj.arr 3 (i64T) 0 false [w, v]), (9, AObj.rc (ARec.loop LC_rea [(0, (I off).pr ((AV.os 8 0).pr ((AV.os 7 0).pr (AV.d Ty.unit PUnit.unit)))), (1, AV.os 6 0), (2, AV.op 5 [] 0), (3, AV.op 4 [] 0), (4, AV.op 3 [] 0), (5, AV.op 2 [] 0), (6, AV.op 1 [] 0)] (LSta.done Jmp.ret))), (0, AObj.box ((I off).pr ((AV.os 8 0).pr ((AV.os 7 0).pr (AV.d Ty.unit PUnit.unit))))), (8, AObj.arr 3 (i64T) 0 false [w, v]), (7, AObj.arr 3 (i64T) 0 false [s, u]), (1, AObj.box AV.nils), (2, AObj.box (I 0)), (3, AObj.box AV.nils), (4, AObj.box (AV.os 6 0)), (6, AObj.arr 2 (i64T) 0 false l), (5, AObj.box ((I off).pr ((AV.os 8 0).pr ((AV.os 7 0).pr (AV.d Ty.unit PUnit.unit))))), (9, AObj.rc (ARec.loop LC_rea [(0, (I off).pr ((AV.os 8 0).pr ((AV.os 7 0).pr (AV.d Ty.unit PUnit.unit)))), (1, AV.os 6 0), (2, AV.op 5 [] 0), (3, AV.op 4 [] 0), (4, AV.op 3 [] 0), (5, AV.op 2 [] 0), (6, AV.op 1 [] 0)] LSta.ready)), (10, AObj.arr 3 (i64T) 0 false [a, b])], nx := 30 }
  else (idx l p).bind fun v1 =>
      (l[p.toNat]?).bind fun v2 =>
        bif decide (IntKind.i64.wrap (b + 1) < v) then lp g180 cf_pla (cL (cL (cR (cR C_pla)))) n { fr := mkFr 6 [(0, AV.ref 9), (1, AV.op 0 [] 0), (3, AV.os 11 0), (4, I (IntKind.i64.wrap (p + u)))], hp := [(0, AObj.box ((I off).pr ((AV.os 8 0).pr ((AV.os 7 0).pr (AV.d Ty.unit PUnit.unit))))), (8, AObj.arr 3 (i64T) 0 false [w, v]), (7, AObj.arr 3 (i64T) 0 false [s, u]), (1, AObj.box (AV.os 10 0)), (10, AObj.arr 2 (i64T) 0 false [v2]), (2, AObj.box (I 0)), (3, AObj.box AV.nils), (4, AObj.box (AV.os 6 0)), (6, AObj.arr 2 (i64T) 0 false l), (5, AObj.box ((I off).pr ((AV.os 8 0).pr ((AV.os 7 0).pr (AV.d Ty.unit PUnit.unit))))), (9, AObj.rc (ARec.loop LC_rea [(0, (I off).pr ((AV.os 8 0).pr ((AV.os 7 0).pr (AV.d Ty.unit PUnit.unit)))), (1, AV.os 6 0), (2, AV.op 5 [] 0), (3, AV.op 4 [] 0), (4, AV.op 3 [] 0), (5, AV.op 2 [] 0), (6, AV.op 1 [] 0)] LSta.ready)), (11, AObj.arr 3 (i64T) 0 false [a, IntKind.i64.wrap (b + 1)])], nx := 22 } k
        else 
          bif decide (IntKind.i64.wrap (a + 1) < w) then lp g180 cf_pla (cL (cL (cR (cR C_pla)))) n { fr := mkFr 6 [(0, AV.ref 9), (1, AV.op 0 [] 0), (3, AV.os 11 0), (4, I (IntKind.i64.wrap (IntKind.i64.wrap (IntKind.i64.wrap (p + u) - IntKind.i64.wrap (IntKind.i64.wrap (b + 1) * u)) + s)))], hp := [(0, AObj.box ((I off).pr ((AV.os 8 0).pr ((AV.os 7 0).pr (AV.d Ty.unit PUnit.unit))))), (8, AObj.arr 3 (i64T) 0 false [w, v]), (7, AObj.arr 3 (i64T) 0 false [s, u]), (1, AObj.box (AV.os 10 0)), (10, AObj.arr 2 (i64T) 0 false [v2]), (2, AObj.box (I 0)), (3, AObj.box AV.nils), (4, AObj.box (AV.os 6 0)), (6, AObj.arr 2 (i64T) 0 false l), (5, AObj.box ((I off).pr ((AV.os 8 0).pr ((AV.os 7 0).pr (AV.d Ty.unit PUnit.unit))))), (9, AObj.rc (ARec.loop LC_rea [(0, (I off).pr ((AV.os 8 0).pr ((AV.os 7 0).pr (AV.d Ty.unit PUnit.unit)))), (1, AV.os 6 0), (2, AV.op 5 [] 0), (3, AV.op 4 [] 0), (4, AV.op 3 [] 0), (5, AV.op 2 [] 0), (6, AV.op 1 [] 0)] LSta.ready)), (11, AObj.arr 3 (i64T) 0 false [IntKind.i64.wrap (a + 1), 0])], nx := 22 } k
          else k AEx.ret { fr := mkFr 6 [(0, AV.ref 9), (1, AV.op 0 [] 0), (3, AV.os 11 0), (4, I (IntKind.i64.wrap (IntKind.i64.wrap (IntKind.i64.wrap (IntKind.i64.wrap (p + u) - IntKind.i64.wrap (IntKind.i64.wrap (b + 1) * u)) + s) - IntKind.i64.wrap (IntKind.i64.wrap (a + 1) * s)))), (5, I (-1)), (19, I (-1)), (20, B false), (61, I (-1)), (62, B true)], hp := [(0, AObj.box ((I off).pr ((AV.os 8 0).pr ((AV.os 7 0).pr (AV.d Ty.unit PUnit.unit))))), (8, AObj.arr 3 (i64T) 0 false [w, v]), (7, AObj.arr 3 (i64T) 0 false [s, u]), (1, AObj.box (AV.os 10 0)), (10, AObj.arr 2 (i64T) 0 false [v2]), (2, AObj.box (I 0)), (3, AObj.box AV.nils), (4, AObj.box (AV.os 6 0)), (6, AObj.arr 2 (i64T) 0 false l), (5, AObj.box ((I off).pr ((AV.os 8 0).pr ((AV.os 7 0).pr (AV.d Ty.unit PUnit.unit))))), (9, AObj.rc (ARec.loop LC_rea [(0, (I off).pr ((AV.os 8 0).pr ((AV.os 7 0).pr (AV.d Ty.unit PUnit.unit)))), (1, AV.os 6 0), (2, AV.op 5 [] 0), (3, AV.op 4 [] 0), (4, AV.op 3 [] 0), (5, AV.op 2 [] 0), (6, AV.op 1 [] 0)] LSta.ready)), (11, AObj.arr 3 (i64T) 0 false [0, 0])], nx := 22 } := by
  have h := w2_st0H (hlp g180 cf_pla) off w v s u l a b p n k
  simp only [lpH_lp] at h
  exact h
theorem w2_st1H (hl : Hl) (off w v s u : Int) (l : List Int) (a b p o : Int) (out : List Int) (n : Nat) {R : Type} (k : AEx → LSt → Option R) : lpH g180 cf_pla [2] hl (cL (cL (cR (cR C_pla)))) (n + 1) (stW1 off [w, v] [s, u] l [a, b] p (o :: out)) k =
  bif decide (p ≥ Int.ofNat l.length) then k AEx.ret { fr := mkFr 6 [(0, AV.ref 9), (1, AV.op 0 [] 0), (3, AV.os 11 0), (4, I p), (12, AV.ref 9), (13, I p), (14, B false), (15, B true)], hp := [(10, AObj.arr 2 (i64T) 0 false (o :: out)), (1, AObj.box (AV.os 10 0)), (2, AObj.box (I 1)), (3, AObj.box AV.nils), (4, AObj.box (AV.os 6 0)), (5, AObj.box ((I off).pr ((AV.os 8 0).pr ((AV.os 7 0).pr (AV.d Ty.unit PUnit.unit))))), (6, AObj.arr 2 (i64T) 0 false l), (7, AObj.arr 3 (i64T) 0 false [s, u]), (8, AObj.arr 3 (i64T) 0 false [w, v]), (9, AObj.rc (ARec.loop LC_rea [(0, (I off).pr ((AV.os 8 0).pr ((AV.os 7 0).pr (AV.d Ty.unit PUnit.unit)))), (1, AV.os 6 0), (2, AV.op 5 [] 0), (3, AV.op 4 [] 0), (4, AV.op 3 [] 0), (5, AV.op 2 [] 0), (6, AV.op 1 [] 0)] (LSta.done Jmp.ret))), (0, AObj.box ((I off).pr ((AV.os 8 0).pr ((AV.os 7 0).pr (AV.d Ty.unit PUnit.unit))))), (8, AObj.arr 3 (i64T) 0 false [w, v]), (7, AObj.arr 3 (i64T) 0 false [s, u]), (1, AObj.box (AV.os 10 0)), (10, AObj.arr 2 (i64T) 0 false (o :: out)), (2, AObj.box (I 0)), (3, AObj.box AV.nils), (4, AObj.box (AV.os 6 0)), (6, AObj.arr 2 (i64T) 0 false l), (5, AObj.box ((I off).pr ((AV.os 8 0).pr ((AV.os 7 0).pr (AV.d Ty.unit PUnit.unit))))), (9, AObj.rc (ARec.loop LC_rea [(0, (I off).pr ((AV.os 8 0).pr ((AV.os 7 0).pr (AV.d Ty.unit PUnit.unit)))), (1, AV.os 6 0), (2, AV.op 5 [] 0), (3, AV.op 4 [] 0), (4, AV.op 3 [] 0), (5, AV.op 2 [] 0), (6, AV.op 1 [] 0)] LSta.ready)), (11, AObj.arr 3 (i64T) 0 false [a, b])], nx := 32 }
  else (idx l p).bind fun v1 =>
      (l[p.toNat]?).bind fun v2 =>
        (app (o :: out) [v2]).bind fun v3 =>
          bif decide (IntKind.i64.wrap (b + 1) < v) then lpH g180 cf_pla [2] hl (cL (cL (cR (cR C_pla)))) n { fr := mkFr 6 [(0, AV.ref 9), (1, AV.op 0 [] 0), (3, AV.os 11 0), (4, I (IntKind.i64.wrap (p + u)))], hp := [(0, AObj.box ((I off).pr ((AV.os 8 0).pr ((AV.os 7 0).pr (AV.d Ty.unit PUnit.unit))))), (8, AObj.arr 3 (i64T) 0 false [w, v]), (7, AObj.arr 3 (i64T) 0 false [s, u]), (1, AObj.box (AV.os 10 0)), (10, AObj.arr 2 (i64T) 0 false v3), (2, AObj.box (I 0)), (3, AObj.box AV.nils), (4, AObj.box (AV.os 6 0)), (6, AObj.arr 2 (i64T) 0 false l), (5, AObj.box ((I off).pr ((AV.os 8 0).pr ((AV.os 7 0).pr (AV.d Ty.unit PUnit.unit))))), (9, AObj.rc (ARec.loop LC_rea [(0, (I off).pr ((AV.os 8 0).pr ((AV.os 7 0).pr (AV.d Ty.unit PUnit.unit)))), (1, AV.os 6 0), (2, AV.op 5 [] 0), (3, AV.op 4 [] 0), (4, AV.op 3 [] 0), (5, AV.op 2 [] 0), (6, AV.op 1 [] 0)] LSta.ready)), (11, AObj.arr 3 (i64T) 0 false [a, IntKind.i64.wrap (b + 1)])], nx := 22 } k
          else 
            bif decide (IntKind.i64.wrap (a + 1) < w) then lpH g180 cf_pla [2] hl (cL (cL (cR (cR C_pla)))) n { fr := mkFr 6 [(0, AV.ref 9), (1, AV.op 0 [] 0), (3, AV.os 11 0), (4, I (IntKind.i64.wrap (IntKind.i64.wrap (IntKind.i64.wrap (p + u) - IntKind.i64.wrap (IntKind.i64.wrap (b + 1) * u)) + s)))], hp := [(0, AObj.box ((I off).pr ((AV.os 8 0).pr ((AV.os 7 0).pr (AV.d Ty.unit PUnit.unit))))), (8, AObj.arr 3 (i64T) 0 false [w, v]), (7, AObj.arr 3 (i64T) 0 false [s, u]), (1, AObj.box (AV.os 10 0)), (10, AObj.arr 2 (i64T) 0 false v3), (2, AObj.box (I 0)), (3, AObj.box AV.nils), (4, AObj.box (AV.os 6 0)), (6, AObj.arr 2 (i64T) 0 false l), (5, AObj.box ((I off).pr ((AV.os 8 0).pr ((AV.os 7 0).pr (AV.d Ty.unit PUnit.unit))))), (9, AObj.rc (ARec.loop LC_rea [(0, (I off).pr ((AV.os 8 0).pr ((AV.os 7 0).pr (AV.d Ty.unit PUnit.unit)))), (1, AV.os 6 0), (2, AV.op 5 [] 0), (3, AV.op 4 [] 0), (4, AV.op 3 [] 0), (5, AV.op 2 [] 0), (6, AV.op 1 [] 0)] LSta.ready)), (11, AObj.arr 3 (i64T) 0 false [IntKind.i64.wrap (a + 1), 0])], nx := 22 } k
            else k AEx.ret { fr := mkFr 6 [(0, AV.ref 9), (1, AV.op 0 [] 0), (3, AV.os 11 0), (4, I (IntKind.i64.wrap (IntKind.i64.wrap (IntKind.i64.wrap (IntKind.i64.wrap (p + u) - IntKind.i64.wrap (IntKind.i64.wrap (b + 1) * u)) + s) - IntKind.i64.wrap (IntKind.i64.wrap (a + 1) * s)))), (5, I (-1)), (19, I (-1)), (20, B false), (61, I (-1)), (62, B true)], hp := [(0, AObj.box ((I off).pr ((AV.os 8 0).pr ((AV.os 7 0).pr (AV.d Ty.unit PUnit.unit))))), (8, AObj.arr 3 (i64T) 0 false [w, v]), (7, AObj.arr 3 (i64T) 0 false [s, u]), (1, AObj.box (AV.os 10 0)), (10, AObj.arr 2 (i64T) 0 false v3), (2, AObj.box (I 0)), (3, AObj.box AV.nils), (4, AObj.box (AV.os 6 0)), (6, AObj.arr 2 (i64T) 0 false l), (5, AObj.box ((I off).pr ((AV.os 8 0).pr ((AV.os 7 0).pr (AV.d Ty.unit PUnit.unit))))), (9, AObj.rc (ARec.loop LC_rea [(0, (I off).pr ((AV.os 8 0).pr ((AV.os 7 0).pr (AV.d Ty.unit PUnit.unit)))), (1, AV.os 6 0), (2, AV.op 5 [] 0), (3, AV.op 4 [] 0), (4, AV.op 3 [] 0), (5, AV.op 2 [] 0), (6, AV.op 1 [] 0)] LSta.ready)), (11, AObj.arr 3 (i64T) 0 false [0, 0])], nx := 22 } := by kernel_rfl
theorem w2_st1 (off w v s u : Int) (l : List Int) (a b p o : Int) (out : List Int) (n : Nat) {R : Type} (k : AEx → LSt → Option R) : lp g180 cf_pla (cL (cL (cR (cR C_pla)))) (n + 1) (stW1 off [w, v] [s, u] l [a, b] p (o :: out)) k =
  bif decide (p ≥ Int.ofNat l.length) then k AEx.ret { fr := mkFr 6 [(0, AV.ref 9), (1, AV.op 0 [] 0), (3, AV.os 11 0), (4, I p), (12, AV.ref 9), (13, I p), (14, B false), (15, B true)], hp := [(10, AObj.arr 2 (i64T) 0 false (o :: out)), (1, AObj.box (AV.os 10 0)), (2, AObj.box (I 1)), (3, AObj.box AV.nils), (4, AObj.box (AV.os 6 0)), (5, AObj.box ((I off).pr ((AV.os 8 0).pr ((AV.os 7 0).pr (AV.d Ty.unit PUnit.unit))))), (6, AObj.arr 2 (i64T) 0 false l), (7, AObj.arr 3 (i64T) 0 false [s, u]), (8, AObj.arr 3 (i64T) 0 false [w, v]), (9, AObj.rc (ARec.loop LC_rea [(0, (I off).pr ((AV.os 8 0).pr ((AV.os 7 0).pr (AV.d Ty.unit PUnit.unit)))), (1, AV.os 6 0), (2, AV.op 5 [] 0), (3, AV.op 4 [] 0), (4, AV.op 3 [] 0), (5, AV.op 2 [] 0), (6, AV.op 1 [] 0)] (LSta.done Jmp.ret))), (0, AObj.box ((I off).pr ((AV.os 8 0).pr ((AV.os 7 0).pr (AV.d Ty.unit PUnit.unit))))), (8, AObj.arr 3 (i64T) 0 false [w, v]), (7, AObj.arr 3 (i64T) 0 false [s, u]), (1, AObj.box (AV.os 10 0)), (10, AObj.arr 2 (i64T) 0 false (o :: out)), (2, AObj.box (I 0)), (3, AObj.box AV.nils), (4, AObj.box (AV.os 6 0)), (6, AObj.arr 2 (i64T) 0 false l), (5, AObj.box ((I off).pr ((AV.os 8 0).pr ((AV.os 7 0).pr (AV.d Ty.unit PUnit.unit))))), (9, AObj.rc (ARec.loop LC_rea [(0, (I off).pr ((AV.os 8 0).pr ((AV.os 7 0).pr (AV.d Ty.unit PUnit.unit)))), (1, AV.os 6 0), (2, AV.op 5 [] 0), (3, AV.op 4 [] 0), (4, AV.op 3 [] 0), (5, AV.op 2 [] 0), (6, AV.op 1 [] 0)] LSta.ready)), (11, AObj.arr 3 (i64T) 0 false [a, b])], nx := 32 }
  else (idx l p).bind fun v1 =>
      (l[p.toNat]?).bind fun v2 =>
        (app (o :: out) [v2]).bind fun v3 =>
          bif decide (IntKind.i64.wrap (b + 1) < v) then lp g180 cf_pla (cL (cL (cR (cR C_pla)))) n { fr := mkFr 6 [(0, AV.ref 9), (1, AV.op 0 [] 0), (3, AV.os 11 0), (4, I (IntKind.i64.wrap (p + u)))], hp := [(0, AObj.box ((I off).pr ((AV.os 8 0).pr ((AV.os 7 0).pr (AV.d Ty.unit PUnit.unit))))), (8, AObj.arr 3 (i64T) 0 false [w, v]), (7, AObj.arr 3 (i64T) 0 false [s, u]), (1, AObj.box (AV.os 10 0)), (10, AObj.arr 2 (i64T) 0 false v3), (2, AObj.box (I 0)), (3, AObj.box AV.nils), (4, AObj.box (AV.os 6 0)), (6, AObj.arr 2 (i64T) 0 false l), (5, AObj.box ((I off).pr ((AV.os 8 0).pr ((AV.os 7 0).pr (AV.d Ty.unit PUnit.unit))))), (9, AObj.rc (ARec.loop LC_rea [(0, (I off).pr ((AV.os 8 0).pr ((AV.os 7 0).pr (AV.d Ty.unit PUnit.unit)))), (1, AV.os 6 0), (2, AV.op 5 [] 0), (3, AV.op 4 [] 0), (4, AV.op 3 [] 0), (5, AV.op 2 [] 0), (6, AV.op 1 [] 0)] LSta.ready)), (11, AObj.arr 3 (i64T) 0 false [a, IntKind.i64.wrap (b + 1)])], nx := 22 } k
          else 
            bif decide (IntKind.i64.wrap (a + 1) < w) then lp g180 cf_pla (cL (cL (cR (cR C_pla)))) n { fr := mkFr 6 [(0, AV.ref 9), (1, AV.op 0 [] 0), (3, AV.os 11 0), (4, I (IntKind.i64.wrap (IntKind.i64.wrap (IntKind.i64.wrap (p + u) - IntKind.i64.wrap (IntKind.i64.wrap (b + 1) * u)) + s)))], hp := [(0, AObj.box ((I off).pr ((AV.os 8 0).pr ((AV.os 7 0).pr (AV.d Ty.unit PUnit.unit))))), (8, AObj.arr 3 (i64T) 0 false [w, v]), (7, AObj.arr 3 (i64T) 0 false [s, u]), (1, AObj.box (AV.os 10 0)), (10, AObj.arr 2 (i64T) 0 false v3), (2, AObj.box (I 0)), (3, AObj.box AV.nils), (4, AObj.box (AV.os 6 0)), (6, AObj.arr 2 (i64T) 0 false l), (5, AObj.box ((I off).pr ((AV.os 8 0).pr ((AV.os 7 0).pr (AV.d Ty.unit PUnit.unit))))), (9, AObj.rc (ARec.loop LC_rea [(0, (I off).pr ((AV.os 8 0).pr ((AV.os 7 0).pr (AV.d Ty.unit PUnit.unit)))), (1, AV.os 6 0), (2, AV.op 5 [] 0), (3, AV.op 4 [] 0), (4, AV.op 3 [] 0), (5, AV.op 2 [] 0), (6, AV.op 1 [] 0)] LSta.ready)), (11, AObj.arr 3 (i64T) 0 false [IntKind.i64.wrap (a + 1), 0])], nx := 22 } k
            else k AEx.ret { fr := mkFr 6 [(0, AV.ref 9), (1, AV.op 0 [] 0), (3, AV.os 11 0), (4, I (IntKind.i64.wrap (IntKind.i64.wrap (IntKind.i64.wrap (IntKind.i64.wrap (p + u) - IntKind.i64.wrap (IntKind.i64.wrap (b + 1) * u)) + s) - IntKind.i64.wrap (IntKind.i64.wrap (a + 1) * s)))), (5, I (-1)), (19, I (-1)), (20, B false), (61, I (-1)), (62, B true)], hp := [(0, AObj.box ((I off).pr ((AV.os 8 0).pr ((AV.os 7 0).pr (AV.d Ty.unit PUnit.unit))))), (8, AObj.arr 3 (i64T) 0 false [w, v]), (7, AObj.arr 3 (i64T) 0 false [s, u]), (1, AObj.box (AV.os 10 0)), (10, AObj.arr 2 (i64T) 0 false v3), (2, AObj.box (I 0)), (3, AObj.box AV.nils), (4, AObj.box (AV.os 6 0)), (6, AObj.arr 2 (i64T) 0 false l), (5, AObj.box ((I off).pr ((AV.os 8 0).pr ((AV.os 7 0).pr (AV.d Ty.unit PUnit.unit))))), (9, AObj.rc (ARec.loop LC_rea [(0, (I off).pr ((AV.os 8 0).pr ((AV.os 7 0).pr (AV.d Ty.unit PUnit.unit)))), (1, AV.os 6 0), (2, AV.op 5 [] 0), (3, AV.op 4 [] 0), (4, AV.op 3 [] 0), (5, AV.op 2 [] 0), (6, AV.op 1 [] 0)] LSta.ready)), (11, AObj.arr 3 (i64T) 0 false [0, 0])], nx := 22 } := by
  have h := w2_st1H (hlp g180 cf_pla) off w v s u l a b p o out n k
  simp only [lpH_lp] at h
  exact h
noncomputable def WK : AEx → LSt → Option (AEnd × LHp) := (blkK 0 (endC Tryz.prog 10 Tryz.f132.results.toList ah))
noncomputable def hpYW (off : Int) (ds ss l out : List Int) : LHp := [(0, .box (vwA off 8 7)), (8, .arr 3 i64T 0 false ds), (7, .arr 3 i64T 0 false ss), (1, .box (.os 10 0)), (10, .arr 2 i64T 0 false out), (2, .box (I 0)), (3, .box .nils), (4, .box (.os 6 0)), (6, .arr 2 i64T 0 false l), (5, .box (vwA off 8 7)), (9, .rc (.loop LC_rea (frecV off) .ready))]
noncomputable def frecVT (off : Int) : List (Nat × AV) := slotsF ⟨frV off, [], 0⟩ (loopLive cf_rea LC_rea.assign)
noncomputable def hpVx2 (off : Int) (ds ss l : List Int) : LHp := (13, .rc (.loop LC_rea (frecVT off) .ready)) :: hpVx off ds ss l
theorem rea_rf (F : FnE) (off : Int) (ds ss l : List Int) (k : AEx → LSt → Option (AEnd × LHp)) : exC (gV F) cf_rea (cL (cR (cL (cR (cR (cR C_rea)))))) ⟨frV off, hpVx off ds ss l, 13⟩ k =
    F.run [.ref 9, .op 0 [] 0] (hpYV off ds ss l .nils) (callK [10, 9, 6, 5, 4, 3, 0, 1, 2, 13] (hpVx2 off ds ss l) 14 (rfK (frV off) (hpVx2 off ds ss l) 13 k) (rfP (frV off) (hpVx2 off ds ss l) 13 k)) := by kernel_rfl
noncomputable def RK0 (F : FnE) : AEx → LSt → Option (AEnd × LHp) := blkK 0 (seqQ (gV F) cf_rea (rfp (gV F) cf_rea) (cR (cR (cR (cR C_rea)))) (endC Tryz.prog 3 Tryz.f79.results.toList ah))
theorem rea_fin (F : FnE) (off : Int) (ds ss l out : List Int) : callK [10, 9, 6, 5, 4, 3, 0, 1, 2, 13] (hpVx2 off ds ss l) 14 (rfK (frV off) (hpVx2 off ds ss l) 13 (RK0 F)) (rfP (frV off) (hpVx2 off ds ss l) 13 (RK0 F)) (.ret []) (hpYW off ds ss l out) =
  some (AEnd.ret [AV.os 3 0, I 0], [(0, AObj.arr 2 (i64T) 0 false l), (1, AObj.arr 3 (i64T) 0 false ss), (2, AObj.arr 3 (i64T) 0 false ds), (3, AObj.arr 2 (i64T) 0 false out)]) := by kernel_rfl
end Go.Proofs.XGT
/- view.Read of views of rank 1 and 2: what it reads. -/
namespace Go.Proofs.XGT
open Go.Vm Go
set_option maxRecDepth 100000
set_option maxHeartbeats 1000000
theorem tab_succ (n : Nat) (f : Nat → Int) : tab (n + 1) f = tab n f ++ [f n] := by
  unfold tab
  rw [List.range_succ, List.map_append]
  rfl
noncomputable def stWm (off : Int) (ds ss l A : List Int) (p : Int) (out : List Int) : LSt := match out with
  | [] => stW0 off ds ss l A p
  | o :: r => stW1 off ds ss l A p (o :: r)
noncomputable def stWE (off : Int) (ds ss l A : List Int) (p : Int) (out : List Int) : LSt := ⟨mkFr 6 [(0, .ref 9), (1, .op 0 [] 0), (3, .os 11 0), (4, I p), (5, I (-1)), (19, I (-1)), (20, B false), (61, I (-1)), (62, B true)], (stW1 off ds ss l A p out).hp, 22⟩
theorem WK_end (off : Int) (ds ss l A : List Int) (p : Int) (out : List Int) : WK .ret (stWE off ds ss l A p out) = some (.ret [], hpYW off ds ss l out) := by kernel_rfl
theorem getV {l : List Int} {p : Nat} (h : p < l.length) : idx l (p : Int) = some (l.getD p 0) ∧ l[p]? = some (l.getD p 0) := by
  have e : l[p]? = some (l.getD p 0) := by rw [List.getD_eq_getElem?_getD, List.getElem?_eq_getElem h]; rfl
  exact ⟨by unfold idx; rw [if_pos (by omega), Int.toNat_natCast, e], e⟩
theorem app_one {xs : List Int} {y : Int} (h : xs.length ≤ 65536) : app xs [y] = some (xs ++ [y]) := by
  unfold app
  rw [if_pos (by unfold lim; simp only [List.length_cons, List.length_nil]; omega)]
def f1V (l : List Int) (o s : Nat) (q : Nat) : Int := l.getD (o + q * s) 0
def f2V (l : List Int) (o v s u : Nat) (q : Nat) : Int := l.getD (o + q / v * s + q % v * u) 0
theorem w1_one {o w s m : Nat} {l : List Int} (hm : m < w) (ho : o ≤ 65536) (hs : s ≤ 65536) (hw : w ≤ 65536) (hp : o + m * s < l.length) (n : Nat) {R : Type} (k : AEx → LSt → Option R) :
    ∃ P : Int, lp g180 cf_pla (cL (cL (cR (cR C_pla)))) (n + 1) (stWm o [(w : Int)] [(s : Int)] l [(m : Int)] ((o + m * s : Nat) : Int) (tab m (f1V l o s))) k =
      if m + 1 < w then lp g180 cf_pla (cL (cL (cR (cR C_pla)))) n (stWm o [(w : Int)] [(s : Int)] l [((m + 1 : Nat) : Int)] ((o + (m + 1) * s : Nat) : Int) (tab (m + 1) (f1V l o s))) k
      else k .ret (stWE o [(w : Int)] [(s : Int)] l [0] P (tab (m + 1) (f1V l o s))) := by
  have b1 : m * s ≤ 65536 * 65536 := Nat.mul_le_mul (by omega) hs
  have b2 : (m + 1) * s = m * s + s := by rw [Nat.add_mul, Nat.one_mul]
  have e0 : IntKind.i64.wrap ((m : Int) + 1) = ((m + 1 : Nat) : Int) := by rw [wrap64 (by omega) (by omega)]; omega
  have e1 : IntKind.i64.wrap (((o + m * s : Nat) : Int) + s) = ((o + (m + 1) * s : Nat) : Int) := by rw [b2, wrap64 (by omega) (by omega)]; omega
  obtain ⟨g1, g2⟩ := getV hp
  have hge : decide (((o + m * s : Nat) : Int) ≥ Int.ofNat l.length) = false := decide_eq_false (by simp only [Int.ofNat_eq_natCast]; omega)
  refine ⟨IntKind.i64.wrap (((o + (m + 1) * s : Nat) : Int) - IntKind.i64.wrap (((m + 1 : Nat) : Int) * s)), ?_⟩
  rw [tab_succ]
  have hfm : f1V l o s m = l.getD (o + m * s) 0 := rfl
  have hlen : (tab m (f1V l o s)).length = m := tab_length _ _
  cases htab : tab m (f1V l o s) with
  | nil =>
    show lp g180 cf_pla (cL (cL (cR (cR C_pla)))) (n + 1) (stW0 o [(w : Int)] [(s : Int)] l [(m : Int)] ((o + m * s : Nat) : Int)) k = _
    rw [w1_st0, hge, cond_false, g1, Option.bind_some, Int.toNat_natCast, g2, Option.bind_some, e0, e1, hfm]
    by_cases h : m + 1 < w
    · rw [decide_eq_true (show ((m + 1 : Nat) : Int) < (w : Int) by omega), cond_true, if_pos h]
      rfl
    · rw [decide_eq_false (show ¬ (((m + 1 : Nat) : Int) < (w : Int)) by omega), cond_false, if_neg h]
      rfl
  | cons q r =>
    have hl2 : (q :: r).length ≤ 65536 := by rw [← htab, hlen]; omega
    show lp g180 cf_pla (cL (cL (cR (cR C_pla)))) (n + 1) (stW1 o [(w : Int)] [(s : Int)] l [(m : Int)] ((o + m * s : Nat) : Int) (q :: r)) k = _
    rw [w1_st1, hge, cond_false, g1, Option.bind_some, Int.toNat_natCast, g2, Option.bind_some, app_one hl2, Option.bind_some, e0, e1, hfm]
    by_cases h : m + 1 < w
    · rw [decide_eq_true (show ((m + 1 : Nat) : Int) < (w : Int) by omega), cond_true, if_pos h]
      rfl
    · rw [decide_eq_false (show ¬ (((m + 1 : Nat) : Int) < (w : Int)) by omega), cond_false, if_neg h]
      rfl
theorem w1_all {o w s : Nat} {l : List Int} (ho : o ≤ 65536) (hs : s ≤ 65536) (hw : w ≤ 65536) (hp : o + (w - 1) * s < l.length) : ∀ (r m n : Nat), m + r + 1 = w → r < n →
    lp g180 cf_pla (cL (cL (cR (cR C_pla)))) n (stWm o [(w : Int)] [(s : Int)] l [(m : Int)] ((o + m * s : Nat) : Int) (tab m (f1V l o s))) WK = some (.ret [], hpYW o [(w : Int)] [(s : Int)] l (tab w (f1V l o s))) := by
  intro r
  induction r with
  | zero =>
    intro m n hm hn
    obtain ⟨n, rfl⟩ : ∃ m', n = m' + 1 := ⟨n - 1, by omega⟩
    obtain rfl : w = m + 1 := by omega
    obtain ⟨P, h⟩ := w1_one (m := m) (by omega) ho hs hw (by rw [Nat.add_sub_cancel] at hp; exact hp) n WK
    rw [h, if_neg (by omega)]
    exact WK_end _ _ _ _ _ _ _
  | succ r ih =>
    intro m n hm hn
    obtain ⟨n, rfl⟩ : ∃ m', n = m' + 1 := ⟨n - 1, by omega⟩
    have hle : m * s ≤ (w - 1) * s := Nat.mul_le_mul_right _ (by omega)
    obtain ⟨P, h⟩ := w1_one (m := m) (by omega) ho hs hw (show o + m * s < l.length by omega) n WK
    rw [h, if_pos (by omega)]
    exact ih (m + 1) n (by omega) (by omega)
theorem w2_one {o w v s u a b : Nat} {l : List Int} (ha : a < w) (hb : b < v) (ho : o ≤ 65536) (hs : s ≤ 65536) (hu : u ≤ 65536) (hwv : w * v ≤ 65536) (hp : o + a * s + b * u < l.length) (n : Nat) {R : Type} (k : AEx → LSt → Option R) :
    ∃ P : Int, lp g180 cf_pla (cL (cL (cR (cR C_pla)))) (n + 1) (stWm o [(w : Int), (v : Int)] [(s : Int), (u : Int)] l [(a : Int), (b : Int)] ((o + a * s + b * u : Nat) : Int) (tab (a * v + b) (f2V l o v s u))) k =
      if b + 1 < v then lp g180 cf_pla (cL (cL (cR (cR C_pla)))) n (stWm o [(w : Int), (v : Int)] [(s : Int), (u : Int)] l [(a : Int), ((b + 1 : Nat) : Int)] ((o + a * s + (b + 1) * u : Nat) : Int) (tab (a * v + (b + 1)) (f2V l o v s u))) k
      else if a + 1 < w then lp g180 cf_pla (cL (cL (cR (cR C_pla)))) n (stWm o [(w : Int), (v : Int)] [(s : Int), (u : Int)] l [((a + 1 : Nat) : Int), ((0 : Nat) : Int)] ((o + (a + 1) * s + 0 * u : Nat) : Int) (tab (a * v + (b + 1)) (f2V l o v s u))) k
      else k .ret (stWE o [(w : Int), (v : Int)] [(s : Int), (u : Int)] l [0, 0] P (tab (a * v + (b + 1)) (f2V l o v s u))) := by
  have hav := row_le (C := v) ha
  have hvw : v ≤ w * v := Nat.le_mul_of_pos_left _ (by omega)
  have hww : w ≤ w * v := Nat.le_mul_of_pos_right _ (by omega)
  have c1 : a * s ≤ 65536 * 65536 := Nat.mul_le_mul (by omega) hs
  have c2 : b * u ≤ 65536 * 65536 := Nat.mul_le_mul (by omega) hu
  have b2 : (b + 1) * u = b * u + u := by rw [Nat.add_mul, Nat.one_mul]
  have a2 : (a + 1) * s = a * s + s := by rw [Nat.add_mul, Nat.one_mul]
  have e0 : IntKind.i64.wrap ((b : Int) + 1) = ((b + 1 : Nat) : Int) := by rw [wrap64 (by omega) (by omega)]; omega
  have e0a : IntKind.i64.wrap ((a : Int) + 1) = ((a + 1 : Nat) : Int) := by rw [wrap64 (by omega) (by omega)]; omega
  have e1 : IntKind.i64.wrap (((o + a * s + b * u : Nat) : Int) + u) = ((o + a * s + (b + 1) * u : Nat) : Int) := by rw [b2, wrap64 (by omega) (by omega)]; omega
  have e2 : IntKind.i64.wrap (((b + 1 : Nat) : Int) * u) = (((b + 1) * u : Nat) : Int) := by rw [← Int.natCast_mul]; exact wrap64 (by omega) (by omega)
  have e3 : IntKind.i64.wrap (((o + a * s + (b + 1) * u : Nat) : Int) - (((b + 1) * u : Nat) : Int)) = ((o + a * s : Nat) : Int) := by rw [wrap64 (by omega) (by omega)]; omega
  have e4 : IntKind.i64.wrap (((o + a * s : Nat) : Int) + s) = ((o + (a + 1) * s + 0 * u : Nat) : Int) := by rw [a2, Nat.zero_mul, Nat.add_zero, wrap64 (by omega) (by omega)]; omega
  obtain ⟨g1, g2⟩ := getV hp
  have hge : decide (((o + a * s + b * u : Nat) : Int) ≥ Int.ofNat l.length) = false := decide_eq_false (by simp only [Int.ofNat_eq_natCast]; omega)
  refine ⟨IntKind.i64.wrap (((o + (a + 1) * s + 0 * u : Nat) : Int) - IntKind.i64.wrap (((a + 1 : Nat) : Int) * s)), ?_⟩
  rw [← Nat.add_assoc (a * v) b 1, tab_succ]
  have hfm : f2V l o v s u (a * v + b) = l.getD (o + a * s + b * u) 0 := by
    have hpl := (place_iff (i := a) (p := a * v + b) (j := b) hb).mp rfl
    unfold f2V
    rw [hpl.1, hpl.2]
  have hlen : (tab (a * v + b) (f2V l o v s u)).length = a * v + b := tab_length _ _
  have fin : ∀ (q : Int) (r : List Int), tab (a * v + b) (f2V l o v s u) ++ [l.getD (o + a * s + b * u) 0] = q :: r → True := fun _ _ _ => trivial
  cases htab : tab (a * v + b) (f2V l o v s u) with
  | nil =>
    show lp g180 cf_pla (cL (cL (cR (cR C_pla)))) (n + 1) (stW0 o [(w : Int), (v : Int)] [(s : Int), (u : Int)] l [(a : Int), (b : Int)] ((o + a * s + b * u : Nat) : Int)) k = _
    rw [w2_st0, hge, cond_false, g1, Option.bind_some, Int.toNat_natCast, g2, Option.bind_some, e0, e1, hfm]
    by_cases h : b + 1 < v
    · rw [decide_eq_true (show ((b + 1 : Nat) : Int) < (v : Int) by omega), cond_true, if_pos h]
      rfl
    · rw [decide_eq_false (show ¬ (((b + 1 : Nat) : Int) < (v : Int)) by omega), cond_false, if_neg h, e2, e3, e4, e0a]
      by_cases h2 : a + 1 < w
      · rw [decide_eq_true (show ((a + 1 : Nat) : Int) < (w : Int) by omega), cond_true, if_pos h2]
        rfl
      · rw [decide_eq_false (show ¬ (((a + 1 : Nat) : Int) < (w : Int)) by omega), cond_false, if_neg h2]
        rfl
  | cons q r =>
    have hl2 : (q :: r).length ≤ 65536 := by rw [← htab, hlen]; omega
    show lp g180 cf_pla (cL (cL (cR (cR C_pla)))) (n + 1) (stW1 o [(w : Int), (v : Int)] [(s : Int), (u : Int)] l [(a : Int), (b : Int)] ((o + a * s + b * u : Nat) : Int) (q :: r)) k = _
    rw [w2_st1, hge, cond_false, g1, Option.bind_some, Int.toNat_natCast, g2, Option.bind_some, app_one hl2, Option.bind_some, e0, e1, hfm]
    by_cases h : b + 1 < v
    · rw [decide_eq_true (show ((b + 1 : Nat) : Int) < (v : Int) by omega), cond_true, if_pos h]
      rfl
    · rw [decide_eq_false (show ¬ (((b + 1 : Nat) : Int) < (v : Int)) by omega), cond_false, if_neg h, e2, e3, e4, e0a]
      by_cases h2 : a + 1 < w
      · rw [decide_eq_true (show ((a + 1 : Nat) : Int) < (w : Int) by omega), cond_true, if_pos h2]
        rfl
      · rw [decide_eq_false (show ¬ (((a + 1 : Nat) : Int) < (w : Int)) by omega), cond_false, if_neg h2]
        rfl
theorem w2_all {o w v s u : Nat} {l : List Int} (ho : o ≤ 65536) (hs : s ≤ 65536) (hu : u ≤ 65536) (hwv : w * v ≤ 65536) (hp : o + (w - 1) * s + (v - 1) * u < l.length) : ∀ (r a b n : Nat), a < w → b < v → a * v + b + r + 1 = w * v → r < n →
    lp g180 cf_pla (cL (cL (cR (cR C_pla)))) n (stWm o [(w : Int), (v : Int)] [(s : Int), (u : Int)] l [(a : Int), (b : Int)] ((o + a * s + b * u : Nat) : Int) (tab (a * v + b) (f2V l o v s u))) WK = some (.ret [], hpYW o [(w : Int), (v : Int)] [(s : Int), (u : Int)] l (tab (w * v) (f2V l o v s u))) := by
  intro r
  induction r with
  | zero =>
    intro a b n ha hb hr hn
    obtain ⟨n, rfl⟩ : ∃ m', n = m' + 1 := ⟨n - 1, by omega⟩
    have hav := row_le (C := v) ha
    have ha1 : a + 1 = w := by
      rcases Nat.lt_or_ge (a + 1) w with h | h
      · have := row_le (C := v) h
        rw [Nat.add_mul, Nat.one_mul] at this
        omega
      · omega
    have hle1 : a * s ≤ (w - 1) * s := Nat.mul_le_mul_right _ (by omega)
    have hle2 : b * u ≤ (v - 1) * u := Nat.mul_le_mul_right _ (by omega)
    obtain ⟨P, h⟩ := w2_one ha hb ho hs hu hwv (show o + a * s + b * u < l.length by omega) n WK
    have hb1 : b + 1 = v := by
      rw [← ha1, Nat.add_mul, Nat.one_mul] at hr
      omega
    rw [h, if_neg (by omega), if_neg (by omega), show a * v + (b + 1) = w * v by omega]
    exact WK_end _ _ _ _ _ _ _
  | succ r ih =>
    intro a b n ha hb hr hn
    obtain ⟨n, rfl⟩ : ∃ m', n = m' + 1 := ⟨n - 1, by omega⟩
    have hle1 : a * s ≤ (w - 1) * s := Nat.mul_le_mul_right _ (by omega)
    have hle2 : b * u ≤ (v - 1) * u := Nat.mul_le_mul_right _ (by omega)
    obtain ⟨P, h⟩ := w2_one ha hb ho hs hu hwv (show o + a * s + b * u < l.length by omega) n WK
    rw [h]
    by_cases h1 : b + 1 < v
    · rw [if_pos h1]
      exact ih a (b + 1) n ha h1 (by omega) (by omega)
    · have hb1 : b + 1 = v := by omega
      have ha1 : a + 1 < w := by
        rcases Nat.lt_or_ge (a + 1) w with h2 | h2
        · exact h2
        · have : w = a + 1 := by omega
          subst this
          rw [Nat.add_mul, Nat.one_mul] at hr
          omega
      rw [if_neg h1, if_pos ha1, hb1, show a * v + v = (a + 1) * v + 0 by rw [Nat.add_mul, Nat.one_mul, Nat.add_zero]]
      exact ih (a + 1) 0 n ha1 (by omega) (by rw [Nat.add_mul, Nat.one_mul]; omega) (by omega)
end Go.Proofs.XGT
/- view.Read of a view of rank 1, told. -/
namespace Go.Proofs.XGT
open Go.Vm Go
set_option maxRecDepth 100000
set_option maxHeartbeats 4000000
theorem runC_kv {E : Env} (hE : E.Good) {fn : Func} {depth : Nat} {live : List (Nat × List Nat)} {args : List AV} {hs hs' : LHp} {ae : AEnd} (h : runC E fn depth live args hs ah = some (ae, hs')) {R : Type} (k : AEnd → LHp → Option R) : runC E fn depth live args hs k = k ae hs' := by
  rw [runC_eq hE] at h ⊢
  cases hx : execB E fn depth live args hs with
  | none => rw [hx] at h; cases h
  | some p => rw [hx] at h; cases h; rfl
theorem plaE_eqv (args : List AV) (hs : LHp) {R : Type} (k : AEnd → LHp → Option R) : y132.run args hs k = runC g180 Tryz.f132 6 [(2, [0, 1, 3, 4]), (4, [0, 1, 3, 4, 5])] args hs k := rfl
theorem gV_good : (gV y132).Good := g182_good.add y132_ok
theorem pla1_run {o w s : Nat} {l : List Int} (ho : o ≤ 65536) (hs : s ≤ 65536) (hw : w ≤ 65536) (hw1 : 1 ≤ w) (hp : o + (w - 1) * s < l.length) :
    runC g180 Tryz.f132 6 [(2, [0, 1, 3, 4]), (4, [0, 1, 3, 4, 5])] [.ref 9, .op 0 [] 0] (hpYV o [(w : Int)] [(s : Int)] l .nils) ah = some (.ret [], hpYW o [(w : Int)] [(s : Int)] l (tab w (f1V l o s))) := by
  have hfu : fu = 18446744073709551616 := rfl
  have key : runC g180 Tryz.f132 6 [(2, [0, 1, 3, 4]), (4, [0, 1, 3, 4, 5])] [.ref 9, .op 0 [] 0] (hpYV o [(w : Int)] [(s : Int)] l .nils) ah = lp g180 cf_pla (cL (cL (cR (cR C_pla)))) fu (stW0 o [(w : Int)] [(s : Int)] l [0] o) WK := (pla_eq1 o w s l).trans (by kernel_rfl)
  have h := w1_all ho hs hw hp (w - 1) 0 fu (by omega) (by omega)
  rw [Nat.zero_mul, Nat.add_zero] at h
  have e : stWm o [(w : Int)] [(s : Int)] l [((0 : Nat) : Int)] (o : Int) (tab 0 (f1V l o s)) = stW0 o [(w : Int)] [(s : Int)] l [0] o := rfl
  rw [e] at h
  exact key.trans h
theorem pla2_run {o w v s u : Nat} {l : List Int} (ho : o ≤ 65536) (hs : s ≤ 65536) (hu : u ≤ 65536) (hwv : w * v ≤ 65536) (hw1 : 1 ≤ w) (hv1 : 1 ≤ v) (hp : o + (w - 1) * s + (v - 1) * u < l.length) :
    runC g180 Tryz.f132 6 [(2, [0, 1, 3, 4]), (4, [0, 1, 3, 4, 5])] [.ref 9, .op 0 [] 0] (hpYV o [(w : Int), (v : Int)] [(s : Int), (u : Int)] l .nils) ah = some (.ret [], hpYW o [(w : Int), (v : Int)] [(s : Int), (u : Int)] l (tab (w * v) (f2V l o v s u))) := by
  have hfu : fu = 18446744073709551616 := rfl
  have key : runC g180 Tryz.f132 6 [(2, [0, 1, 3, 4]), (4, [0, 1, 3, 4, 5])] [.ref 9, .op 0 [] 0] (hpYV o [(w : Int), (v : Int)] [(s : Int), (u : Int)] l .nils) ah = lp g180 cf_pla (cL (cL (cR (cR C_pla)))) fu (stW0 o [(w : Int), (v : Int)] [(s : Int), (u : Int)] l [0, 0] o) WK := (pla_eq2 o w v s u l).trans (by kernel_rfl)
  have hb : 1 ≤ w * v := Nat.mul_pos hw1 hv1
  have h := w2_all ho hs hu hwv hp (w * v - 1) 0 0 fu hw1 hv1 (by omega) (by omega)
  rw [Nat.zero_mul, Nat.zero_mul, Nat.zero_mul, Nat.add_zero, Nat.add_zero] at h
  have e : stWm o [(w : Int), (v : Int)] [(s : Int), (u : Int)] l [((0 : Nat) : Int), ((0 : Nat) : Int)] (o : Int) (tab 0 (f2V l o v s u)) = stW0 o [(w : Int), (v : Int)] [(s : Int), (u : Int)] l [0, 0] o := rfl
  rw [e] at h
  exact key.trans h
theorem rea_go (F : FnE) (off : Int) (ds ss l out : List Int) (h : ∀ (k : AEnd → LHp → Option (AEnd × LHp)), F.run [.ref 9, .op 0 [] 0] (hpYV off ds ss l .nils) k = k (.ret []) (hpYW off ds ss l out)) :
    exC (gV F) cf_rea (cL (cR (cL (cR (cR (cR C_rea)))))) ⟨frV off, hpVx off ds ss l, 13⟩ (RK0 F) = some (.ret [.os 3 0, I 0], [(0, .arr 2 i64T 0 false l), (1, .arr 3 i64T 0 false ss), (2, .arr 3 i64T 0 false ds), (3, .arr 2 i64T 0 false out)]) := by
  rw [rea_rf, h, rea_fin]
theorem rea1_run {o w s : Nat} {l : List Int} (ho : o < 65536) (hs : s ≤ 65536) (hw : w ≤ 65536) (hc : countE [(w : Int)] = 0) (hp : o + (w - 1) * s < l.length) :
    runC (gV y132) Tryz.f79 5 [(5, [0, 1, 2, 3, 4, 5, 6, 14, 15, 16, 17, 18, 19, 20, 21, 22, 23, 24])] [vwA o 2 1, .os 0 0] (hpV1 w s l) ah = some (.ret [.os 3 0, I 0], [(0, .arr 2 i64T 0 false l), (1, .arr 3 i64T 0 false [(s : Int)]), (2, .arr 3 i64T 0 false [(w : Int)]), (3, .arr 2 i64T 0 false (tab w (f1V l o s)))]) := by
  have hw1 : 1 ≤ w := by
    have := (count_ok hc).1 (w : Int) (by simp)
    omega
  have key : runC (gV y132) Tryz.f79 5 [(5, [0, 1, 2, 3, 4, 5, 6, 14, 15, 16, 17, 18, 19, 20, 21, 22, 23, 24])] [vwA o 2 1, .os 0 0] (hpV1 w s l) ah = exC (gV y132) cf_rea (cL (cR (cL (cR (cR (cR C_rea)))))) ⟨frV o, hpVx o [(w : Int)] [(s : Int)] l, 13⟩ (RK0 y132) := (rea_eq y132 o w s l).trans (by
    rw [hc, decide_eq_true (show (o : Int) ≥ 0 by omega), decide_eq_true (show (o : Int) < 65536 by omega), decide_eq_false (show ¬ ((s : Int) < 0) by omega), decide_eq_false (show ¬ ((s : Int) > 65536) by omega), beq_self_eq_true, cond_true, cond_true, cond_true, cond_false, cond_false]
    kernel_rfl)
  exact key.trans (rea_go _ _ _ _ _ _ fun k => (plaE_eqv _ _ k).trans (runC_kv g180_good (pla1_run (by omega) hs hw hw1 hp) k))
def okR1 (off s w : Int) (l : List Int) : Bool := decide (0 ≤ off ∧ off < 65536 ∧ 0 ≤ s ∧ s ≤ 65536 ∧ 0 ≤ w ∧ w ≤ 65536 ∧ countE [w] = 0 ∧ off.toNat + (w.toNat - 1) * s.toNat < l.length)
def rd1 (off s w : Int) (l : List Int) : List Int := tab w.toNat (f1V l off.toNat s.toNat)
def reaT1 : List AV → LHp → Tq
  | [.pr (.d (.int .i64) off) (.pr (.os 2 0) (.pr (.os 1 0) (.d .unit ()))), .os 0 0], [(0, .arr 2 (.int .i64) 0 false l), (1, .arr 3 (.int .i64) 0 false [s]), (2, .arr 3 (.int .i64) 0 false [w])] =>
    .br (okR1 off s w l) (.leaf (.ret [.os 3 0, I 0]) [(0, .arr 2 i64T 0 false l), (1, .arr 3 i64T 0 false [s]), (2, .arr 3 i64T 0 false [w]), (3, .arr 2 i64T 0 false (rd1 off s w l))]) .no
  | _, _ => .no
theorem reaT1_ok : FnE.OK e0.P e0.gam 79 (treeE reaT1) := by
  have h1 : FnE.OK e0.P e0.gam 79 (execFnC (gV y132) Tryz.f79 5 [(5, [0, 1, 2, 3, 4, 5, 6, 14, 15, 16, 17, 18, 19, 20, 21, 22, 23, 24])]) := execFnC_ok gV_good hmix Tryz.func79 Tryz.call79 (by decide +kernel) rfl
  refine ⟨fun _ _ _ => Tq.eq _ _, fun args hs ae hs' h => ?_⟩
  have h' : (reaT1 args hs).run ah = some (ae, hs') := h
  clear h
  unfold reaT1 at h'
  split at h'
  · rename_i off l s w
    obtain ⟨hb, h2⟩ := Tq.br_no h'
    obtain ⟨c1, c2, c3, c4, c5, c6, c7, c8⟩ := of_decide_eq_true hb
    obtain ⟨o, rfl⟩ := Int.eq_ofNat_of_zero_le c1
    obtain ⟨s, rfl⟩ := Int.eq_ofNat_of_zero_le c3
    obtain ⟨w, rfl⟩ := Int.eq_ofNat_of_zero_le c5
    unfold rd1 at h2
    simp only [Int.toNat_natCast] at c8 h2
    have d2 : (o : Int) < 65536 := c2
    have d4 : (s : Int) ≤ 65536 := c4
    have d6 : (w : Int) ≤ 65536 := c6
    cases h2
    exact h1.okC (rea1_run (by omega) (by omega) (by omega) c7 c8)
  · cases h'
end Go.Proofs.XGT
/- linear.matrices of a row of matrices: run. -/
namespace Go.Proofs.XGT
open Go.Vm Go
set_option maxRecDepth 100000
set_option maxHeartbeats 4000000
noncomputable def C_mcr : Code := codeOf Tryz.f68
noncomputable def cf_mcr : Cfg := ⟨97, 7, 0, [(7, [2, 6, 7, 8, 10, 56, 57]), (14, [2, 6, 7, 14, 71, 72, 73])], true⟩
noncomputable def gMr : Env := g183.add 79 (treeE reaT1)
theorem gMr_good : gMr.Good := g183_good.add reaT1_ok
theorem mcr_eqH (hl : Hl) (t m a b : Int) (x : List Int) : runH gMr Tryz.f68 7 [(7, [2, 6, 7, 8, 10, 56, 57]), (14, [2, 6, 7, 14, 71, 72, 73])] [7, 14] hl [.d (Y0) (t, [m, a, b], x, ()), .d (.slice i64T) [m]] [] ah =
  bif countE [m] != 0 then 
    bif countE [m] != 0 then none
    else 
      bif countE [m] == 0 then (if IntKind.i64.wrap (a * b) = 0 then none else some (IntKind.i64.wrap ((Int.ofNat x.length).tdiv (IntKind.i64.wrap (a * b))))).bind fun v3 =>
          (if 0 ≤ v3 ∧ v3 ≤ 4294967296 then some (List.replicate v3.toNat 0) else none).bind fun v4 =>
            hl (cL (cL (cR (cL (cR (cR (cR (cR (cR (cR C_mcr)))))))))) _ { fr := mkFr 7 [(2, AV.op 0 [] 0), (6, I a), (7, I b), (8, AV.op 1 [] 0), (10, AV.os 2 0), (56, I (Int.ofNat v4.length)), (57, I 0)], hp := [(0, AObj.box (AV.d ((i64T).pair ((i64T).slice.pair ((i64T).slice.pair Ty.unit))) (t, [m, a, b], x, PUnit.unit))), (1, AObj.box ((I 0).pr (AV.nils.pr (AV.nils.pr (AV.d Ty.unit PUnit.unit))))), (2, AObj.arr 2 (i64T) 0 false v4)], nx := 3 } (blkK 0 (seqH gMr cf_mcr [7, 14] hl (cR (cR (cR (cR (cR (cR (cR C_mcr))))))) (endC Tryz.prog 0 Tryz.f68.results.toList ah)))
      else (if IntKind.i64.wrap (a * b) = 0 then none else some (IntKind.i64.wrap ((Int.ofNat x.length).tdiv (IntKind.i64.wrap (a * b))))).bind fun v3 =>
          (if 0 ≤ v3 ∧ v3 ≤ 4294967296 then some (List.replicate v3.toNat 0) else none).bind fun v4 =>
            hl (cL (cL (cR (cL (cR (cR (cR (cR (cR (cR C_mcr)))))))))) _ { fr := mkFr 7 [(2, AV.op 0 [] 0), (6, I a), (7, I b), (8, AV.op 1 [] 0), (10, AV.os 2 0), (56, I (Int.ofNat v4.length)), (57, I 0)], hp := [(0, AObj.box (AV.d ((i64T).pair ((i64T).slice.pair ((i64T).slice.pair Ty.unit))) (t, [m, a, b], x, PUnit.unit))), (1, AObj.box ((I 0).pr (AV.nils.pr (AV.nils.pr (AV.d Ty.unit PUnit.unit))))), (2, AObj.arr 2 (i64T) 0 false v4)], nx := 3 } (blkK 0 (seqH gMr cf_mcr [7, 14] hl (cR (cR (cR (cR (cR (cR (cR C_mcr))))))) (endC Tryz.prog 0 Tryz.f68.results.toList ah)))
  else 
    bif countE [m] == 0 then 
      bif countE [m] != 0 then 
        bif countE [m] != 0 then (if IntKind.i64.wrap (a * b) = 0 then none else some (IntKind.i64.wrap ((Int.ofNat x.length).tdiv (IntKind.i64.wrap (a * b))))).bind fun v4 =>
            (if 0 ≤ v4 ∧ v4 ≤ 4294967296 then some (List.replicate v4.toNat 0) else none).bind fun v5 =>
              hl (cL (cL (cR (cL (cR (cR (cR (cR (cR (cR C_mcr)))))))))) _ { fr := mkFr 7 [(2, AV.op 0 [] 0), (6, I a), (7, I b), (8, AV.op 1 [] 0), (10, AV.os 2 0), (56, I (Int.ofNat v5.length)), (57, I 0)], hp := [(0, AObj.box (AV.d ((i64T).pair ((i64T).slice.pair ((i64T).slice.pair Ty.unit))) (t, [m, a, b], x, PUnit.unit))), (1, AObj.box ((I 0).pr (AV.nils.pr (AV.nils.pr (AV.d Ty.unit PUnit.unit))))), (2, AObj.arr 2 (i64T) 0 false v5)], nx := 3 } (blkK 0 (seqH gMr cf_mcr [7, 14] hl (cR (cR (cR (cR (cR (cR (cR C_mcr))))))) (endC Tryz.prog 0 Tryz.f68.results.toList ah)))
        else (if IntKind.i64.wrap (a * b) = 0 then none else some (IntKind.i64.wrap ((Int.ofNat x.length).tdiv (IntKind.i64.wrap (a * b))))).bind fun v4 =>
            (if 0 ≤ v4 ∧ v4 ≤ 4294967296 then some (List.replicate v4.toNat 0) else none).bind fun v5 =>
              hl (cL (cL (cR (cL (cR (cR (cR (cR (cR (cR C_mcr)))))))))) _ { fr := mkFr 7 [(2, AV.op 0 [] 0), (6, I a), (7, I b), (8, AV.op 1 [] 0), (10, AV.os 2 0), (56, I (Int.ofNat v5.length)), (57, I 0)], hp := [(0, AObj.box (AV.d ((i64T).pair ((i64T).slice.pair ((i64T).slice.pair Ty.unit))) (t, [m, a, b], x, PUnit.unit))), (1, AObj.box ((I 0).pr (AV.nils.pr (AV.nils.pr (AV.d Ty.unit PUnit.unit))))), (2, AObj.arr 2 (i64T) 0 false v5)], nx := 3 } (blkK 0 (seqH gMr cf_mcr [7, 14] hl (cR (cR (cR (cR (cR (cR (cR C_mcr))))))) (endC Tryz.prog 0 Tryz.f68.results.toList ah)))
      else 
        bif countE [m] != 0 then 
          bif countE [m] != 0 then (if IntKind.i64.wrap (a * b) = 0 then none else some (IntKind.i64.wrap ((Int.ofNat x.length).tdiv (IntKind.i64.wrap (a * b))))).bind fun v5 =>
              (if 0 ≤ v5 ∧ v5 ≤ 4294967296 then some (List.replicate v5.toNat 0) else none).bind fun v6 =>
                hl (cL (cL (cR (cL (cR (cR (cR (cR (cR (cR C_mcr)))))))))) _ { fr := mkFr 7 [(2, AV.op 0 [] 0), (6, I a), (7, I b), (8, AV.op 1 [] 0), (10, AV.os 2 0), (56, I (Int.ofNat v6.length)), (57, I 0)], hp := [(0, AObj.box (AV.d ((i64T).pair ((i64T).slice.pair ((i64T).slice.pair Ty.unit))) (t, [m, a, b], x, PUnit.unit))), (1, AObj.box ((I 0).pr (AV.nils.pr (AV.nils.pr (AV.d Ty.unit PUnit.unit))))), (2, AObj.arr 2 (i64T) 0 false v6)], nx := 3 } (blkK 0 (seqH gMr cf_mcr [7, 14] hl (cR (cR (cR (cR (cR (cR (cR C_mcr))))))) (endC Tryz.prog 0 Tryz.f68.results.toList ah)))
          else (if IntKind.i64.wrap (a * b) = 0 then none else some (IntKind.i64.wrap ((Int.ofNat x.length).tdiv (IntKind.i64.wrap (a * b))))).bind fun v5 =>
              (if 0 ≤ v5 ∧ v5 ≤ 4294967296 then some (List.replicate v5.toNat 0) else none).bind fun v6 =>
                hl (cL (cL (cR (cL (cR (cR (cR (cR (cR (cR C_mcr)))))))))) _ { fr := mkFr 7 [(2, AV.op 0 [] 0), (6, I a), (7, I b), (8, AV.op 1 [] 0), (10, AV.os 2 0), (56, I (Int.ofNat v6.length)), (57, I 0)], hp := [(0, AObj.box (AV.d ((i64T).pair ((i64T).slice.pair ((i64T).slice.pair Ty.unit))) (t, [m, a, b], x, PUnit.unit))), (1, AObj.box ((I 0).pr (AV.nils.pr (AV.nils.pr (AV.d Ty.unit PUnit.unit))))), (2, AObj.arr 2 (i64T) 0 false v6)], nx := 3 } (blkK 0 (seqH gMr cf_mcr [7, 14] hl (cR (cR (cR (cR (cR (cR (cR C_mcr))))))) (endC Tryz.prog 0 Tryz.f68.results.toList ah)))
        else 
          bif m == 1 then 
            bif countE [m] != 0 then 
              bif countE [m] != 0 then (if IntKind.i64.wrap (a * b) = 0 then none else some (IntKind.i64.wrap ((Int.ofNat x.length).tdiv (IntKind.i64.wrap (a * b))))).bind fun v7 =>
                  (if 0 ≤ v7 ∧ v7 ≤ 4294967296 then some (List.replicate v7.toNat 0) else none).bind fun v8 =>
                    hl (cL (cL (cR (cL (cR (cR (cR (cR (cR (cR C_mcr)))))))))) _ { fr := mkFr 7 [(2, AV.op 0 [] 0), (6, I a), (7, I b), (8, AV.op 1 [] 0), (10, AV.os 2 0), (56, I (Int.ofNat v8.length)), (57, I 0)], hp := [(0, AObj.box (AV.d ((i64T).pair ((i64T).slice.pair ((i64T).slice.pair Ty.unit))) (t, [m, a, b], x, PUnit.unit))), (1, AObj.box ((I 0).pr (AV.nils.pr (AV.nils.pr (AV.d Ty.unit PUnit.unit))))), (2, AObj.arr 2 (i64T) 0 false v8)], nx := 3 } (blkK 0 (seqH gMr cf_mcr [7, 14] hl (cR (cR (cR (cR (cR (cR (cR C_mcr))))))) (endC Tryz.prog 0 Tryz.f68.results.toList ah)))
              else (if IntKind.i64.wrap (a * b) = 0 then none else some (IntKind.i64.wrap ((Int.ofNat x.length).tdiv (IntKind.i64.wrap (a * b))))).bind fun v7 =>
                  (if 0 ≤ v7 ∧ v7 ≤ 4294967296 then some (List.replicate v7.toNat 0) else none).bind fun v8 =>
                    hl (cL (cL (cR (cL (cR (cR (cR (cR (cR (cR C_mcr)))))))))) _ { fr := mkFr 7 [(2, AV.op 0 [] 0), (6, I a), (7, I b), (8, AV.op 1 [] 0), (10, AV.os 2 0), (56, I (Int.ofNat v8.length)), (57, I 0)], hp := [(0, AObj.box (AV.d ((i64T).pair ((i64T).slice.pair ((i64T).slice.pair Ty.unit))) (t, [m, a, b], x, PUnit.unit))), (1, AObj.box ((I 0).pr (AV.nils.pr (AV.nils.pr (AV.d Ty.unit PUnit.unit))))), (2, AObj.arr 2 (i64T) 0 false v8)], nx := 3 } (blkK 0 (seqH gMr cf_mcr [7, 14] hl (cR (cR (cR (cR (cR (cR (cR C_mcr))))))) (endC Tryz.prog 0 Tryz.f68.results.toList ah)))
            else 
              bif m != m then (if IntKind.i64.wrap (a * b) = 0 then none else some (IntKind.i64.wrap ((Int.ofNat x.length).tdiv (IntKind.i64.wrap (a * b))))).bind fun v7 =>
                  (if 0 ≤ v7 ∧ v7 ≤ 4294967296 then some (List.replicate v7.toNat 0) else none).bind fun v8 =>
                    hl (cL (cL (cR (cL (cR (cR (cR (cR (cR (cR C_mcr)))))))))) _ { fr := mkFr 7 [(2, AV.op 0 [] 0), (6, I a), (7, I b), (8, AV.op 1 [] 0), (10, AV.os 2 0), (56, I (Int.ofNat v8.length)), (57, I 0)], hp := [(0, AObj.box (AV.d ((i64T).pair ((i64T).slice.pair ((i64T).slice.pair Ty.unit))) (t, [m, a, b], x, PUnit.unit))), (1, AObj.box ((I 0).pr (AV.nils.pr (AV.nils.pr (AV.d Ty.unit PUnit.unit))))), (2, AObj.arr 2 (i64T) 0 false v8)], nx := 3 } (blkK 0 (seqH gMr cf_mcr [7, 14] hl (cR (cR (cR (cR (cR (cR (cR C_mcr))))))) (endC Tryz.prog 0 Tryz.f68.results.toList ah)))
              else 
                bif m == m then (if IntKind.i64.wrap (a * b) = 0 then none else some (IntKind.i64.wrap ((Int.ofNat x.length).tdiv (IntKind.i64.wrap (a * b))))).bind fun v8 =>
                    (if 0 ≤ v8 ∧ v8 ≤ 4294967296 then some (List.replicate v8.toNat 0) else none).bind fun v9 =>
                      hl (cL (cL (cR (cL (cR (cR (cR (cR (cR (cR C_mcr)))))))))) _ { fr := mkFr 7 [(2, AV.op 0 [] 0), (6, I a), (7, I b), (8, AV.op 1 [] 0), (10, AV.os 4 0), (56, I (Int.ofNat v9.length)), (57, I 0)], hp := [(0, AObj.box (AV.d ((i64T).pair ((i64T).slice.pair ((i64T).slice.pair Ty.unit))) (t, [m, a, b], x, PUnit.unit))), (1, AObj.box ((I 0).pr ((AV.os 2 0).pr ((AV.os 3 0).pr (AV.d Ty.unit PUnit.unit))))), (2, AObj.arr 3 (i64T) 0 false [m]), (3, AObj.arr 3 (i64T) 0 false [1]), (4, AObj.arr 2 (i64T) 0 false v9)], nx := 5 } (blkK 0 (seqH gMr cf_mcr [7, 14] hl (cR (cR (cR (cR (cR (cR (cR C_mcr))))))) (endC Tryz.prog 0 Tryz.f68.results.toList ah)))
                else (if IntKind.i64.wrap (a * b) = 0 then none else some (IntKind.i64.wrap ((Int.ofNat x.length).tdiv (IntKind.i64.wrap (a * b))))).bind fun v8 =>
                    (if 0 ≤ v8 ∧ v8 ≤ 4294967296 then some (List.replicate v8.toNat 0) else none).bind fun v9 =>
                      hl (cL (cL (cR (cL (cR (cR (cR (cR (cR (cR C_mcr)))))))))) _ { fr := mkFr 7 [(2, AV.op 0 [] 0), (6, I a), (7, I b), (8, AV.op 1 [] 0), (10, AV.os 4 0), (56, I (Int.ofNat v9.length)), (57, I 0)], hp := [(0, AObj.box (AV.d ((i64T).pair ((i64T).slice.pair ((i64T).slice.pair Ty.unit))) (t, [m, a, b], x, PUnit.unit))), (1, AObj.box ((I 0).pr ((AV.os 2 0).pr ((AV.os 3 0).pr (AV.d Ty.unit PUnit.unit))))), (2, AObj.arr 3 (i64T) 0 false [m]), (3, AObj.arr 3 (i64T) 0 false [0]), (4, AObj.arr 2 (i64T) 0 false v9)], nx := 5 } (blkK 0 (seqH gMr cf_mcr [7, 14] hl (cR (cR (cR (cR (cR (cR (cR C_mcr))))))) (endC Tryz.prog 0 Tryz.f68.results.toList ah)))
          else 
            bif m != 1 then 
              bif m != m then (if IntKind.i64.wrap (a * b) = 0 then none else some (IntKind.i64.wrap ((Int.ofNat x.length).tdiv (IntKind.i64.wrap (a * b))))).bind fun v7 =>
                  (if 0 ≤ v7 ∧ v7 ≤ 4294967296 then some (List.replicate v7.toNat 0) else none).bind fun v8 =>
                    hl (cL (cL (cR (cL (cR (cR (cR (cR (cR (cR C_mcr)))))))))) _ { fr := mkFr 7 [(2, AV.op 0 [] 0), (6, I a), (7, I b), (8, AV.op 1 [] 0), (10, AV.os 2 0), (56, I (Int.ofNat v8.length)), (57, I 0)], hp := [(0, AObj.box (AV.d ((i64T).pair ((i64T).slice.pair ((i64T).slice.pair Ty.unit))) (t, [m, a, b], x, PUnit.unit))), (1, AObj.box ((I 0).pr (AV.nils.pr (AV.nils.pr (AV.d Ty.unit PUnit.unit))))), (2, AObj.arr 2 (i64T) 0 false v8)], nx := 3 } (blkK 0 (seqH gMr cf_mcr [7, 14] hl (cR (cR (cR (cR (cR (cR (cR C_mcr))))))) (endC Tryz.prog 0 Tryz.f68.results.toList ah)))
              else 
                bif countE [m] != 0 then 
                  bif countE [m] != 0 then (if IntKind.i64.wrap (a * b) = 0 then none else some (IntKind.i64.wrap ((Int.ofNat x.length).tdiv (IntKind.i64.wrap (a * b))))).bind fun v9 =>
                      (if 0 ≤ v9 ∧ v9 ≤ 4294967296 then some (List.replicate v9.toNat 0) else none).bind fun v10 =>
                        hl (cL (cL (cR (cL (cR (cR (cR (cR (cR (cR C_mcr)))))))))) _ { fr := mkFr 7 [(2, AV.op 0 [] 0), (6, I a), (7, I b), (8, AV.op 1 [] 0), (10, AV.os 2 0), (56, I (Int.ofNat v10.length)), (57, I 0)], hp := [(0, AObj.box (AV.d ((i64T).pair ((i64T).slice.pair ((i64T).slice.pair Ty.unit))) (t, [m, a, b], x, PUnit.unit))), (1, AObj.box ((I 0).pr (AV.nils.pr (AV.nils.pr (AV.d Ty.unit PUnit.unit))))), (2, AObj.arr 2 (i64T) 0 false v10)], nx := 3 } (blkK 0 (seqH gMr cf_mcr [7, 14] hl (cR (cR (cR (cR (cR (cR (cR C_mcr))))))) (endC Tryz.prog 0 Tryz.f68.results.toList ah)))
                  else (if IntKind.i64.wrap (a * b) = 0 then none else some (IntKind.i64.wrap ((Int.ofNat x.length).tdiv (IntKind.i64.wrap (a * b))))).bind fun v9 =>
                      (if 0 ≤ v9 ∧ v9 ≤ 4294967296 then some (List.replicate v9.toNat 0) else none).bind fun v10 =>
                        hl (cL (cL (cR (cL (cR (cR (cR (cR (cR (cR C_mcr)))))))))) _ { fr := mkFr 7 [(2, AV.op 0 [] 0), (6, I a), (7, I b), (8, AV.op 1 [] 0), (10, AV.os 2 0), (56, I (Int.ofNat v10.length)), (57, I 0)], hp := [(0, AObj.box (AV.d ((i64T).pair ((i64T).slice.pair ((i64T).slice.pair Ty.unit))) (t, [m, a, b], x, PUnit.unit))), (1, AObj.box ((I 0).pr (AV.nils.pr (AV.nils.pr (AV.d Ty.unit PUnit.unit))))), (2, AObj.arr 2 (i64T) 0 false v10)], nx := 3 } (blkK 0 (seqH gMr cf_mcr [7, 14] hl (cR (cR (cR (cR (cR (cR (cR C_mcr))))))) (endC Tryz.prog 0 Tryz.f68.results.toList ah)))
                else 
                  bif m != m then (if IntKind.i64.wrap (a * b) = 0 then none else some (IntKind.i64.wrap ((Int.ofNat x.length).tdiv (IntKind.i64.wrap (a * b))))).bind fun v9 =>
                      (if 0 ≤ v9 ∧ v9 ≤ 4294967296 then some (List.replicate v9.toNat 0) else none).bind fun v10 =>
                        hl (cL (cL (cR (cL (cR (cR (cR (cR (cR (cR C_mcr)))))))))) _ { fr := mkFr 7 [(2, AV.op 0 [] 0), (6, I a), (7, I b), (8, AV.op 1 [] 0), (10, AV.os 2 0), (56, I (Int.ofNat v10.length)), (57, I 0)], hp := [(0, AObj.box (AV.d ((i64T).pair ((i64T).slice.pair ((i64T).slice.pair Ty.unit))) (t, [m, a, b], x, PUnit.unit))), (1, AObj.box ((I 0).pr (AV.nils.pr (AV.nils.pr (AV.d Ty.unit PUnit.unit))))), (2, AObj.arr 2 (i64T) 0 false v10)], nx := 3 } (blkK 0 (seqH gMr cf_mcr [7, 14] hl (cR (cR (cR (cR (cR (cR (cR C_mcr))))))) (endC Tryz.prog 0 Tryz.f68.results.toList ah)))
                  else 
                    bif m == m then (if IntKind.i64.wrap (a * b) = 0 then none else some (IntKind.i64.wrap ((Int.ofNat x.length).tdiv (IntKind.i64.wrap (a * b))))).bind fun v10 =>
                        (if 0 ≤ v10 ∧ v10 ≤ 4294967296 then some (List.replicate v10.toNat 0) else none).bind fun v11 =>
                          hl (cL (cL (cR (cL (cR (cR (cR (cR (cR (cR C_mcr)))))))))) _ { fr := mkFr 7 [(2, AV.op 0 [] 0), (6, I a), (7, I b), (8, AV.op 1 [] 0), (10, AV.os 4 0), (56, I (Int.ofNat v11.length)), (57, I 0)], hp := [(0, AObj.box (AV.d ((i64T).pair ((i64T).slice.pair ((i64T).slice.pair Ty.unit))) (t, [m, a, b], x, PUnit.unit))), (1, AObj.box ((I 0).pr ((AV.os 2 0).pr ((AV.os 3 0).pr (AV.d Ty.unit PUnit.unit))))), (2, AObj.arr 3 (i64T) 0 false [m]), (3, AObj.arr 3 (i64T) 0 false [1]), (4, AObj.arr 2 (i64T) 0 false v11)], nx := 5 } (blkK 0 (seqH gMr cf_mcr [7, 14] hl (cR (cR (cR (cR (cR (cR (cR C_mcr))))))) (endC Tryz.prog 0 Tryz.f68.results.toList ah)))
                    else (if IntKind.i64.wrap (a * b) = 0 then none else some (IntKind.i64.wrap ((Int.ofNat x.length).tdiv (IntKind.i64.wrap (a * b))))).bind fun v10 =>
                        (if 0 ≤ v10 ∧ v10 ≤ 4294967296 then some (List.replicate v10.toNat 0) else none).bind fun v11 =>
                          hl (cL (cL (cR (cL (cR (cR (cR (cR (cR (cR C_mcr)))))))))) _ { fr := mkFr 7 [(2, AV.op 0 [] 0), (6, I a), (7, I b), (8, AV.op 1 [] 0), (10, AV.os 4 0), (56, I (Int.ofNat v11.length)), (57, I 0)], hp := [(0, AObj.box (AV.d ((i64T).pair ((i64T).slice.pair ((i64T).slice.pair Ty.unit))) (t, [m, a, b], x, PUnit.unit))), (1, AObj.box ((I 0).pr ((AV.os 2 0).pr ((AV.os 3 0).pr (AV.d Ty.unit PUnit.unit))))), (2, AObj.arr 3 (i64T) 0 false [m]), (3, AObj.arr 3 (i64T) 0 false [0]), (4, AObj.arr 2 (i64T) 0 false v11)], nx := 5 } (blkK 0 (seqH gMr cf_mcr [7, 14] hl (cR (cR (cR (cR (cR (cR (cR C_mcr))))))) (endC Tryz.prog 0 Tryz.f68.results.toList ah)))
            else 
              bif countE [m] != 0 then 
                bif countE [m] != 0 then (if IntKind.i64.wrap (a * b) = 0 then none else some (IntKind.i64.wrap ((Int.ofNat x.length).tdiv (IntKind.i64.wrap (a * b))))).bind fun v8 =>
                    (if 0 ≤ v8 ∧ v8 ≤ 4294967296 then some (List.replicate v8.toNat 0) else none).bind fun v9 =>
                      hl (cL (cL (cR (cL (cR (cR (cR (cR (cR (cR C_mcr)))))))))) _ { fr := mkFr 7 [(2, AV.op 0 [] 0), (6, I a), (7, I b), (8, AV.op 1 [] 0), (10, AV.os 2 0), (56, I (Int.ofNat v9.length)), (57, I 0)], hp := [(0, AObj.box (AV.d ((i64T).pair ((i64T).slice.pair ((i64T).slice.pair Ty.unit))) (t, [m, a, b], x, PUnit.unit))), (1, AObj.box ((I 0).pr (AV.nils.pr (AV.nils.pr (AV.d Ty.unit PUnit.unit))))), (2, AObj.arr 2 (i64T) 0 false v9)], nx := 3 } (blkK 0 (seqH gMr cf_mcr [7, 14] hl (cR (cR (cR (cR (cR (cR (cR C_mcr))))))) (endC Tryz.prog 0 Tryz.f68.results.toList ah)))
                else (if IntKind.i64.wrap (a * b) = 0 then none else some (IntKind.i64.wrap ((Int.ofNat x.length).tdiv (IntKind.i64.wrap (a * b))))).bind fun v8 =>
                    (if 0 ≤ v8 ∧ v8 ≤ 4294967296 then some (List.replicate v8.toNat 0) else none).bind fun v9 =>
                      hl (cL (cL (cR (cL (cR (cR (cR (cR (cR (cR C_mcr)))))))))) _ { fr := mkFr 7 [(2, AV.op 0 [] 0), (6, I a), (7, I b), (8, AV.op 1 [] 0), (10, AV.os 2 0), (56, I (Int.ofNat v9.length)), (57, I 0)], hp := [(0, AObj.box (AV.d ((i64T).pair ((i64T).slice.pair ((i64T).slice.pair Ty.unit))) (t, [m, a, b], x, PUnit.unit))), (1, AObj.box ((I 0).pr (AV.nils.pr (AV.nils.pr (AV.d Ty.unit PUnit.unit))))), (2, AObj.arr 2 (i64T) 0 false v9)], nx := 3 } (blkK 0 (seqH gMr cf_mcr [7, 14] hl (cR (cR (cR (cR (cR (cR (cR C_mcr))))))) (endC Tryz.prog 0 Tryz.f68.results.toList ah)))
              else 
                bif m != m then (if IntKind.i64.wrap (a * b) = 0 then none else some (IntKind.i64.wrap ((Int.ofNat x.length).tdiv (IntKind.i64.wrap (a * b))))).bind fun v8 =>
                    (if 0 ≤ v8 ∧ v8 ≤ 4294967296 then some (List.replicate v8.toNat 0) else none).bind fun v9 =>
                      hl (cL (cL (cR (cL (cR (cR (cR (cR (cR (cR C_mcr)))))))))) _ { fr := mkFr 7 [(2, AV.op 0 [] 0), (6, I a), (7, I b), (8, AV.op 1 [] 0), (10, AV.os 2 0), (56, I (Int.ofNat v9.length)), (57, I 0)], hp := [(0, AObj.box (AV.d ((i64T).pair ((i64T).slice.pair ((i64T).slice.pair Ty.unit))) (t, [m, a, b], x, PUnit.unit))), (1, AObj.box ((I 0).pr (AV.nils.pr (AV.nils.pr (AV.d Ty.unit PUnit.unit))))), (2, AObj.arr 2 (i64T) 0 false v9)], nx := 3 } (blkK 0 (seqH gMr cf_mcr [7, 14] hl (cR (cR (cR (cR (cR (cR (cR C_mcr))))))) (endC Tryz.prog 0 Tryz.f68.results.toList ah)))
                else 
                  bif m == m then (if IntKind.i64.wrap (a * b) = 0 then none else some (IntKind.i64.wrap ((Int.ofNat x.length).tdiv (IntKind.i64.wrap (a * b))))).bind fun v9 =>
                      (if 0 ≤ v9 ∧ v9 ≤ 4294967296 then some (List.replicate v9.toNat 0) else none).bind fun v10 =>
                        hl (cL (cL (cR (cL (cR (cR (cR (cR (cR (cR C_mcr)))))))))) _ { fr := mkFr 7 [(2, AV.op 0 [] 0), (6, I a), (7, I b), (8, AV.op 1 [] 0), (10, AV.os 4 0), (56, I (Int.ofNat v10.length)), (57, I 0)], hp := [(0, AObj.box (AV.d ((i64T).pair ((i64T).slice.pair ((i64T).slice.pair Ty.unit))) (t, [m, a, b], x, PUnit.unit))), (1, AObj.box ((I 0).pr ((AV.os 2 0).pr ((AV.os 3 0).pr (AV.d Ty.unit PUnit.unit))))), (2, AObj.arr 3 (i64T) 0 false [m]), (3, AObj.arr 3 (i64T) 0 false [1]), (4, AObj.arr 2 (i64T) 0 false v10)], nx := 5 } (blkK 0 (seqH gMr cf_mcr [7, 14] hl (cR (cR (cR (cR (cR (cR (cR C_mcr))))))) (endC Tryz.prog 0 Tryz.f68.results.toList ah)))
                  else (if IntKind.i64.wrap (a * b) = 0 then none else some (IntKind.i64.wrap ((Int.ofNat x.length).tdiv (IntKind.i64.wrap (a * b))))).bind fun v9 =>
                      (if 0 ≤ v9 ∧ v9 ≤ 4294967296 then some (List.replicate v9.toNat 0) else none).bind fun v10 =>
                        hl (cL (cL (cR (cL (cR (cR (cR (cR (cR (cR C_mcr)))))))))) _ { fr := mkFr 7 [(2, AV.op 0 [] 0), (6, I a), (7, I b), (8, AV.op 1 [] 0), (10, AV.os 4 0), (56, I (Int.ofNat v10.length)), (57, I 0)], hp := [(0, AObj.box (AV.d ((i64T).pair ((i64T).slice.pair ((i64T).slice.pair Ty.unit))) (t, [m, a, b], x, PUnit.unit))), (1, AObj.box ((I 0).pr ((AV.os 2 0).pr ((AV.os 3 0).pr (AV.d Ty.unit PUnit.unit))))), (2, AObj.arr 3 (i64T) 0 false [m]), (3, AObj.arr 3 (i64T) 0 false [0]), (4, AObj.arr 2 (i64T) 0 false v10)], nx := 5 } (blkK 0 (seqH gMr cf_mcr [7, 14] hl (cR (cR (cR (cR (cR (cR (cR C_mcr))))))) (endC Tryz.prog 0 Tryz.f68.results.toList ah)))
    else (if IntKind.i64.wrap (a * b) = 0 then none else some (IntKind.i64.wrap ((Int.ofNat x.length).tdiv (IntKind.i64.wrap (a * b))))).bind fun v2 =>
        (if 0 ≤ v2 ∧ v2 ≤ 4294967296 then some (List.replicate v2.toNat 0) else none).bind fun v3 =>
          hl (cL (cL (cR (cL (cR (cR (cR (cR (cR (cR C_mcr)))))))))) _ { fr := mkFr 7 [(2, AV.op 0 [] 0), (6, I a), (7, I b), (8, AV.op 1 [] 0), (10, AV.os 2 0), (56, I (Int.ofNat v3.length)), (57, I 0)], hp := [(0, AObj.box (AV.d ((i64T).pair ((i64T).slice.pair ((i64T).slice.pair Ty.unit))) (t, [m, a, b], x, PUnit.unit))), (1, AObj.box ((I 0).pr (AV.nils.pr (AV.nils.pr (AV.d Ty.unit PUnit.unit))))), (2, AObj.arr 2 (i64T) 0 false v3)], nx := 3 } (blkK 0 (seqH gMr cf_mcr [7, 14] hl (cR (cR (cR (cR (cR (cR (cR C_mcr))))))) (endC Tryz.prog 0 Tryz.f68.results.toList ah))) := by kernel_rfl
theorem mcr_eq (t m a b : Int) (x : List Int) : runC gMr Tryz.f68 7 [(7, [2, 6, 7, 8, 10, 56, 57]), (14, [2, 6, 7, 14, 71, 72, 73])] [.d (Y0) (t, [m, a, b], x, ()), .d (.slice i64T) [m]] [] ah =
  bif countE [m] != 0 then 
    bif countE [m] != 0 then none
    else 
      bif countE [m] == 0 then (if IntKind.i64.wrap (a * b) = 0 then none else some (IntKind.i64.wrap ((Int.ofNat x.length).tdiv (IntKind.i64.wrap (a * b))))).bind fun v3 =>
          (if 0 ≤ v3 ∧ v3 ≤ 4294967296 then some (List.replicate v3.toNat 0) else none).bind fun v4 =>
            (hlp gMr cf_mcr) (cL (cL (cR (cL (cR (cR (cR (cR (cR (cR C_mcr)))))))))) _ { fr := mkFr 7 [(2, AV.op 0 [] 0), (6, I a), (7, I b), (8, AV.op 1 [] 0), (10, AV.os 2 0), (56, I (Int.ofNat v4.length)), (57, I 0)], hp := [(0, AObj.box (AV.d ((i64T).pair ((i64T).slice.pair ((i64T).slice.pair Ty.unit))) (t, [m, a, b], x, PUnit.unit))), (1, AObj.box ((I 0).pr (AV.nils.pr (AV.nils.pr (AV.d Ty.unit PUnit.unit))))), (2, AObj.arr 2 (i64T) 0 false v4)], nx := 3 } (blkK 0 (seqH gMr cf_mcr [7, 14] (hlp gMr cf_mcr) (cR (cR (cR (cR (cR (cR (cR C_mcr))))))) (endC Tryz.prog 0 Tryz.f68.results.toList ah)))
      else (if IntKind.i64.wrap (a * b) = 0 then none else some (IntKind.i64.wrap ((Int.ofNat x.length).tdiv (IntKind.i64.wrap (a * b))))).bind fun v3 =>
          (if 0 ≤ v3 ∧ v3 ≤ 4294967296 then some (List.replicate v3.toNat 0) else none).bind fun v4 =>
            (hlp gMr cf_mcr) (cL (cL (cR (cL (cR (cR (cR (cR (cR (cR C_mcr)))))))))) _ { fr := mkFr 7 [(2, AV.op 0 [] 0), (6, I a), (7, I b), (8, AV.op 1 [] 0), (10, AV.os 2 0), (56, I (Int.ofNat v4.length)), (57, I 0)], hp := [(0, AObj.box (AV.d ((i64T).pair ((i64T).slice.pair ((i64T).slice.pair Ty.unit))) (t, [m, a, b], x, PUnit.unit))), (1, AObj.box ((I 0).pr (AV.nils.pr (AV.nils.pr (AV.d Ty.unit PUnit.unit))))), (2, AObj.arr 2 (i64T) 0 false v4)], nx := 3 } (blkK 0 (seqH gMr cf_mcr [7, 14] (hlp gMr cf_mcr) (cR (cR (cR (cR (cR (cR (cR C_mcr))))))) (endC Tryz.prog 0 Tryz.f68.results.toList ah)))
  else 
    bif countE [m] == 0 then 
      bif countE [m] != 0 then 
        bif countE [m] != 0 then (if IntKind.i64.wrap (a * b) = 0 then none else some (IntKind.i64.wrap ((Int.ofNat x.length).tdiv (IntKind.i64.wrap (a * b))))).bind fun v4 =>
            (if 0 ≤ v4 ∧ v4 ≤ 4294967296 then some (List.replicate v4.toNat 0) else none).bind fun v5 =>
              (hlp gMr cf_mcr) (cL (cL (cR (cL (cR (cR (cR (cR (cR (cR C_mcr)))))))))) _ { fr := mkFr 7 [(2, AV.op 0 [] 0), (6, I a), (7, I b), (8, AV.op 1 [] 0), (10, AV.os 2 0), (56, I (Int.ofNat v5.length)), (57, I 0)], hp := [(0, AObj.box (AV.d ((i64T).pair ((i64T).slice.pair ((i64T).slice.pair Ty.unit))) (t, [m, a, b], x, PUnit.unit))), (1, AObj.box ((I 0).pr (AV.nils.pr (AV.nils.pr (AV.d Ty.unit PUnit.unit))))), (2, AObj.arr 2 (i64T) 0 false v5)], nx := 3 } (blkK 0 (seqH gMr cf_mcr [7, 14] (hlp gMr cf_mcr) (cR (cR (cR (cR (cR (cR (cR C_mcr))))))) (endC Tryz.prog 0 Tryz.f68.results.toList ah)))
        else (if IntKind.i64.wrap (a * b) = 0 then none else some (IntKind.i64.wrap ((Int.ofNat x.length).tdiv (IntKind.i64.wrap (a * b))))).bind fun v4 =>
            (if 0 ≤ v4 ∧ v4 ≤ 4294967296 then some (List.replicate v4.toNat 0) else none).bind fun v5 =>
              (hlp gMr cf_mcr) (cL (cL (cR (cL (cR (cR (cR (cR (cR (cR C_mcr)))))))))) _ { fr := mkFr 7 [(2, AV.op 0 [] 0), (6, I a), (7, I b), (8, AV.op 1 [] 0), (10, AV.os 2 0), (56, I (Int.ofNat v5.length)), (57, I 0)], hp := [(0, AObj.box (AV.d ((i64T).pair ((i64T).slice.pair ((i64T).slice.pair Ty.unit))) (t, [m, a, b], x, PUnit.unit))), (1, AObj.box ((I 0).pr (AV.nils.pr (AV.nils.pr (AV.d Ty.unit PUnit.unit))))), (2, AObj.arr 2 (i64T) 0 false v5)], nx := 3 } (blkK 0 (seqH gMr cf_mcr [7, 14] (hlp gMr cf_mcr) (cR (cR (cR (cR (cR (cR (cR C_mcr))))))) (endC Tryz.prog 0 Tryz.f68.results.toList ah)))
      else 
        bif countE [m] != 0 then 
          bif countE [m] != 0 then (if IntKind.i64.wrap (a * b) = 0 then none else some (IntKind.i64.wrap ((Int.ofNat x.length).tdiv (IntKind.i64.wrap (a * b))))).bind fun v5 =>
              (if 0 ≤ v5 ∧ v5 ≤ 4294967296 then some (List.replicate v5.toNat 0) else none).bind fun v6 =>
                (hlp gMr cf_mcr) (cL (cL (cR (cL (cR (cR (cR (cR (cR (cR C_mcr)))))))))) _ { fr := mkFr 7 [(2, AV.op 0 [] 0), (6, I a), (7, I b), (8, AV.op 1 [] 0), (10, AV.os 2 0), (56, I (Int.ofNat v6.length)), (57, I 0)], hp := [(0, AObj.box (AV.d ((i64T).pair ((i64T).slice.pair ((i64T).slice.pair Ty.unit))) (t, [m, a, b], x, PUnit.unit))), (1, AObj.box ((I 0).pr (AV.nils.pr (AV.nils.pr (AV.d Ty.unit PUnit.unit))))), (2, AObj.arr 2 (i64T) 0 false v6)], nx := 3 } (blkK 0 (seqH gMr cf_mcr [7, 14] (hlp gMr cf_mcr) (cR (cR (cR (cR (cR (cR (cR C_mcr))))))) (endC Tryz.prog 0 Tryz.f68.results.toList ah)))
          else (if IntKind.i64.wrap (a * b) = 0 then none else some (IntKind.i64.wrap ((Int.ofNat x.length).tdiv (IntKind.i64.wrap (a * b))))).bind fun v5 =>
              (if 0 ≤ v5 ∧ v5 ≤ 4294967296 then some (List.replicate v5.toNat 0) else none).bind fun v6 =>
                (hlp gMr cf_mcr) (cL (cL (cR (cL (cR (cR (cR (cR (cR (cR C_mcr)))))))))) _ { fr := mkFr 7 [(2, AV.op 0 [] 0), (6, I a), (7, I b), (8, AV.op 1 [] 0), (10, AV.os 2 0), (56, I (Int.ofNat v6.length)), (57, I 0)], hp := [(0, AObj.box (AV.d ((i64T).pair ((i64T).slice.pair ((i64T).slice.pair Ty.unit))) (t, [m, a, b], x, PUnit.unit))), (1, AObj.box ((I 0).pr (AV.nils.pr (AV.nils.pr (AV.d Ty.unit PUnit.unit))))), (2, AObj.arr 2 (i64T) 0 false v6)], nx := 3 } (blkK 0 (seqH gMr cf_mcr [7, 14] (hlp gMr cf_mcr) (cR (cR (cR (cR (cR (cR (cR C_mcr))))))) (endC Tryz.prog 0 Tryz.f68.results.toList ah)))
        else 
          bif m == 1 then 
            bif countE [m] != 0 then 
              bif countE [m] != 0 then (if IntKind.i64.wrap (a * b) = 0 then none else some (IntKind.i64.wrap ((Int.ofNat x.length).tdiv (IntKind.i64.wrap (a * b))))).bind fun v7 =>
                  (if 0 ≤ v7 ∧ v7 ≤ 4294967296 then some (List.replicate v7.toNat 0) else none).bind fun v8 =>
                    (hlp gMr cf_mcr) (cL (cL (cR (cL (cR (cR (cR (cR (cR (cR C_mcr)))))))))) _ { fr := mkFr 7 [(2, AV.op 0 [] 0), (6, I a), (7, I b), (8, AV.op 1 [] 0), (10, AV.os 2 0), (56, I (Int.ofNat v8.length)), (57, I 0)], hp := [(0, AObj.box (AV.d ((i64T).pair ((i64T).slice.pair ((i64T).slice.pair Ty.unit))) (t, [m, a, b], x, PUnit.unit))), (1, AObj.box ((I 0).pr (AV.nils.pr (AV.nils.pr (AV.d Ty.unit PUnit.unit))))), (2, AObj.arr 2 (i64T) 0 false v8)], nx := 3 } (blkK 0 (seqH gMr cf_mcr [7, 14] (hlp gMr cf_mcr) (cR (cR (cR (cR (cR (cR (cR C_mcr))))))) (endC Tryz.prog 0 Tryz.f68.results.toList ah)))
              else (if IntKind.i64.wrap (a * b) = 0 then none else some (IntKind.i64.wrap ((Int.ofNat x.length).tdiv (IntKind.i64.wrap (a * b))))).bind fun v7 =>
                  (if 0 ≤ v7 ∧ v7 ≤ 4294967296 then some (List.replicate v7.toNat 0) else none).bind fun v8 =>
                    (hlp gMr cf_mcr) (cL (cL (cR (cL (cR (cR (cR (cR (cR (cR C_mcr)))))))))) _ { fr := mkFr 7 [(2, AV.op 0 [] 0), (6, I a), (7, I b), (8, AV.op 1 [] 0), (10, AV.os 2 0), (56, I (Int.ofNat v8.length)), (57, I 0)], hp := [(0, AObj.box (AV.d ((i64T).pair ((i64T).slice.pair ((i64T).slice.pair Ty.unit))) (t, [m, a, b], x, PUnit.unit))), (1, AObj.box ((I 0).pr (AV.nils.pr (AV.nils.pr (AV.d Ty.unit PUnit.unit))))), (2, AObj.arr 2 (i64T) 0 false v8)], nx := 3 } (blkK 0 (seqH gMr cf_mcr [7, 14] (hlp gMr cf_mcr) (cR (cR (cR (cR (cR (cR (cR C_mcr))))))) (endC Tryz.prog 0 Tryz.f68.results.toList ah)))
            else 
              bif m != m then (if IntKind.i64.wrap (a * b) = 0 then none else some (IntKind.i64.wrap ((Int.ofNat x.length).tdiv (IntKind.i64.wrap (a * b))))).bind fun v7 =>
                  (if 0 ≤ v7 ∧ v7 ≤ 4294967296 then some (List.replicate v7.toNat 0) else none).bind fun v8 =>
                    (hlp gMr cf_mcr) (cL (cL (cR (cL (cR (cR (cR (cR (cR (cR C_mcr)))))))))) _ { fr := mkFr 7 [(2, AV.op 0 [] 0), (6, I a), (7, I b), (8, AV.op 1 [] 0), (10, AV.os 2 0), (56, I (Int.ofNat v8.length)), (57, I 0)], hp := [(0, AObj.box (AV.d ((i64T).pair ((i64T).slice.pair ((i64T).slice.pair Ty.unit))) (t, [m, a, b], x, PUnit.unit))), (1, AObj.box ((I 0).pr (AV.nils.pr (AV.nils.pr (AV.d Ty.unit PUnit.unit))))), (2, AObj.arr 2 (i64T) 0 false v8)], nx := 3 } (blkK 0 (seqH gMr cf_mcr [7, 14] (hlp gMr cf_mcr) (cR (cR (cR (cR (cR (cR (cR C_mcr))))))) (endC Tryz.prog 0 Tryz.f68.results.toList ah)))
              else 
                bif m == m then (if IntKind.i64.wrap (a * b) = 0 then none else some (IntKind.i64.wrap ((Int.ofNat x.length).tdiv (IntKind.i64.wrap (a * b))))).bind fun v8 =>
                    (if 0 ≤ v8 ∧ v8 ≤ 4294967296 then some (List.replicate v8.toNat 0) else none).bind fun v9 =>
                      (hlp gMr cf_mcr) (cL (cL (cR (cL (cR (cR (cR (cR (cR (cR C_mcr)))))))))) _ { fr := mkFr 7 [(2, AV.op 0 [] 0), (6, I a), (7, I b), (8, AV.op 1 [] 0), (10, AV.os 4 0), (56, I (Int.ofNat v9.length)), (57, I 0)], hp := [(0, AObj.box (AV.d ((i64T).pair ((i64T).slice.pair ((i64T).slice.pair Ty.unit))) (t, [m, a, b], x, PUnit.unit))), (1, AObj.box ((I 0).pr ((AV.os 2 0).pr ((AV.os 3 0).pr (AV.d Ty.unit PUnit.unit))))), (2, AObj.arr 3 (i64T) 0 false [m]), (3, AObj.arr 3 (i64T) 0 false [1]), (4, AObj.arr 2 (i64T) 0 false v9)], nx := 5 } (blkK 0 (seqH gMr cf_mcr [7, 14] (hlp gMr cf_mcr) (cR (cR (cR (cR (cR (cR (cR C_mcr))))))) (endC Tryz.prog 0 Tryz.f68.results.toList ah)))
                else (if IntKind.i64.wrap (a * b) = 0 then none else some (IntKind.i64.wrap ((Int.ofNat x.length).tdiv (IntKind.i64.wrap (a * b))))).bind fun v8 =>
                    (if 0 ≤ v8 ∧ v8 ≤ 4294967296 then some (List.replicate v8.toNat 0) else none).bind fun v9 =>
                      (hlp gMr cf_mcr) (cL (cL (cR (cL (cR (cR (cR (cR (cR (cR C_mcr)))))))))) _ { fr := mkFr 7 [(2, AV.op 0 [] 0), (6, I a), (7, I b), (8, AV.op 1 [] 0), (10, AV.os 4 0), (56, I (Int.ofNat v9.length)), (57, I 0)], hp := [(0, AObj.box (AV.d ((i64T).pair ((i64T).slice.pair ((i64T).slice.pair Ty.unit))) (t, [m, a, b], x, PUnit.unit))), (1, AObj.box ((I 0).pr ((AV.os 2 0).pr ((AV.os 3 0).pr (AV.d Ty.unit PUnit.unit))))), (2, AObj.arr 3 (i64T) 0 false [m]), (3, AObj.arr 3 (i64T) 0 false [0]), (4, AObj.arr 2 (i64T) 0 false v9)], nx := 5 } (blkK 0 (seqH gMr cf_mcr [7, 14] (hlp gMr cf_mcr) (cR (cR (cR (cR (cR (cR (cR C_mcr))))))) (endC Tryz.prog 0 Tryz.f68.results.toList ah)))
          else 
            bif m != 1 then 
              bif m != m then (if IntKind.i64.wrap (a * b) = 0 then none else some (IntKind.i64.wrap ((Int.ofNat x.length).tdiv (IntKind.i64.wrap (a * b))))).bind fun v7 =>
                  (if 0 ≤ v7 ∧ v7 ≤ 4294967296 then some (List.replicate v7.toNat 0) else none).bind fun v8 =>
                    (hlp gMr cf_mcr) (cL (cL (cR (cL (cR (cR (cR (cR (cR (cR C_mcr)))))))))) _ { fr := mkFr 7 [(2, AV.op 0 [] 0), (6, I a), (7, I b), (8, AV.op 1 [] 0), (10, AV.os 2 0), (56, I (Int.ofNat v8.length)), (57, I 0)], hp := [(0, AObj.box (AV.d ((i64T).pair ((i64T).slice.pair ((i64T).slice.pair Ty.unit))) (t, [m, a, b], x, PUnit.unit))), (1, AObj.box ((I 0).pr (AV.nils.pr (AV.nils.pr (AV.d Ty.unit PUnit.unit))))), (2, AObj.arr 2 (i64T) 0 false v8)], nx := 3 } (blkK 0 (seqH gMr cf_mcr [7, 14] (hlp gMr cf_mcr) (cR (cR (cR (cR (cR (cR (cR C_mcr))))))) (endC Tryz.prog 0 Tryz.f68.results.toList ah)))
              else 
                bif countE [m] != 0 then 
                  bif countE [m] != 0 then (if IntKind.i64.wrap (a * b) = 0 then none else some (IntKind.i64.wrap ((Int.ofNat x.length).tdiv (IntKind.i64.wrap (a * b))))).bind fun v9 =>
                      (if 0 ≤ v9 ∧ v9 ≤ 4294967296 then some (List.replicate v9.toNat 0) else none).bind fun v10 =>
                        (hlp gMr cf_mcr) (cL (cL (cR (cL (cR (cR (cR (cR (cR (cR C_mcr)))))))))) _ { fr := mkFr 7 [(2, AV.op 0 [] 0), (6, I a), (7, I b), (8, AV.op 1 [] 0), (10, AV.os 2 0), (56, I (Int.ofNat v10.length)), (57, I 0)], hp := [(0, AObj.box (AV.d ((i64T).pair ((i64T).slice.pair ((i64T).slice.pair Ty.unit))) (t, [m, a, b], x, PUnit.unit))), (1, AObj.box ((I 0).pr (AV.nils.pr (AV.nils.pr (AV.d Ty.unit PUnit.unit))))), (2, AObj.arr 2 (i64T) 0 false v10)], nx := 3 } (blkK 0 (seqH gMr cf_mcr [7, 14] (hlp gMr cf_mcr) (cR (cR (cR (cR (cR (cR (cR C_mcr))))))) (endC Tryz.prog 0 Tryz.f68.results.toList ah)))
                  else (if IntKind.i64.wrap (a * b) = 0 then none else some (IntKind.i64.wrap ((Int.ofNat x.length).tdiv (IntKind.i64.wrap (a * b))))).bind fun v9 =>
                      (if 0 ≤ v9 ∧ v9 ≤ 4294967296 then some (List.replicate v9.toNat 0) else none).bind fun v10 =>
                        (hlp gMr cf_mcr) (cL (cL (cR (cL (cR (cR (cR (cR (cR (cR C_mcr)))))))))) _ { fr := mkFr 7 [(2, AV.op 0 [] 0), (6, I a), (7, I b), (8, AV.op 1 [] 0), (10, AV.os 2 0), (56, I (Int.ofNat v10.length)), (57, I 0)], hp := [(0, AObj.box (AV.d ((i64T).pair ((i64T).slice.pair ((i64T).slice.pair Ty.unit))) (t, [m, a, b], x, PUnit.unit))), (1, AObj.box ((I 0).pr (AV.nils.pr (AV.nils.pr (AV.d Ty.unit PUnit.unit))))), (2, AObj.arr 2 (i64T) 0 false v10)], nx := 3 } (blkK 0 (seqH gMr cf_mcr [7, 14] (hlp gMr cf_mcr) (cR (cR (cR (cR (cR (cR (cR C_mcr))))))) (endC Tryz.prog 0 Tryz.f68.results.toList ah)))
                else 
                  bif m != m then (if IntKind.i64.wrap (a * b) = 0 then none else some (IntKind.i64.wrap ((Int.ofNat x.length).tdiv (IntKind.i64.wrap (a * b))))).bind fun v9 =>
                      (if 0 ≤ v9 ∧ v9 ≤ 4294967296 then some (List.replicate v9.toNat 0) else none).bind fun v10 =>
                        (hlp gMr cf_mcr) (cL (cL (cR (cL (cR (cR (cR (cR (cR (cR C_mcr)))))))))) _ { fr := mkFr 7 [(2, AV.op 0 [] 0), (6, I a), (7, I b), (8, AV.op 1 [] 0), (10, AV.os 2 0), (56, I (Int.ofNat v10.length)), (57, I 0)], hp := [(0, AObj.box (AV.d ((i64T).pair ((i64T).slice.pair ((i64T).slice.pair Ty.unit))) (t, [m, a, b], x, PUnit.unit))), (1, AObj.box ((I 0).pr (AV.nils.pr (AV.nils.pr (AV.d Ty.unit PUnit.unit))))), (2, AObj.arr 2 (i64T) 0 false v10)], nx := 3 } (blkK 0 (seqH gMr cf_mcr [7, 14] (hlp gMr cf_mcr) (cR (cR (cR (cR (cR (cR (cR C_mcr))))))) (endC Tryz.prog 0 Tryz.f68.results.toList ah)))
                  else 
                    bif m == m then (if IntKind.i64.wrap (a * b) = 0 then none else some (IntKind.i64.wrap ((Int.ofNat x.length).tdiv (IntKind.i64.wrap (a * b))))).bind fun v10 =>
                        (if 0 ≤ v10 ∧ v10 ≤ 4294967296 then some (List.replicate v10.toNat 0) else none).bind fun v11 =>
                          (hlp gMr cf_mcr) (cL (cL (cR (cL (cR (cR (cR (cR (cR (cR C_mcr)))))))))) _ { fr := mkFr 7 [(2, AV.op 0 [] 0), (6, I a), (7, I b), (8, AV.op 1 [] 0), (10, AV.os 4 0), (56, I (Int.ofNat v11.length)), (57, I 0)], hp := [(0, AObj.box (AV.d ((i64T).pair ((i64T).slice.pair ((i64T).slice.pair Ty.unit))) (t, [m, a, b], x, PUnit.unit))), (1, AObj.box ((I 0).pr ((AV.os 2 0).pr ((AV.os 3 0).pr (AV.d Ty.unit PUnit.unit))))), (2, AObj.arr 3 (i64T) 0 false [m]), (3, AObj.arr 3 (i64T) 0 false [1]), (4, AObj.arr 2 (i64T) 0 false v11)], nx := 5 } (blkK 0 (seqH gMr cf_mcr [7, 14] (hlp gMr cf_mcr) (cR (cR (cR (cR (cR (cR (cR C_mcr))))))) (endC Tryz.prog 0 Tryz.f68.results.toList ah)))
                    else (if IntKind.i64.wrap (a * b) = 0 then none else some (IntKind.i64.wrap ((Int.ofNat x.length).tdiv (IntKind.i64.wrap (a * b))))).bind fun v10 =>
                        (if 0 ≤ v10 ∧ v10 ≤ 4294967296 then some (List.replicate v10.toNat 0) else none).bind fun v11 =>
                          (hlp gMr cf_mcr) (cL (cL (cR (cL (cR (cR (cR (cR (cR (cR C_mcr)))))))))) _ { fr := mkFr 7 [(2, AV.op 0 [] 0), (6, I a), (7, I b), (8, AV.op 1 [] 0), (10, AV.os 4 0), (56, I (Int.ofNat v11.length)), (57, I 0)], hp := [(0, AObj.box (AV.d ((i64T).pair ((i64T).slice.pair ((i64T).slice.pair Ty.unit))) (t, [m, a, b], x, PUnit.unit))), (1, AObj.box ((I 0).pr ((AV.os 2 0).pr ((AV.os 3 0).pr (AV.d Ty.unit PUnit.unit))))), (2, AObj.arr 3 (i64T) 0 false [m]), (3, AObj.arr 3 (i64T) 0 false [0]), (4, AObj.arr 2 (i64T) 0 false v11)], nx := 5 } (blkK 0 (seqH gMr cf_mcr [7, 14] (hlp gMr cf_mcr) (cR (cR (cR (cR (cR (cR (cR C_mcr))))))) (endC Tryz.prog 0 Tryz.f68.results.toList ah)))
            else 
              bif countE [m] != 0 then 
                bif countE [m] != 0 then (if IntKind.i64.wrap (a * b) = 0 then none else some (IntKind.i64.wrap ((Int.ofNat x.length).tdiv (IntKind.i64.wrap (a * b))))).bind fun v8 =>
                    (if 0 ≤ v8 ∧ v8 ≤ 4294967296 then some (List.replicate v8.toNat 0) else none).bind fun v9 =>
                      (hlp gMr cf_mcr) (cL (cL (cR (cL (cR (cR (cR (cR (cR (cR C_mcr)))))))))) _ { fr := mkFr 7 [(2, AV.op 0 [] 0), (6, I a), (7, I b), (8, AV.op 1 [] 0), (10, AV.os 2 0), (56, I (Int.ofNat v9.length)), (57, I 0)], hp := [(0, AObj.box (AV.d ((i64T).pair ((i64T).slice.pair ((i64T).slice.pair Ty.unit))) (t, [m, a, b], x, PUnit.unit))), (1, AObj.box ((I 0).pr (AV.nils.pr (AV.nils.pr (AV.d Ty.unit PUnit.unit))))), (2, AObj.arr 2 (i64T) 0 false v9)], nx := 3 } (blkK 0 (seqH gMr cf_mcr [7, 14] (hlp gMr cf_mcr) (cR (cR (cR (cR (cR (cR (cR C_mcr))))))) (endC Tryz.prog 0 Tryz.f68.results.toList ah)))
                else (if IntKind.i64.wrap (a * b) = 0 then none else some (IntKind.i64.wrap ((Int.ofNat x.length).tdiv (IntKind.i64.wrap (a * b))))).bind fun v8 =>
                    (if 0 ≤ v8 ∧ v8 ≤ 4294967296 then some (List.replicate v8.toNat 0) else none).bind fun v9 =>
                      (hlp gMr cf_mcr) (cL (cL (cR (cL (cR (cR (cR (cR (cR (cR C_mcr)))))))))) _ { fr := mkFr 7 [(2, AV.op 0 [] 0), (6, I a), (7, I b), (8, AV.op 1 [] 0), (10, AV.os 2 0), (56, I (Int.ofNat v9.length)), (57, I 0)], hp := [(0, AObj.box (AV.d ((i64T).pair ((i64T).slice.pair ((i64T).slice.pair Ty.unit))) (t, [m, a, b], x, PUnit.unit))), (1, AObj.box ((I 0).pr (AV.nils.pr (AV.nils.pr (AV.d Ty.unit PUnit.unit))))), (2, AObj.arr 2 (i64T) 0 false v9)], nx := 3 } (blkK 0 (seqH gMr cf_mcr [7, 14] (hlp gMr cf_mcr) (cR (cR (cR (cR (cR (cR (cR C_mcr))))))) (endC Tryz.prog 0 Tryz.f68.results.toList ah)))
              else 
                bif m != m then (if IntKind.i64.wrap (a * b) = 0 then none else some (IntKind.i64.wrap ((Int.ofNat x.length).tdiv (IntKind.i64.wrap (a * b))))).bind fun v8 =>
                    (if 0 ≤ v8 ∧ v8 ≤ 4294967296 then some (List.replicate v8.toNat 0) else none).bind fun v9 =>
                      (hlp gMr cf_mcr) (cL (cL (cR (cL (cR (cR (cR (cR (cR (cR C_mcr)))))))))) _ { fr := mkFr 7 [(2, AV.op 0 [] 0), (6, I a), (7, I b), (8, AV.op 1 [] 0), (10, AV.os 2 0), (56, I (Int.ofNat v9.length)), (57, I 0)], hp := [(0, AObj.box (AV.d ((i64T).pair ((i64T).slice.pair ((i64T).slice.pair Ty.unit))) (t, [m, a, b], x, PUnit.unit))), (1, AObj.box ((I 0).pr (AV.nils.pr (AV.nils.pr (AV.d Ty.unit PUnit.unit))))), (2, AObj.arr 2 (i64T) 0 false v9)], nx := 3 } (blkK 0 (seqH gMr cf_mcr [7, 14] (hlp gMr cf_mcr) (cR (cR (cR (cR (cR (cR (cR C_mcr))))))) (endC Tryz.prog 0 Tryz.f68.results.toList ah)))
                else 
                  bif m == m then (if IntKind.i64.wrap (a * b) = 0 then none else some (IntKind.i64.wrap ((Int.ofNat x.length).tdiv (IntKind.i64.wrap (a * b))))).bind fun v9 =>
                      (if 0 ≤ v9 ∧ v9 ≤ 4294967296 then some (List.replicate v9.toNat 0) else none).bind fun v10 =>
                        (hlp gMr cf_mcr) (cL (cL (cR (cL (cR (cR (cR (cR (cR (cR C_mcr)))))))))) _ { fr := mkFr 7 [(2, AV.op 0 [] 0), (6, I a), (7, I b), (8, AV.op 1 [] 0), (10, AV.os 4 0), (56, I (Int.ofNat v10.length)), (57, I 0)], hp := [(0, AObj.box (AV.d ((i64T).pair ((i64T).slice.pair ((i64T).slice.pair Ty.unit))) (t, [m, a, b], x, PUnit.unit))), (1, AObj.box ((I 0).pr ((AV.os 2 0).pr ((AV.os 3 0).pr (AV.d Ty.unit PUnit.unit))))), (2, AObj.arr 3 (i64T) 0 false [m]), (3, AObj.arr 3 (i64T) 0 false [1]), (4, AObj.arr 2 (i64T) 0 false v10)], nx := 5 } (blkK 0 (seqH gMr cf_mcr [7, 14] (hlp gMr cf_mcr) (cR (cR (cR (cR (cR (cR (cR C_mcr))))))) (endC Tryz.prog 0 Tryz.f68.results.toList ah)))
                  else (if IntKind.i64.wrap (a * b) = 0 then none else some (IntKind.i64.wrap ((Int.ofNat x.length).tdiv (IntKind.i64.wrap (a * b))))).bind fun v9 =>
                      (if 0 ≤ v9 ∧ v9 ≤ 4294967296 then some (List.replicate v9.toNat 0) else none).bind fun v10 =>
                        (hlp gMr cf_mcr) (cL (cL (cR (cL (cR (cR (cR (cR (cR (cR C_mcr)))))))))) _ { fr := mkFr 7 [(2, AV.op 0 [] 0), (6, I a), (7, I b), (8, AV.op 1 [] 0), (10, AV.os 4 0), (56, I (Int.ofNat v10.length)), (57, I 0)], hp := [(0, AObj.box (AV.d ((i64T).pair ((i64T).slice.pair ((i64T).slice.pair Ty.unit))) (t, [m, a, b], x, PUnit.unit))), (1, AObj.box ((I 0).pr ((AV.os 2 0).pr ((AV.os 3 0).pr (AV.d Ty.unit PUnit.unit))))), (2, AObj.arr 3 (i64T) 0 false [m]), (3, AObj.arr 3 (i64T) 0 false [0]), (4, AObj.arr 2 (i64T) 0 false v10)], nx := 5 } (blkK 0 (seqH gMr cf_mcr [7, 14] (hlp gMr cf_mcr) (cR (cR (cR (cR (cR (cR (cR C_mcr))))))) (endC Tryz.prog 0 Tryz.f68.results.toList ah)))
    else (if IntKind.i64.wrap (a * b) = 0 then none else some (IntKind.i64.wrap ((Int.ofNat x.length).tdiv (IntKind.i64.wrap (a * b))))).bind fun v2 =>
        (if 0 ≤ v2 ∧ v2 ≤ 4294967296 then some (List.replicate v2.toNat 0) else none).bind fun v3 =>
          (hlp gMr cf_mcr) (cL (cL (cR (cL (cR (cR (cR (cR (cR (cR C_mcr)))))))))) _ { fr := mkFr 7 [(2, AV.op 0 [] 0), (6, I a), (7, I b), (8, AV.op 1 [] 0), (10, AV.os 2 0), (56, I (Int.ofNat v3.length)), (57, I 0)], hp := [(0, AObj.box (AV.d ((i64T).pair ((i64T).slice.pair ((i64T).slice.pair Ty.unit))) (t, [m, a, b], x, PUnit.unit))), (1, AObj.box ((I 0).pr (AV.nils.pr (AV.nils.pr (AV.d Ty.unit PUnit.unit))))), (2, AObj.arr 2 (i64T) 0 false v3)], nx := 3 } (blkK 0 (seqH gMr cf_mcr [7, 14] (hlp gMr cf_mcr) (cR (cR (cR (cR (cR (cR (cR C_mcr))))))) (endC Tryz.prog 0 Tryz.f68.results.toList ah))) := runH_runC.trans (mcr_eqH (hlp gMr cf_mcr) t m a b x)
def hpMr (t m a b : Int) (x l : List Int) : LHp := [(0, .box (.d (Y0) (t, [m, a, b], x, ()))), (1, .box ((I 0).pr ((AV.os 2 0).pr ((AV.os 3 0).pr (AV.d Ty.unit PUnit.unit))))), (2, .arr 3 i64T 0 false [m]), (3, .arr 3 i64T 0 false [1]), (4, .arr 2 i64T 0 false l)]
def stMr (t m a b : Int) (x l : List Int) (q i : Int) : LSt := ⟨mkFr 7 [(2, AV.op 0 [] 0), (6, I a), (7, I b), (8, AV.op 1 [] 0), (10, AV.os 4 0), (56, I q), (57, I i)], hpMr t m a b x l, 5⟩
theorem mr_st0H (hl : Hl) (t m a b : Int) (x l : List Int) (q i : Int) (n : Nat) {R : Type} (k : AEx → LSt → Option R) : lpH gMr cf_mcr [7, 14] hl (cL (cL (cR (cL (cR (cR (cR (cR (cR (cR C_mcr)))))))))) (n + 1) (stMr t m a b x l q i) k =
  bif decide (i < q) then (idx l i).bind fun v1 =>
      (setN l i.toNat i).bind fun v2 =>
        lpH gMr cf_mcr [7, 14] hl (cL (cL (cR (cL (cR (cR (cR (cR (cR (cR C_mcr)))))))))) n { fr := mkFr 7 [(2, AV.op 0 [] 0), (6, I a), (7, I b), (8, AV.op 1 [] 0), (10, AV.os 4 0), (56, I q), (57, I (IntKind.i64.wrap (i + 1)))], hp := [(0, AObj.box (AV.d ((i64T).pair ((i64T).slice.pair ((i64T).slice.pair Ty.unit))) (t, [m, a, b], x, PUnit.unit))), (1, AObj.box ((I 0).pr ((AV.os 2 0).pr ((AV.os 3 0).pr (AV.d Ty.unit PUnit.unit))))), (2, AObj.arr 3 (i64T) 0 false [m]), (3, AObj.arr 3 (i64T) 0 false [1]), (4, AObj.arr 2 (i64T) 0 false v2)], nx := 5 } k
  else k (AEx.exit 0) { fr := mkFr 7 [(2, AV.op 0 [] 0), (6, I a), (7, I b), (8, AV.op 1 [] 0), (10, AV.os 4 0), (56, I q), (57, I i), (58, B false)], hp := [(0, AObj.box (AV.d ((i64T).pair ((i64T).slice.pair ((i64T).slice.pair Ty.unit))) (t, [m, a, b], x, PUnit.unit))), (1, AObj.box ((I 0).pr ((AV.os 2 0).pr ((AV.os 3 0).pr (AV.d Ty.unit PUnit.unit))))), (2, AObj.arr 3 (i64T) 0 false [m]), (3, AObj.arr 3 (i64T) 0 false [1]), (4, AObj.arr 2 (i64T) 0 false l)], nx := 5 } := by kernel_rfl
theorem mr_st0 (t m a b : Int) (x l : List Int) (q i : Int) (n : Nat) {R : Type} (k : AEx → LSt → Option R) : lp gMr cf_mcr (cL (cL (cR (cL (cR (cR (cR (cR (cR (cR C_mcr)))))))))) (n + 1) (stMr t m a b x l q i) k =
  bif decide (i < q) then (idx l i).bind fun v1 =>
      (setN l i.toNat i).bind fun v2 =>
        lp gMr cf_mcr (cL (cL (cR (cL (cR (cR (cR (cR (cR (cR C_mcr)))))))))) n { fr := mkFr 7 [(2, AV.op 0 [] 0), (6, I a), (7, I b), (8, AV.op 1 [] 0), (10, AV.os 4 0), (56, I q), (57, I (IntKind.i64.wrap (i + 1)))], hp := [(0, AObj.box (AV.d ((i64T).pair ((i64T).slice.pair ((i64T).slice.pair Ty.unit))) (t, [m, a, b], x, PUnit.unit))), (1, AObj.box ((I 0).pr ((AV.os 2 0).pr ((AV.os 3 0).pr (AV.d Ty.unit PUnit.unit))))), (2, AObj.arr 3 (i64T) 0 false [m]), (3, AObj.arr 3 (i64T) 0 false [1]), (4, AObj.arr 2 (i64T) 0 false v2)], nx := 5 } k
  else k (AEx.exit 0) { fr := mkFr 7 [(2, AV.op 0 [] 0), (6, I a), (7, I b), (8, AV.op 1 [] 0), (10, AV.os 4 0), (56, I q), (57, I i), (58, B false)], hp := [(0, AObj.box (AV.d ((i64T).pair ((i64T).slice.pair ((i64T).slice.pair Ty.unit))) (t, [m, a, b], x, PUnit.unit))), (1, AObj.box ((I 0).pr ((AV.os 2 0).pr ((AV.os 3 0).pr (AV.d Ty.unit PUnit.unit))))), (2, AObj.arr 3 (i64T) 0 false [m]), (3, AObj.arr 3 (i64T) 0 false [1]), (4, AObj.arr 2 (i64T) 0 false l)], nx := 5 } := by
  have h := mr_st0H (hlp gMr cf_mcr) t m a b x l q i n k
  simp only [lpH_lp] at h
  exact h
noncomputable def MrK0 (hl : Hl) : AEx → LSt → Option (AEnd × LHp) := blkK 0 (seqH gMr cf_mcr [7, 14] hl (cR (cR (cR (cR (cR (cR (cR C_mcr))))))) (endC Tryz.prog 0 Tryz.f68.results.toList ah))
def stMrE (t m a b : Int) (x l : List Int) (q i : Int) : LSt := ⟨mkFr 7 [(2, AV.op 0 [] 0), (6, I a), (7, I b), (8, AV.op 1 [] 0), (10, AV.os 4 0), (56, I q), (57, I i), (58, B false)], hpMr t m a b x l, 5⟩
theorem mr_x0 (hl : Hl) (t m a b : Int) (x l : List Int) (q i : Int) : MrK0 hl (.exit 0) (stMrE t m a b x l q i) =
  bif okR1 0 1 m l then hl (cL (cL (cR (cL (cR (cR (cR (cR (cR (cR (cR (cR (cR C_mcr))))))))))))) _ { fr := mkFr 7 [(2, AV.op 0 [] 0), (6, I a), (7, I b), (14, AV.nils), (71, AV.os 1 0), (72, I (Int.ofNat (rd1 0 1 m l).length)), (73, I 0)], hp := [(0, AObj.box (AV.d ((i64T).pair ((i64T).slice.pair ((i64T).slice.pair Ty.unit))) (t, [m, a, b], x, PUnit.unit))), (1, AObj.arr 2 (i64T) 0 false (rd1 0 1 m l))], nx := 2 } (blkK 2 (seqH gMr cf_mcr [7, 14] hl (cR (cR (cR (cR (cR (cR (cR (cR (cR (cR C_mcr)))))))))) (endC Tryz.prog 0 Tryz.f68.results.toList ah)))
  else none := by kernel_rfl
def hpMs (t m a b : Int) (x l : List Int) (oh : LHp) : LHp := [(0, .box (.d (Y0) (t, [m, a, b], x, ())))] ++ oh ++ [(1, .arr 2 i64T 0 false l)]
def stMs (t m a b : Int) (x l : List Int) (q j : Int) (o : AV) (oh : LHp) (nx : Nat) : LSt := ⟨mkFr 7 [(2, AV.op 0 [] 0), (6, I a), (7, I b), (14, o), (71, AV.os 1 0), (72, I q), (73, I j)], hpMs t m a b x l oh, nx⟩
theorem ms_st0H (hl : Hl) (t m a b : Int) (x l : List Int) (q j : Int) (n : Nat) {R : Type} (k : AEx → LSt → Option R) : lpH gMr cf_mcr [7, 14] hl (cL (cL (cR (cL (cR (cR (cR (cR (cR (cR (cR (cR (cR C_mcr))))))))))))) (n + 1) (stMs t m a b x l q j .nils [] 2) k =
  bif decide (j < q) then (idx l j).bind fun v1 =>
      (l[j.toNat]?).bind fun v2 =>
        (if 0 ≤ IntKind.i64.wrap (IntKind.i64.wrap (v2 * a) * b) ∧ IntKind.i64.wrap (IntKind.i64.wrap (v2 * a) * b) ≤ Int.ofNat x.length ∧ Int.ofNat x.length ≤ Int.ofNat x.length then some (List.drop (IntKind.i64.wrap (IntKind.i64.wrap (v2 * a) * b)).toNat (List.take (Int.ofNat x.length).toNat x)) else none).bind fun v3 =>
          (if (0 : Int) ≤ 0 ∧ 0 ≤ IntKind.i64.wrap (a * b) ∧ IntKind.i64.wrap (a * b) ≤ Int.ofNat v3.length then some (List.drop 0 (List.take (IntKind.i64.wrap (a * b)).toNat v3)) else none).bind fun v4 =>
            lpH gMr cf_mcr [7, 14] hl (cL (cL (cR (cL (cR (cR (cR (cR (cR (cR (cR (cR (cR C_mcr))))))))))))) n { fr := mkFr 7 [(2, AV.op 0 [] 0), (6, I a), (7, I b), (14, AV.os 1 0), (71, AV.os 2 0), (72, I q), (73, I (IntKind.i64.wrap (j + 1)))], hp := [(0, AObj.box (AV.d ((i64T).pair ((i64T).slice.pair ((i64T).slice.pair Ty.unit))) (t, [m, a, b], x, PUnit.unit))), (1, AObj.arr 108 ((i64T).pair ((i64T).pair ((i64T).slice.pair Ty.unit))) 0 false [(a, b, v4, PUnit.unit)]), (2, AObj.arr 2 (i64T) 0 false l)], nx := 3 } k
  else k (AEx.exit 2) { fr := mkFr 7 [(2, AV.op 0 [] 0), (6, I a), (7, I b), (14, AV.nils), (71, AV.os 1 0), (72, I q), (73, I j), (74, B false)], hp := [(0, AObj.box (AV.d ((i64T).pair ((i64T).slice.pair ((i64T).slice.pair Ty.unit))) (t, [m, a, b], x, PUnit.unit))), (1, AObj.arr 2 (i64T) 0 false l)], nx := 2 } := by kernel_rfl
theorem ms_st0 (t m a b : Int) (x l : List Int) (q j : Int) (n : Nat) {R : Type} (k : AEx → LSt → Option R) : lp gMr cf_mcr (cL (cL (cR (cL (cR (cR (cR (cR (cR (cR (cR (cR (cR C_mcr))))))))))))) (n + 1) (stMs t m a b x l q j .nils [] 2) k =
  bif decide (j < q) then (idx l j).bind fun v1 =>
      (l[j.toNat]?).bind fun v2 =>
        (if 0 ≤ IntKind.i64.wrap (IntKind.i64.wrap (v2 * a) * b) ∧ IntKind.i64.wrap (IntKind.i64.wrap (v2 * a) * b) ≤ Int.ofNat x.length ∧ Int.ofNat x.length ≤ Int.ofNat x.length then some (List.drop (IntKind.i64.wrap (IntKind.i64.wrap (v2 * a) * b)).toNat (List.take (Int.ofNat x.length).toNat x)) else none).bind fun v3 =>
          (if (0 : Int) ≤ 0 ∧ 0 ≤ IntKind.i64.wrap (a * b) ∧ IntKind.i64.wrap (a * b) ≤ Int.ofNat v3.length then some (List.drop 0 (List.take (IntKind.i64.wrap (a * b)).toNat v3)) else none).bind fun v4 =>
            lp gMr cf_mcr (cL (cL (cR (cL (cR (cR (cR (cR (cR (cR (cR (cR (cR C_mcr))))))))))))) n { fr := mkFr 7 [(2, AV.op 0 [] 0), (6, I a), (7, I b), (14, AV.os 1 0), (71, AV.os 2 0), (72, I q), (73, I (IntKind.i64.wrap (j + 1)))], hp := [(0, AObj.box (AV.d ((i64T).pair ((i64T).slice.pair ((i64T).slice.pair Ty.unit))) (t, [m, a, b], x, PUnit.unit))), (1, AObj.arr 108 ((i64T).pair ((i64T).pair ((i64T).slice.pair Ty.unit))) 0 false [(a, b, v4, PUnit.unit)]), (2, AObj.arr 2 (i64T) 0 false l)], nx := 3 } k
  else k (AEx.exit 2) { fr := mkFr 7 [(2, AV.op 0 [] 0), (6, I a), (7, I b), (14, AV.nils), (71, AV.os 1 0), (72, I q), (73, I j), (74, B false)], hp := [(0, AObj.box (AV.d ((i64T).pair ((i64T).slice.pair ((i64T).slice.pair Ty.unit))) (t, [m, a, b], x, PUnit.unit))), (1, AObj.arr 2 (i64T) 0 false l)], nx := 2 } := by
  have h := ms_st0H (hlp gMr cf_mcr) t m a b x l q j n k
  simp only [lpH_lp] at h
  exact h
def stMt (t m a b : Int) (x l : List Int) (q j : Int) (out : List (Y6).den) : LSt := ⟨mkFr 7 [(2, AV.op 0 [] 0), (6, I a), (7, I b), (14, .os 1 0), (71, AV.os 2 0), (72, I q), (73, I j)], [(0, .box (.d (Y0) (t, [m, a, b], x, ()))), (1, .arr 108 (Y6) 0 false out), (2, .arr 2 i64T 0 false l)], 3⟩
theorem ms_st1H (hl : Hl) (t m a b : Int) (x l : List Int) (q j : Int) (o : (Y6).den) (out : List (Y6).den) (n : Nat) {R : Type} (k : AEx → LSt → Option R) : lpH gMr cf_mcr [7, 14] hl (cL (cL (cR (cL (cR (cR (cR (cR (cR (cR (cR (cR (cR C_mcr))))))))))))) (n + 1) (stMt t m a b x l q j (o :: out)) k =
  bif decide (j < q) then (idx l j).bind fun v1 =>
      (l[j.toNat]?).bind fun v2 =>
        (if 0 ≤ IntKind.i64.wrap (IntKind.i64.wrap (v2 * a) * b) ∧ IntKind.i64.wrap (IntKind.i64.wrap (v2 * a) * b) ≤ Int.ofNat x.length ∧ Int.ofNat x.length ≤ Int.ofNat x.length then some (List.drop (IntKind.i64.wrap (IntKind.i64.wrap (v2 * a) * b)).toNat (List.take (Int.ofNat x.length).toNat x)) else none).bind fun v3 =>
          (if (0 : Int) ≤ 0 ∧ 0 ≤ IntKind.i64.wrap (a * b) ∧ IntKind.i64.wrap (a * b) ≤ Int.ofNat v3.length then some (List.drop 0 (List.take (IntKind.i64.wrap (a * b)).toNat v3)) else none).bind fun v4 =>
            (app (o :: out) [(a, b, v4, PUnit.unit)]).bind fun v5 =>
              lpH gMr cf_mcr [7, 14] hl (cL (cL (cR (cL (cR (cR (cR (cR (cR (cR (cR (cR (cR C_mcr))))))))))))) n { fr := mkFr 7 [(2, AV.op 0 [] 0), (6, I a), (7, I b), (14, AV.os 1 0), (71, AV.os 2 0), (72, I q), (73, I (IntKind.i64.wrap (j + 1)))], hp := [(0, AObj.box (AV.d ((i64T).pair ((i64T).slice.pair ((i64T).slice.pair Ty.unit))) (t, [m, a, b], x, PUnit.unit))), (1, AObj.arr 108 ((i64T).pair ((i64T).pair ((i64T).slice.pair Ty.unit))) 0 false v5), (2, AObj.arr 2 (i64T) 0 false l)], nx := 3 } k
  else k (AEx.exit 2) { fr := mkFr 7 [(2, AV.op 0 [] 0), (6, I a), (7, I b), (14, AV.os 1 0), (71, AV.os 2 0), (72, I q), (73, I j), (74, B false)], hp := [(0, AObj.box (AV.d ((i64T).pair ((i64T).slice.pair ((i64T).slice.pair Ty.unit))) (t, [m, a, b], x, PUnit.unit))), (1, AObj.arr 108 ((i64T).pair ((i64T).pair ((i64T).slice.pair Ty.unit))) 0 false (o :: out)), (2, AObj.arr 2 (i64T) 0 false l)], nx := 3 } := by kernel_rfl
theorem ms_st1 (t m a b : Int) (x l : List Int) (q j : Int) (o : (Y6).den) (out : List (Y6).den) (n : Nat) {R : Type} (k : AEx → LSt → Option R) : lp gMr cf_mcr (cL (cL (cR (cL (cR (cR (cR (cR (cR (cR (cR (cR (cR C_mcr))))))))))))) (n + 1) (stMt t m a b x l q j (o :: out)) k =
  bif decide (j < q) then (idx l j).bind fun v1 =>
      (l[j.toNat]?).bind fun v2 =>
        (if 0 ≤ IntKind.i64.wrap (IntKind.i64.wrap (v2 * a) * b) ∧ IntKind.i64.wrap (IntKind.i64.wrap (v2 * a) * b) ≤ Int.ofNat x.length ∧ Int.ofNat x.length ≤ Int.ofNat x.length then some (List.drop (IntKind.i64.wrap (IntKind.i64.wrap (v2 * a) * b)).toNat (List.take (Int.ofNat x.length).toNat x)) else none).bind fun v3 =>
          (if (0 : Int) ≤ 0 ∧ 0 ≤ IntKind.i64.wrap (a * b) ∧ IntKind.i64.wrap (a * b) ≤ Int.ofNat v3.length then some (List.drop 0 (List.take (IntKind.i64.wrap (a * b)).toNat v3)) else none).bind fun v4 =>
            (app (o :: out) [(a, b, v4, PUnit.unit)]).bind fun v5 =>
              lp gMr cf_mcr (cL (cL (cR (cL (cR (cR (cR (cR (cR (cR (cR (cR (cR C_mcr))))))))))))) n { fr := mkFr 7 [(2, AV.op 0 [] 0), (6, I a), (7, I b), (14, AV.os 1 0), (71, AV.os 2 0), (72, I q), (73, I (IntKind.i64.wrap (j + 1)))], hp := [(0, AObj.box (AV.d ((i64T).pair ((i64T).slice.pair ((i64T).slice.pair Ty.unit))) (t, [m, a, b], x, PUnit.unit))), (1, AObj.arr 108 ((i64T).pair ((i64T).pair ((i64T).slice.pair Ty.unit))) 0 false v5), (2, AObj.arr 2 (i64T) 0 false l)], nx := 3 } k
  else k (AEx.exit 2) { fr := mkFr 7 [(2, AV.op 0 [] 0), (6, I a), (7, I b), (14, AV.os 1 0), (71, AV.os 2 0), (72, I q), (73, I j), (74, B false)], hp := [(0, AObj.box (AV.d ((i64T).pair ((i64T).slice.pair ((i64T).slice.pair Ty.unit))) (t, [m, a, b], x, PUnit.unit))), (1, AObj.arr 108 ((i64T).pair ((i64T).pair ((i64T).slice.pair Ty.unit))) 0 false (o :: out)), (2, AObj.arr 2 (i64T) 0 false l)], nx := 3 } := by
  have h := ms_st1H (hlp gMr cf_mcr) t m a b x l q j o out n k
  simp only [lpH_lp] at h
  exact h
noncomputable def MsK (hl : Hl) : AEx → LSt → Option (AEnd × LHp) := blkK 2 (seqH gMr cf_mcr [7, 14] hl (cR (cR (cR (cR (cR (cR (cR (cR (cR (cR C_mcr)))))))))) (endC Tryz.prog 0 Tryz.f68.results.toList ah))
def stMtE (t m a b : Int) (x l : List Int) (q j : Int) (out : List (Y6).den) : LSt := ⟨mkFr 7 [(2, AV.op 0 [] 0), (6, I a), (7, I b), (14, .os 1 0), (71, AV.os 2 0), (72, I q), (73, I j), (74, B false)], (stMt t m a b x l q j out).hp, 3⟩
theorem ms_x1 (hl : Hl) (t m a b : Int) (x l : List Int) (q j : Int) (out : List (Y6).den) : MsK hl (.exit 2) (stMtE t m a b x l q j out) = some (.ret [.os 0 0], [(0, .arr 108 (Y6) 0 false out)]) := by kernel_rfl
end Go.Proofs.XGT
/- linear.matrices of a row of matrices: what it makes. -/
namespace Go.Proofs.XGT
open Go.Vm Go
set_option maxRecDepth 100000
set_option maxHeartbeats 1000000
def iotaP (q i : Nat) : List Int := tab q fun p => if p < i then (p : Int) else 0
theorem iotaP_zero (q : Nat) : List.replicate q (0 : Int) = iotaP q 0 := by
  apply List.ext_getElem?
  intro p
  unfold iotaP
  by_cases hp : p < q
  · rw [tab_get hp, List.getElem?_replicate, if_pos hp, if_neg (by omega)]
  · rw [List.getElem?_eq_none (by rw [List.length_replicate]; omega), List.getElem?_eq_none (by rw [tab_length]; omega)]
theorem mr_loop0 {t m a b : Int} {q : Nat} {x : List Int} (hq : q ≤ 65536) (K : AEx → LSt → Option (AEnd × LHp)) : ∃ n, lp gMr cf_mcr (cL (cL (cR (cL (cR (cR (cR (cR (cR (cR C_mcr)))))))))) fu (stMr t m a b x (iotaP q 0) q 0) K = lp gMr cf_mcr (cL (cL (cR (cL (cR (cR (cR (cR (cR (cR C_mcr)))))))))) (n + 1) (stMr t m a b x (iotaP q q) q q) K := by
  have hfu : fu = 18446744073709551616 := rfl
  have key := lp_to (T := fun n s => lp gMr cf_mcr (cL (cL (cR (cL (cR (cR (cR (cR (cR (cR C_mcr)))))))))) n s K) (f := fun i : Nat => stMr t m a b x (iotaP q i) q i) q fu (by omega) (fun i hi n => by
    have e0 : IntKind.i64.wrap ((i : Int) + 1) = ((i + 1 : Nat) : Int) := by rw [wrap64 (by omega) (by omega)]; omega
    have hg : (iotaP q i)[i]? = some 0 := by unfold iotaP; rw [tab_get hi, if_neg (by omega)]
    have hidx : idx (iotaP q i) (i : Int) = some 0 := by unfold idx; rw [if_pos (by omega), Int.toNat_natCast, hg]
    have hs : setN (iotaP q i) i (i : Int) = some (iotaP q (i + 1)) := by
      unfold iotaP
      rw [tab_set hi]
      congr 1
      apply tab_congr
      intro p _
      by_cases h1 : p = i
      · rw [if_pos h1, if_pos (by omega), h1]
      · rw [if_neg h1]
        by_cases h2 : p < i
        · rw [if_pos h2, if_pos (by omega)]
        · rw [if_neg h2, if_neg (by omega)]
    show lp gMr cf_mcr (cL (cL (cR (cL (cR (cR (cR (cR (cR (cR C_mcr)))))))))) (n + 1) (stMr t m a b x (iotaP q i) q i) K = _
    rw [mr_st0, decide_eq_true (show (i : Int) < (q : Int) by omega), cond_true, hidx, Option.bind_some, Int.toNat_natCast, hs, Option.bind_some, e0]
    rfl)
  exact ⟨fu - q - 1, key.trans (by rw [show fu - q - 1 + 1 = fu - q by omega])⟩
theorem rd1_iota (q : Nat) : rd1 0 1 q (iotaP q q) = iotaP q q := by
  unfold rd1 iotaP
  rw [Int.toNat_natCast]
  apply tab_congr
  intro p hp
  show (tab q fun p => if p < q then (p : Int) else 0).getD (0 + p * 1) 0 = _
  rw [Nat.zero_add, Nat.mul_one, List.getD_eq_getElem?_getD, tab_get hp]
  rfl
def mats (x : List Int) (a b c : Nat) : List (Y6).den := (List.range c).map fun i => ((a : Int), (b : Int), (x.drop (i * (a * b))).take (a * b), ())
theorem mats_succ (x : List Int) (a b c : Nat) : mats x a b (c + 1) = mats x a b c ++ [((a : Int), (b : Int), (x.drop (c * (a * b))).take (a * b), ())] := by
  unfold mats
  rw [List.range_succ, List.map_append]
  rfl
theorem mats_len (x : List Int) (a b c : Nat) : (mats x a b c).length = c := by simp [mats]
def stMu (t m a b : Int) (x l : List Int) (q j : Int) (out : List (Y6).den) : LSt := match out with
  | [] => stMs t m a b x l q j .nils [] 2
  | o :: r => stMt t m a b x l q j (o :: r)
theorem ms_one {t m : Int} {a b c j : Nat} {x : List Int} (hj : j < c) (hc : c * (a * b) ≤ 65536) (hab : 1 ≤ a * b) (hx : x.length = c * (a * b)) (n : Nat) (K : AEx → LSt → Option (AEnd × LHp)) :
    lp gMr cf_mcr (cL (cL (cR (cL (cR (cR (cR (cR (cR (cR (cR (cR (cR C_mcr))))))))))))) (n + 1) (stMu t m a b x (iotaP c c) c j (mats x a b j)) K = lp gMr cf_mcr (cL (cL (cR (cL (cR (cR (cR (cR (cR (cR (cR (cR (cR C_mcr))))))))))))) n (stMu t m a b x (iotaP c c) c ((j + 1 : Nat) : Int) (mats x a b (j + 1))) K := by
  have hb := row_le (C := a * b) hj
  have hcc : c ≤ c * (a * b) := Nat.le_mul_of_pos_right _ (by omega)
  have hja : j * a ≤ j * (a * b) ∨ b = 0 := by
    rcases Nat.eq_zero_or_pos b with h | h
    · exact .inr h
    · left
      rw [← Nat.mul_assoc]
      exact Nat.le_mul_of_pos_right _ h
  have hb0 : b ≠ 0 := by
    intro h
    rw [h, Nat.mul_zero] at hab
    omega
  have e0 : IntKind.i64.wrap ((j : Int) + 1) = ((j + 1 : Nat) : Int) := by rw [wrap64 (by omega) (by omega)]; omega
  have e1 : IntKind.i64.wrap ((j : Int) * a) = ((j * a : Nat) : Int) := by rw [← Int.natCast_mul]; exact wrap64 (by omega) (by omega)
  have e2 : IntKind.i64.wrap (((j * a : Nat) : Int) * b) = ((j * (a * b) : Nat) : Int) := by rw [← Int.natCast_mul, Nat.mul_assoc]; exact wrap64 (by omega) (by omega)
  have e3 : IntKind.i64.wrap ((a : Int) * b) = ((a * b : Nat) : Int) := by rw [← Int.natCast_mul]; exact wrap64 (by omega) (by omega)
  have hg : (iotaP c c)[j]? = some (j : Int) := by unfold iotaP; rw [tab_get hj, if_pos hj]
  have hidx : idx (iotaP c c) (j : Int) = some (j : Int) := by unfold idx; rw [if_pos (by omega), Int.toNat_natCast, hg]
  have c1 : 0 ≤ ((j * (a * b) : Nat) : Int) ∧ ((j * (a * b) : Nat) : Int) ≤ Int.ofNat x.length ∧ Int.ofNat x.length ≤ Int.ofNat x.length := ⟨by omega, by simp only [Int.ofNat_eq_natCast]; omega, Int.le_refl _⟩
  have c2 : (0 : Int) ≤ 0 ∧ 0 ≤ ((a * b : Nat) : Int) ∧ ((a * b : Nat) : Int) ≤ Int.ofNat (List.drop (j * (a * b)) x).length := ⟨Int.le_refl _, by omega, by simp only [Int.ofNat_eq_natCast, List.length_drop]; omega⟩
  rw [mats_succ]
  have hlen := mats_len x a b j
  cases hm : mats x a b j with
  | nil =>
    show lp gMr cf_mcr (cL (cL (cR (cL (cR (cR (cR (cR (cR (cR (cR (cR (cR C_mcr))))))))))))) (n + 1) (stMs t m a b x (iotaP c c) c j .nils [] 2) K = _
    rw [ms_st0, decide_eq_true (show (j : Int) < (c : Int) by omega), cond_true, hidx, Option.bind_some, Int.toNat_natCast, hg, Option.bind_some, e1, e2, e3, if_pos c1, Option.bind_some, Int.toNat_natCast, show (Int.ofNat x.length).toNat = x.length from rfl, List.take_length, if_pos c2, Option.bind_some, Int.toNat_natCast, List.drop_zero, e0]
    rfl
  | cons o r =>
    have ha : app (o :: r) [((a : Int), (b : Int), (x.drop (j * (a * b))).take (a * b), ())] = some (o :: r ++ [((a : Int), (b : Int), (x.drop (j * (a * b))).take (a * b), ())]) := by
      unfold app
      rw [hm] at hlen
      rw [if_pos (by unfold lim; simp only [List.length_cons, List.length_nil] at *; omega)]
    show lp gMr cf_mcr (cL (cL (cR (cL (cR (cR (cR (cR (cR (cR (cR (cR (cR C_mcr))))))))))))) (n + 1) (stMt t m a b x (iotaP c c) c j (o :: r)) K = _
    rw [ms_st1, decide_eq_true (show (j : Int) < (c : Int) by omega), cond_true, hidx, Option.bind_some, Int.toNat_natCast, hg, Option.bind_some, e1, e2, e3, if_pos c1, Option.bind_some, Int.toNat_natCast, show (Int.ofNat x.length).toNat = x.length from rfl, List.take_length, if_pos c2, Option.bind_some, Int.toNat_natCast, List.drop_zero, e0, ha]
    rfl
theorem ms_all {t m : Int} {a b c : Nat} {x : List Int} (hc1 : 1 ≤ c) (hc : c * (a * b) ≤ 65536) (hab : 1 ≤ a * b) (hx : x.length = c * (a * b)) :
    lp gMr cf_mcr (cL (cL (cR (cL (cR (cR (cR (cR (cR (cR (cR (cR (cR C_mcr))))))))))))) fu (stMs t m a b x (iotaP c c) c 0 .nils [] 2) (MsK (hlp gMr cf_mcr)) = some (.ret [.os 0 0], [(0, .arr 108 (Y6) 0 false (mats x a b c))]) := by
  have hfu : fu = 18446744073709551616 := rfl
  have hcc : c ≤ c * (a * b) := Nat.le_mul_of_pos_right _ (by omega)
  have key := lp_to (T := fun n s => lp gMr cf_mcr (cL (cL (cR (cL (cR (cR (cR (cR (cR (cR (cR (cR (cR C_mcr))))))))))))) n s (MsK (hlp gMr cf_mcr))) (f := fun j : Nat => stMu t m a b x (iotaP c c) c j (mats x a b j)) c fu (by omega) (fun j hj n => ms_one hj hc hab hx n _)
  refine Eq.trans key ?_
  obtain ⟨m', hm'⟩ : ∃ m', fu - c = m' + 1 := ⟨fu - c - 1, by omega⟩
  rw [hm']
  have hlen := mats_len x a b c
  cases hm : mats x a b c with
  | nil => rw [hm] at hlen; simp at hlen; omega
  | cons o r =>
    show lp gMr cf_mcr (cL (cL (cR (cL (cR (cR (cR (cR (cR (cR (cR (cR (cR C_mcr))))))))))))) (m' + 1) (stMt t m a b x (iotaP c c) c c (o :: r)) _ = _
    rw [ms_st1, decide_eq_false (Int.lt_irrefl _), cond_false]
    exact ms_x1 _ _ _ _ _ _ _ _ _ _
theorem mcr_run {t : Int} {a b c : Nat} {x : List Int} (hc0 : countE [(c : Int)] = 0) (hc : c * (a * b) ≤ 65536) (hab : 1 ≤ a * b) (hx : x.length = c * (a * b)) :
    runC gMr Tryz.f68 7 [(7, [2, 6, 7, 8, 10, 56, 57]), (14, [2, 6, 7, 14, 71, 72, 73])] [.d (Y0) (t, [(c : Int), a, b], x, ()), .d (.slice i64T) [(c : Int)]] [] ah = some (.ret [.os 0 0], [(0, .arr 108 (Y6) 0 false (mats x a b c))]) := by
  have hc1 : 1 ≤ c := by
    have := (count_ok hc0).1 (c : Int) (by simp)
    omega
  have hcc : c ≤ c * (a * b) := Nat.le_mul_of_pos_right _ (by omega)
  have hac : a * b ≤ c * (a * b) := Nat.le_mul_of_pos_left _ hc1
  have w1 : IntKind.i64.wrap ((a : Int) * b) = ((a * b : Nat) : Int) := by rw [← Int.natCast_mul]; exact wrap64 (by omega) (by omega)
  have w2 : IntKind.i64.wrap ((Int.ofNat x.length).tdiv ((a * b : Nat) : Int)) = (c : Int) := by
    rw [hx, Int.ofNat_eq_natCast, ← Int.ofNat_tdiv, Nat.mul_div_cancel _ (by omega)]
    exact wrap64 (by omega) (by omega)
  have key : runC gMr Tryz.f68 7 [(7, [2, 6, 7, 8, 10, 56, 57]), (14, [2, 6, 7, 14, 71, 72, 73])] [.d (Y0) (t, [(c : Int), a, b], x, ()), .d (.slice i64T) [(c : Int)]] [] ah = lp gMr cf_mcr (cL (cL (cR (cL (cR (cR (cR (cR (cR (cR C_mcr)))))))))) fu (stMr t c a b x (iotaP c 0) c 0) (MrK0 (hlp gMr cf_mcr)) := (mcr_eq t c a b x).trans (by
    rw [hc0]
    have hlr : Int.ofNat (List.replicate c (0 : Int)).length = (c : Int) := by rw [List.length_replicate]; rfl
    cases hn : ((c : Int) == 1) with
    | true =>
      simp only [bne_self_eq_false, beq_self_eq_true, cond_true, cond_false]
      rw [w1, if_neg (by omega), w2, Option.bind_some, if_pos ⟨by omega, by omega⟩, Option.bind_some, Int.toNat_natCast, hlr, iotaP_zero]
      show _ = _
      kernel_rfl
    | false =>
      have hne : ((c : Int) != 1) = true := by unfold bne; rw [hn]; rfl
      rw [hne]
      simp only [bne_self_eq_false, beq_self_eq_true, cond_true, cond_false]
      rw [w1, if_neg (by omega), w2, Option.bind_some, if_pos ⟨by omega, by omega⟩, Option.bind_some, Int.toNat_natCast, hlr, iotaP_zero]
      show _ = _
      kernel_rfl)
  obtain ⟨n, h1⟩ := mr_loop0 (t := t) (m := c) (a := a) (b := b) (q := c) (x := x) (by omega) (MrK0 (hlp gMr cf_mcr))
  refine key.trans (h1.trans ?_)
  rw [mr_st0, decide_eq_false (Int.lt_irrefl _), cond_false]
  have hok : okR1 0 1 c (iotaP c c) = true := by
    unfold okR1
    apply decide_eq_true
    have hl : (iotaP c c).length = c := tab_length _ _
    refine ⟨by omega, by omega, by omega, by omega, by omega, by omega, hc0, ?_⟩
    rw [hl, Int.toNat_natCast]
    show 0 + (c - 1) * 1 < c
    omega
  have hlr : Int.ofNat (iotaP c c).length = (c : Int) := by unfold iotaP; rw [tab_length]; rfl
  have k2 : MrK0 (hlp gMr cf_mcr) (.exit 0) (stMrE t c a b x (iotaP c c) c c) = lp gMr cf_mcr (cL (cL (cR (cL (cR (cR (cR (cR (cR (cR (cR (cR (cR C_mcr))))))))))))) fu (stMs t c a b x (iotaP c c) c 0 .nils [] 2) (MsK (hlp gMr cf_mcr)) := (mr_x0 (hlp gMr cf_mcr) t c a b x (iotaP c c) c c).trans (by
    rw [hok, cond_true, rd1_iota, hlr]
    kernel_rfl)
  exact k2.trans (ms_all hc1 hc hab hx)
end Go.Proofs.XGT
/- slices.Concat of two lists of numbers; linear.matmul of two rows of matrices: run. -/
namespace Go.Proofs.XGT
open Go.Vm Go
set_option maxRecDepth 100000
set_option maxHeartbeats 4000000
noncomputable def C_ca2 : Code := codeOf Tryz.f69
noncomputable def cf_ca2 : Cfg := ⟨36, 6, 1, [(3, [0, 3, 9, 10, 11]), (11, [6, 25, 26, 27])], true⟩
theorem ca2_eq (l1 l2 : List Int) : runC g185 Tryz.f69 6 [(3, [0, 3, 9, 10, 11]), (11, [6, 25, 26, 27])] [.os 0 0] [(0, .arr 23 (.slice i64T) 0 false [l1, l2])] ah =
  bif decide (IntKind.i64.wrap (Int.ofNat (0 + l1.length)) < 0) then none
  else 
    bif decide (IntKind.i64.wrap (IntKind.i64.wrap (Int.ofNat (0 + l1.length)) + Int.ofNat l2.length) < 0) then none
    else 
      bif decide (IntKind.i64.wrap (IntKind.i64.wrap (Int.ofNat (0 + l1.length)) + Int.ofNat l2.length) < 0) then none
      else 
        bif decide (IntKind.i64.wrap (IntKind.i64.wrap (IntKind.i64.wrap (Int.ofNat (0 + l1.length)) + Int.ofNat l2.length) - 0) > 0) then 
          bif decide (0 < IntKind.i64.wrap (IntKind.i64.wrap (IntKind.i64.wrap (Int.ofNat (0 + l1.length)) + Int.ofNat l2.length) - 0)) && decide (IntKind.i64.wrap (IntKind.i64.wrap (IntKind.i64.wrap (Int.ofNat (0 + l1.length)) + Int.ofNat l2.length) - 0) ≤ 4294967296) then (app [] l1).bind fun v5 =>
              (app v5 l2).bind fun v6 =>
                some (AEnd.ret [AV.os 1 0], [(0, AObj.arr 23 (i64T).slice 0 false [l1, l2]), (1, AObj.arr 2 (i64T) 0 false v6)])
          else none
        else (app [] l1).bind fun v4 =>
            (app v4 l2).bind fun v5 =>
              some (AEnd.ret [AV.os 1 0], [(0, AObj.arr 23 (i64T).slice 0 false [l1, l2]), (1, AObj.arr 2 (i64T) 0 false v5)]) := by kernel_rfl
theorem ca2_run (l1 l2 : List Int) (h : l1.length + l2.length ≤ 65536) : runC g185 Tryz.f69 6 [(3, [0, 3, 9, 10, 11]), (11, [6, 25, 26, 27])] [.os 0 0] [(0, .arr 23 (.slice i64T) 0 false [l1, l2])] ah = some (.ret [.os 1 0], [(0, .arr 23 (.slice i64T) 0 false [l1, l2]), (1, .arr 2 i64T 0 false (l1 ++ l2))]) := by
  have e1 : IntKind.i64.wrap (Int.ofNat (0 + l1.length)) = (l1.length : Int) := by
    rw [Nat.zero_add]
    exact wrap64 (by simp only [Int.ofNat_eq_natCast]; omega) (by simp only [Int.ofNat_eq_natCast]; omega)
  have e2 : IntKind.i64.wrap ((l1.length : Int) + Int.ofNat l2.length) = ((l1.length + l2.length : Nat) : Int) := by
    rw [wrap64 (by simp only [Int.ofNat_eq_natCast]; omega) (by simp only [Int.ofNat_eq_natCast]; omega)]
    rfl
  have e4 : IntKind.i64.wrap (((l1.length + l2.length : Nat) : Int) - 0) = ((l1.length + l2.length : Nat) : Int) := by
    rw [Int.sub_zero]
    exact wrap64 (by omega) (by omega)
  have a1 : app ([] : List Int) l1 = some l1 := by
    unfold app
    rw [if_pos (by unfold lim; simp; omega)]
    rfl
  have a2 : app l1 l2 = some (l1 ++ l2) := by
    unfold app
    rw [if_pos (by unfold lim; omega)]
  rw [ca2_eq, e1, e2, e4, decide_eq_false (show ¬ ((l1.length : Int) < 0) by omega), decide_eq_false (show ¬ (((l1.length + l2.length : Nat) : Int) < 0) by omega), cond_false, cond_false, cond_false, a1, Option.bind_some, a2, Option.bind_some]
  by_cases h0 : (((l1.length + l2.length : Nat) : Int)) > 0
  · rw [decide_eq_true h0, decide_eq_true (show ((l1.length + l2.length : Nat) : Int) ≤ 4294967296 by omega)]
    rfl
  · rw [decide_eq_false h0]
    rfl
def ca2T : List AV → LHp → Tq
  | [.os 0 0], [(0, .arr 23 (.slice (.int .i64)) 0 false [l1, l2])] => .br (decide (l1.length + l2.length ≤ 65536)) (.leaf (.ret [.os 1 0]) [(0, .arr 23 (.slice i64T) 0 false [l1, l2]), (1, .arr 2 i64T 0 false (l1 ++ l2))]) .no
  | _, _ => .no
theorem ca2T_ok : FnE.OK e0.P e0.gam 69 (treeE ca2T) := by
  have h1 : FnE.OK e0.P e0.gam 69 (execFnC g185 Tryz.f69 6 [(3, [0, 3, 9, 10, 11]), (11, [6, 25, 26, 27])]) := y69_ok
  refine ⟨fun _ _ _ => Tq.eq _ _, fun args hs ae hs' h => ?_⟩
  have h' : (ca2T args hs).run ah = some (ae, hs') := h
  clear h
  unfold ca2T at h'
  split at h'
  · obtain ⟨hb, h2⟩ := Tq.br_no h'
    cases h2
    exact h1.okC (ca2_run _ _ (of_decide_eq_true hb))
  · cases h'
def okMr (c a b c2 : Int) (x : List Int) : Bool := decide ((0 ≤ c ∧ 1 ≤ a ∧ 1 ≤ b ∧ c2 = c) ∧ countE [c] = 0 ∧ c.toNat * (a.toNat * b.toNat) ≤ 65536 ∧ x.length = c.toNat * (a.toNat * b.toNat))
def mcrT : List AV → LHp → Tq
  | [.d ((.pair (.int .i64) (.pair (.slice (.int .i64)) (.pair (.slice (.int .i64)) .unit)))) (_, [c, a, b], x, ()), .d (.slice (.int .i64)) [c2]], [] => .br (okMr c a b c2 x) (.leaf (.ret [.os 0 0]) [(0, .arr 108 (Y6) 0 false (mats x a.toNat b.toNat c.toNat))]) .no
  | _, _ => .no
theorem mcrT_ok : FnE.OK e0.P e0.gam 68 (treeE mcrT) := by
  have h1 : FnE.OK e0.P e0.gam 68 (execFnC gMr Tryz.f68 7 [(7, [2, 6, 7, 8, 10, 56, 57]), (14, [2, 6, 7, 14, 71, 72, 73])]) := execFnC_ok gMr_good hmix Tryz.func68 Tryz.call68 (by decide +kernel) rfl
  refine ⟨fun _ _ _ => Tq.eq _ _, fun args hs ae hs' h => ?_⟩
  have h' : (mcrT args hs).run ah = some (ae, hs') := h
  clear h
  unfold mcrT at h'
  split at h'
  · obtain ⟨hb, h2⟩ := Tq.br_no h'
    obtain ⟨⟨c1, c2, c3, c4⟩, c5, c6, c7⟩ := of_decide_eq_true hb
    subst c4
    cases h2
    rename_i c a b x _
    obtain ⟨c, rfl⟩ := Int.eq_ofNat_of_zero_le c1
    obtain ⟨a, rfl⟩ := Int.eq_ofNat_of_zero_le (show (0 : Int) ≤ a by omega)
    obtain ⟨b, rfl⟩ := Int.eq_ofNat_of_zero_le (show (0 : Int) ≤ b by omega)
    rw [Int.toNat_natCast, Int.toNat_natCast, Int.toNat_natCast] at c6 c7
    rw [Int.toNat_natCast, Int.toNat_natCast, Int.toNat_natCast]
    exact h1.okC (mcr_run c5 c6 (Nat.mul_pos (by omega) (by omega)) c7)
  · cases h'
def prodM (m1 m2 : (Y6).den) : List Int := prodL m1.1.toNat m1.2.1.toNat m2.2.1.toNat m1.2.2.1 m2.2.2.1
def okM2 (m1 m2 : (Y6).den) : Bool := prdOk m1.1 m1.2.1 m2.1 m2.2.1 m1.2.2.1 m2.2.2.1
def prdU : List AV → LHp → Tq
  | [.d ((.pair (.int .i64) (.pair (.int .i64) (.pair (.slice (.int .i64)) .unit)))) m1, .d ((.pair (.int .i64) (.pair (.int .i64) (.pair (.slice (.int .i64)) .unit)))) m2], [] => .br (okM2 m1 m2) (.leaf (.ret [.os 0 0]) [(0, .arr 2 i64T 0 false (prodM m1 m2))]) .no
  | _, _ => .no
theorem prdU_ok : FnE.OK e0.P e0.gam 70 (treeE prdU) := by
  have h1 : FnE.OK e0.P e0.gam 70 (execFnC gPr Tryz.f70 6 [(3, [2, 3, 5, 6]), (6, [2, 3, 5, 6, 7])]) := execFnC_ok gPr_good hmix Tryz.func70 Tryz.call70 (by decide +kernel) rfl
  refine ⟨fun _ _ _ => Tq.eq _ _, fun args hs ae hs' h => ?_⟩
  have h' : (prdU args hs).run ah = some (ae, hs') := h
  clear h
  unfold prdU at h'
  split at h'
  · obtain ⟨hb, h2⟩ := Tq.br_no h'
    cases h2
    rename_i m1 m2
    obtain ⟨M, K, a, ⟨⟩⟩ := m1
    obtain ⟨K2, C, b, ⟨⟩⟩ := m2
    exact h1.okC (prd_tree hb)
  · cases h'
noncomputable def C_mmb : Code := codeOf Tryz.f40
noncomputable def cf_mmb : Cfg := ⟨50, 6, 2, [(6, [8, 9, 10, 32, 33])], true⟩
noncomputable def gMb : Env := ((g190.add 68 (treeE mcrT)).add 70 (treeE prdU)).add 69 (treeE ca2T)
theorem gMb_good : gMb.Good := ((g190_good.add mcrT_ok).add prdU_ok).add ca2T_ok
def hpMb (t1 : Int) (d1 x1 : List Int) (t2 : Int) (d2 x2 : List Int) (d3 : List Int) : LHp := [(0, .arr 3 i64T 0 false d3), (1, .arr 25 (Y0) 0 false [(t1, d1, x1, ()), (t2, d2, x2, ())])]
theorem mmb_eqH (hl : Hl) (t1 c1 a1 b1 t2 c2 a2 b2 c e f : Int) (x y : List Int) : runH gMb Tryz.f40 6 [(6, [8, 9, 10, 32, 33])] [6] hl [.os 1 0, .os 0 0] (hpMb t1 [c1, a1, b1] x t2 [c2, a2, b2] y [c, e, f]) ah =
  bif okMr c1 a1 b1 c x then 
    bif okMr c2 a2 b2 c y then hl (cL (cL (cR (cL (cR (cR (cR (cR (cR C_mmb))))))))) _ { fr := mkFr 6 [(8, AV.os 2 0), (9, AV.os 3 0), (10, AV.nils), (32, I (countN [c])), (33, I 0)], hp := [(0, AObj.arr 3 (i64T) 0 true [c, e, f]), (1, AObj.arr 25 ((i64T).pair ((i64T).slice.pair ((i64T).slice.pair Ty.unit))) 0 false [(t1, [c1, a1, b1], x, PUnit.unit), (t2, [c2, a2, b2], y, PUnit.unit)]), (2, AObj.arr 108 ((i64T).pair ((i64T).pair ((i64T).slice.pair Ty.unit))) 0 false (mats x a1.toNat b1.toNat c1.toNat)), (3, AObj.arr 108 ((i64T).pair ((i64T).pair ((i64T).slice.pair Ty.unit))) 0 false (mats y a2.toNat b2.toNat c2.toNat))], nx := 6 } (blkK 0 (seqH gMb cf_mmb [6] hl (cR (cR (cR (cR (cR (cR C_mmb)))))) (endC Tryz.prog 2 Tryz.f40.results.toList ah)))
    else none
  else none := by kernel_rfl
theorem mmb_eq (t1 c1 a1 b1 t2 c2 a2 b2 c e f : Int) (x y : List Int) : runC gMb Tryz.f40 6 [(6, [8, 9, 10, 32, 33])] [.os 1 0, .os 0 0] (hpMb t1 [c1, a1, b1] x t2 [c2, a2, b2] y [c, e, f]) ah =
  bif okMr c1 a1 b1 c x then 
    bif okMr c2 a2 b2 c y then (hlp gMb cf_mmb) (cL (cL (cR (cL (cR (cR (cR (cR (cR C_mmb))))))))) _ { fr := mkFr 6 [(8, AV.os 2 0), (9, AV.os 3 0), (10, AV.nils), (32, I (countN [c])), (33, I 0)], hp := [(0, AObj.arr 3 (i64T) 0 true [c, e, f]), (1, AObj.arr 25 ((i64T).pair ((i64T).slice.pair ((i64T).slice.pair Ty.unit))) 0 false [(t1, [c1, a1, b1], x, PUnit.unit), (t2, [c2, a2, b2], y, PUnit.unit)]), (2, AObj.arr 108 ((i64T).pair ((i64T).pair ((i64T).slice.pair Ty.unit))) 0 false (mats x a1.toNat b1.toNat c1.toNat)), (3, AObj.arr 108 ((i64T).pair ((i64T).pair ((i64T).slice.pair Ty.unit))) 0 false (mats y a2.toNat b2.toNat c2.toNat))], nx := 6 } (blkK 0 (seqH gMb cf_mmb [6] (hlp gMb cf_mmb) (cR (cR (cR (cR (cR (cR C_mmb)))))) (endC Tryz.prog 2 Tryz.f40.results.toList ah)))
    else none
  else none := runH_runC.trans (mmb_eqH (hlp gMb cf_mmb) t1 c1 a1 b1 t2 c2 a2 b2 c e f x y)
def hpMc (z : Bool) (t1 : Int) (d1 x1 : List Int) (t2 : Int) (d2 x2 : List Int) (d3 : List Int) : LHp := [(0, .arr 3 i64T 0 z d3), (1, .arr 25 (Y0) 0 false [(t1, d1, x1, ()), (t2, d2, x2, ())])]
def stMb (hp : LHp) (m1 m2 : List (Y6).den) (c i : Int) : LSt := ⟨mkFr 6 [(8, AV.os 2 0), (9, AV.os 3 0), (10, .nils), (32, I c), (33, I i)], hp ++ [(2, .arr 108 (Y6) 0 false m1), (3, .arr 108 (Y6) 0 false m2)], 6⟩
theorem mmb_st0H (hl : Hl) (t1 : Int) (d1 x1 : List Int) (t2 : Int) (d2 x2 : List Int) (d3 : List Int) (m1 m2 : List (Y6).den) (c i : Int) (n : Nat) {R : Type} (k : AEx → LSt → Option R) : lpH gMb cf_mmb [6] hl (cL (cL (cR (cL (cR (cR (cR (cR (cR C_mmb))))))))) (n + 1) (stMb (hpMc true t1 d1 x1 t2 d2 x2 d3) m1 m2 c i) k =
  bif decide (i < c) then (idx m1 i).bind fun v1 =>
      (m1[i.toNat]?).bind fun v2 =>
        (idx m2 i).bind fun v3 =>
          (m2[i.toNat]?).bind fun v4 =>
            bif okM2 v2 v4 then 
              bif decide (0 + (prodM v2 v4).length ≤ 65536) then lpH gMb cf_mmb [6] hl (cL (cL (cR (cL (cR (cR (cR (cR (cR C_mmb))))))))) n { fr := mkFr 6 [(8, AV.os 2 0), (9, AV.os 3 0), (10, AV.os 4 0), (32, I c), (33, I (IntKind.i64.wrap (i + 1)))], hp := [(0, AObj.arr 3 (i64T) 0 true d3), (1, AObj.arr 25 ((i64T).pair ((i64T).slice.pair ((i64T).slice.pair Ty.unit))) 0 false [(t1, d1, x1, PUnit.unit), (t2, d2, x2, PUnit.unit)]), (2, AObj.arr 108 ((i64T).pair ((i64T).pair ((i64T).slice.pair Ty.unit))) 0 false m1), (3, AObj.arr 108 ((i64T).pair ((i64T).pair ((i64T).slice.pair Ty.unit))) 0 false m2), (4, AObj.arr 2 (i64T) 0 false ([] ++ prodM v2 v4))], nx := 7 } k
              else none
            else none
  else k (AEx.exit 0) { fr := mkFr 6 [(8, AV.os 2 0), (9, AV.os 3 0), (10, AV.nils), (32, I c), (33, I i), (34, B false)], hp := [(0, AObj.arr 3 (i64T) 0 true d3), (1, AObj.arr 25 ((i64T).pair ((i64T).slice.pair ((i64T).slice.pair Ty.unit))) 0 false [(t1, d1, x1, PUnit.unit), (t2, d2, x2, PUnit.unit)]), (2, AObj.arr 108 ((i64T).pair ((i64T).pair ((i64T).slice.pair Ty.unit))) 0 false m1), (3, AObj.arr 108 ((i64T).pair ((i64T).pair ((i64T).slice.pair Ty.unit))) 0 false m2)], nx := 6 } := by kernel_rfl
theorem mmb_st0 (t1 : Int) (d1 x1 : List Int) (t2 : Int) (d2 x2 : List Int) (d3 : List Int) (m1 m2 : List (Y6).den) (c i : Int) (n : Nat) {R : Type} (k : AEx → LSt → Option R) : lp gMb cf_mmb (cL (cL (cR (cL (cR (cR (cR (cR (cR C_mmb))))))))) (n + 1) (stMb (hpMc true t1 d1 x1 t2 d2 x2 d3) m1 m2 c i) k =
  bif decide (i < c) then (idx m1 i).bind fun v1 =>
      (m1[i.toNat]?).bind fun v2 =>
        (idx m2 i).bind fun v3 =>
          (m2[i.toNat]?).bind fun v4 =>
            bif okM2 v2 v4 then 
              bif decide (0 + (prodM v2 v4).length ≤ 65536) then lp gMb cf_mmb (cL (cL (cR (cL (cR (cR (cR (cR (cR C_mmb))))))))) n { fr := mkFr 6 [(8, AV.os 2 0), (9, AV.os 3 0), (10, AV.os 4 0), (32, I c), (33, I (IntKind.i64.wrap (i + 1)))], hp := [(0, AObj.arr 3 (i64T) 0 true d3), (1, AObj.arr 25 ((i64T).pair ((i64T).slice.pair ((i64T).slice.pair Ty.unit))) 0 false [(t1, d1, x1, PUnit.unit), (t2, d2, x2, PUnit.unit)]), (2, AObj.arr 108 ((i64T).pair ((i64T).pair ((i64T).slice.pair Ty.unit))) 0 false m1), (3, AObj.arr 108 ((i64T).pair ((i64T).pair ((i64T).slice.pair Ty.unit))) 0 false m2), (4, AObj.arr 2 (i64T) 0 false ([] ++ prodM v2 v4))], nx := 7 } k
              else none
            else none
  else k (AEx.exit 0) { fr := mkFr 6 [(8, AV.os 2 0), (9, AV.os 3 0), (10, AV.nils), (32, I c), (33, I i), (34, B false)], hp := [(0, AObj.arr 3 (i64T) 0 true d3), (1, AObj.arr 25 ((i64T).pair ((i64T).slice.pair ((i64T).slice.pair Ty.unit))) 0 false [(t1, d1, x1, PUnit.unit), (t2, d2, x2, PUnit.unit)]), (2, AObj.arr 108 ((i64T).pair ((i64T).pair ((i64T).slice.pair Ty.unit))) 0 false m1), (3, AObj.arr 108 ((i64T).pair ((i64T).pair ((i64T).slice.pair Ty.unit))) 0 false m2)], nx := 6 } := by
  have h := mmb_st0H (hlp gMb cf_mmb) t1 d1 x1 t2 d2 x2 d3 m1 m2 c i n k
  simp only [lpH_lp] at h
  exact h
def stMd (hp : LHp) (m1 m2 : List (Y6).den) (c i : Int) (o : List Int) : LSt := ⟨mkFr 6 [(8, AV.os 2 0), (9, AV.os 3 0), (10, .os 4 0), (32, I c), (33, I i)], hp ++ [(2, .arr 108 (Y6) 0 false m1), (3, .arr 108 (Y6) 0 false m2), (4, .arr 2 i64T 0 false o)], 7⟩
theorem mmb_st1H (hl : Hl) (t1 : Int) (d1 x1 : List Int) (t2 : Int) (d2 x2 : List Int) (d3 : List Int) (m1 m2 : List (Y6).den) (c i : Int) (o : List Int) (n : Nat) {R : Type} (k : AEx → LSt → Option R) : lpH gMb cf_mmb [6] hl (cL (cL (cR (cL (cR (cR (cR (cR (cR C_mmb))))))))) (n + 1) (stMd (hpMc true t1 d1 x1 t2 d2 x2 d3) m1 m2 c i o) k =
  bif decide (i < c) then (idx m1 i).bind fun v1 =>
      (m1[i.toNat]?).bind fun v2 =>
        (idx m2 i).bind fun v3 =>
          (m2[i.toNat]?).bind fun v4 =>
            bif okM2 v2 v4 then 
              bif decide (o.length + (prodM v2 v4).length ≤ 65536) then lpH gMb cf_mmb [6] hl (cL (cL (cR (cL (cR (cR (cR (cR (cR C_mmb))))))))) n { fr := mkFr 6 [(8, AV.os 2 0), (9, AV.os 3 0), (10, AV.os 4 0), (32, I c), (33, I (IntKind.i64.wrap (i + 1)))], hp := [(0, AObj.arr 3 (i64T) 0 true d3), (1, AObj.arr 25 ((i64T).pair ((i64T).slice.pair ((i64T).slice.pair Ty.unit))) 0 false [(t1, d1, x1, PUnit.unit), (t2, d2, x2, PUnit.unit)]), (2, AObj.arr 108 ((i64T).pair ((i64T).pair ((i64T).slice.pair Ty.unit))) 0 false m1), (3, AObj.arr 108 ((i64T).pair ((i64T).pair ((i64T).slice.pair Ty.unit))) 0 false m2), (4, AObj.arr 2 (i64T) 0 false (o ++ prodM v2 v4))], nx := 7 } k
              else none
            else none
  else k (AEx.exit 0) { fr := mkFr 6 [(8, AV.os 2 0), (9, AV.os 3 0), (10, AV.os 4 0), (32, I c), (33, I i), (34, B false)], hp := [(0, AObj.arr 3 (i64T) 0 true d3), (1, AObj.arr 25 ((i64T).pair ((i64T).slice.pair ((i64T).slice.pair Ty.unit))) 0 false [(t1, d1, x1, PUnit.unit), (t2, d2, x2, PUnit.unit)]), (2, AObj.arr 108 ((i64T).pair ((i64T).pair ((i64T).slice.pair Ty.unit))) 0 false m1), (3, AObj.arr 108 ((i64T).pair ((i64T).pair ((i64T).slice.pair Ty.unit))) 0 false m2), (4, AObj.arr 2 (i64T) 0 false o)], nx := 7 } := by kernel_rfl
theorem mmb_st1 (t1 : Int) (d1 x1 : List Int) (t2 : Int) (d2 x2 : List Int) (d3 : List Int) (m1 m2 : List (Y6).den) (c i : Int) (o : List Int) (n : Nat) {R : Type} (k : AEx → LSt → Option R) : lp gMb cf_mmb (cL (cL (cR (cL (cR (cR (cR (cR (cR C_mmb))))))))) (n + 1) (stMd (hpMc true t1 d1 x1 t2 d2 x2 d3) m1 m2 c i o) k =
  bif decide (i < c) then (idx m1 i).bind fun v1 =>
      (m1[i.toNat]?).bind fun v2 =>
        (idx m2 i).bind fun v3 =>
          (m2[i.toNat]?).bind fun v4 =>
            bif okM2 v2 v4 then 
              bif decide (o.length + (prodM v2 v4).length ≤ 65536) then lp gMb cf_mmb (cL (cL (cR (cL (cR (cR (cR (cR (cR C_mmb))))))))) n { fr := mkFr 6 [(8, AV.os 2 0), (9, AV.os 3 0), (10, AV.os 4 0), (32, I c), (33, I (IntKind.i64.wrap (i + 1)))], hp := [(0, AObj.arr 3 (i64T) 0 true d3), (1, AObj.arr 25 ((i64T).pair ((i64T).slice.pair ((i64T).slice.pair Ty.unit))) 0 false [(t1, d1, x1, PUnit.unit), (t2, d2, x2, PUnit.unit)]), (2, AObj.arr 108 ((i64T).pair ((i64T).pair ((i64T).slice.pair Ty.unit))) 0 false m1), (3, AObj.arr 108 ((i64T).pair ((i64T).pair ((i64T).slice.pair Ty.unit))) 0 false m2), (4, AObj.arr 2 (i64T) 0 false (o ++ prodM v2 v4))], nx := 7 } k
              else none
            else none
  else k (AEx.exit 0) { fr := mkFr 6 [(8, AV.os 2 0), (9, AV.os 3 0), (10, AV.os 4 0), (32, I c), (33, I i), (34, B false)], hp := [(0, AObj.arr 3 (i64T) 0 true d3), (1, AObj.arr 25 ((i64T).pair ((i64T).slice.pair ((i64T).slice.pair Ty.unit))) 0 false [(t1, d1, x1, PUnit.unit), (t2, d2, x2, PUnit.unit)]), (2, AObj.arr 108 ((i64T).pair ((i64T).pair ((i64T).slice.pair Ty.unit))) 0 false m1), (3, AObj.arr 108 ((i64T).pair ((i64T).pair ((i64T).slice.pair Ty.unit))) 0 false m2), (4, AObj.arr 2 (i64T) 0 false o)], nx := 7 } := by
  have h := mmb_st1H (hlp gMb cf_mmb) t1 d1 x1 t2 d2 x2 d3 m1 m2 c i o n k
  simp only [lpH_lp] at h
  exact h
noncomputable def MbK : AEx → LSt → Option (AEnd × LHp) := (blkK 0 (seqH gMb cf_mmb [6] (hlp gMb cf_mmb) (cR (cR (cR (cR (cR (cR C_mmb)))))) (endC Tryz.prog 2 Tryz.f40.results.toList ah)))
def stMdE (hp : LHp) (m1 m2 : List (Y6).den) (c i : Int) (o : List Int) : LSt := ⟨mkFr 6 [(8, AV.os 2 0), (9, AV.os 3 0), (10, .os 4 0), (32, I c), (33, I i), (34, B false)], hp ++ [(2, .arr 108 (Y6) 0 false m1), (3, .arr 108 (Y6) 0 false m2), (4, .arr 2 i64T 0 false o)], 7⟩
theorem mmb_x (t1 : Int) (d1 x1 : List Int) (t2 : Int) (d2 x2 : List Int) (d3 : List Int) (m1 m2 : List (Y6).den) (c i : Int) (o : List Int) : MbK (.exit 0) (stMdE (hpMc true t1 d1 x1 t2 d2 x2 d3) m1 m2 c i o) =
  some (AEnd.ret [AV.os 2 0], [(0, AObj.arr 3 (i64T) 0 true d3), (1, AObj.arr 25 ((i64T).pair ((i64T).slice.pair ((i64T).slice.pair Ty.unit))) 0 false [(t1, d1, x1, PUnit.unit), (t2, d2, x2, PUnit.unit)]), (2, AObj.arr 2 (i64T) 0 false o)]) := by kernel_rfl
end Go.Proofs.XGT
/- linear.begin of a MatMul over two rows of matrices. -/
namespace Go.Proofs.XGT
open Go.Vm Go
set_option maxRecDepth 100000
set_option maxHeartbeats 4000000
noncomputable def C_bgb : Code := codeOf Tryz.f39
noncomputable def cf_bgb : Cfg := ⟨33, 6, 2, [(3, [2, 4, 6, 9, 10, 11])], true⟩
theorem bgb_eq (t1 c a b t2 p q : Int) (x y : List Int) : runC g175 Tryz.f39 6 [(3, [2, 4, 6, 9, 10, 11])] [nodeA strMM [] [122] (.os 1 0) .nils, .os 0 0] (hpL false t1 [c, a, b] x t2 [c, p, q] y) ah =
  bif decide (3 ≤ 9223372036854775807 ∧ x.length ≤ 9223372036854775807) then 
    bif tenE t1 [c, a, b] x != 0 then some (AEnd.ret [(AV.d Ty.str []).pr ((I 0).pr (AV.nils.pr (AV.d Ty.unit PUnit.unit))), I 1], [(0, AObj.arr 25 ((i64T).pair ((i64T).slice.pair ((i64T).slice.pair Ty.unit))) 0 false [(t1, [c, a, b], x, PUnit.unit), (t2, [c, p, q], y, PUnit.unit)]), (1, AObj.arr 9 Ty.str 0 false [[120], [121]])])
    else 
      bif decide (3 ≤ 9223372036854775807 ∧ y.length ≤ 9223372036854775807) then 
        bif tenE t2 [c, p, q] y != 0 then some (AEnd.ret [(AV.d Ty.str []).pr ((I 0).pr (AV.nils.pr (AV.d Ty.unit PUnit.unit))), I 1], [(0, AObj.arr 25 ((i64T).pair ((i64T).slice.pair ((i64T).slice.pair Ty.unit))) 0 false [(t1, [c, a, b], x, PUnit.unit), (t2, [c, p, q], y, PUnit.unit)]), (1, AObj.arr 9 Ty.str 0 false [[120], [121]])])
        else 
          bif !numOk t1 0 then some (AEnd.ret [(AV.d Ty.str []).pr ((I 0).pr (AV.nils.pr (AV.d Ty.unit PUnit.unit))), I 5], [(0, AObj.arr 25 ((i64T).pair ((i64T).slice.pair ((i64T).slice.pair Ty.unit))) 0 false [(t1, [c, a, b], x, PUnit.unit), (t2, [c, p, q], y, PUnit.unit)]), (1, AObj.arr 9 Ty.str 0 false [[120], [121]])])
          else 
            bif countE [c, a, b] != 0 then some (AEnd.ret [(AV.d Ty.str []).pr ((I 0).pr (AV.nils.pr (AV.d Ty.unit PUnit.unit))), I (countE [c, a, b])], [(0, AObj.arr 25 ((i64T).pair ((i64T).slice.pair ((i64T).slice.pair Ty.unit))) 0 false [(t1, [c, a, b], x, PUnit.unit), (t2, [c, p, q], y, PUnit.unit)]), (1, AObj.arr 9 Ty.str 0 false [[120], [121]])])
            else 
              bif !numOk t2 0 then some (AEnd.ret [(AV.d Ty.str []).pr ((I 0).pr (AV.nils.pr (AV.d Ty.unit PUnit.unit))), I 5], [(0, AObj.arr 25 ((i64T).pair ((i64T).slice.pair ((i64T).slice.pair Ty.unit))) 0 false [(t1, [c, a, b], x, PUnit.unit), (t2, [c, p, q], y, PUnit.unit)]), (1, AObj.arr 9 Ty.str 0 false [[120], [121]])])
              else 
                bif countE [c, p, q] != 0 then some (AEnd.ret [(AV.d Ty.str []).pr ((I 0).pr (AV.nils.pr (AV.d Ty.unit PUnit.unit))), I (countE [c, p, q])], [(0, AObj.arr 25 ((i64T).pair ((i64T).slice.pair ((i64T).slice.pair Ty.unit))) 0 false [(t1, [c, a, b], x, PUnit.unit), (t2, [c, p, q], y, PUnit.unit)]), (1, AObj.arr 9 Ty.str 0 false [[120], [121]])])
                else 
                  bif t1 == 6 then 
                    bif t1 != 1 then some (AEnd.ret [(AV.d Ty.str []).pr ((I 0).pr (AV.nils.pr (AV.d Ty.unit PUnit.unit))), I 4], [(0, AObj.arr 25 ((i64T).pair ((i64T).slice.pair ((i64T).slice.pair Ty.unit))) 0 false [(t1, [c, a, b], x, PUnit.unit), (t2, [c, p, q], y, PUnit.unit)]), (1, AObj.arr 9 Ty.str 0 false [[120], [121]])])
                    else 
                      bif t2 != 1 then some (AEnd.ret [(AV.d Ty.str []).pr ((I 0).pr (AV.nils.pr (AV.d Ty.unit PUnit.unit))), I 4], [(0, AObj.arr 25 ((i64T).pair ((i64T).slice.pair ((i64T).slice.pair Ty.unit))) 0 false [(t1, [c, a, b], x, PUnit.unit), (t2, [c, p, q], y, PUnit.unit)]), (1, AObj.arr 9 Ty.str 0 false [[120], [121]])])
                      else 
                        bif !b == p then some (AEnd.ret [(AV.d Ty.str []).pr ((I 0).pr (AV.nils.pr (AV.d Ty.unit PUnit.unit))), I 4], [(0, AObj.arr 25 ((i64T).pair ((i64T).slice.pair ((i64T).slice.pair Ty.unit))) 0 false [(t1, [c, a, b], x, PUnit.unit), (t2, [c, p, q], y, PUnit.unit)]), (1, AObj.arr 9 Ty.str 0 false [[120], [121]])])
                        else 
                          bif countE [c] != 0 then 
                            bif countE [c] != 0 then none
                            else 
                              bif countE [a, q] != 0 then some (AEnd.ret [(AV.d Ty.str []).pr ((I 0).pr (AV.nils.pr (AV.d Ty.unit PUnit.unit))), I (countE [a, q])], [(0, AObj.arr 25 ((i64T).pair ((i64T).slice.pair ((i64T).slice.pair Ty.unit))) 0 false [(t1, [c, a, b], x, PUnit.unit), (t2, [c, p, q], y, PUnit.unit)]), (1, AObj.arr 9 Ty.str 0 false [[120], [121]])])
                              else some (AEnd.ret [(AV.d Ty.str [122]).pr ((I t1).pr ((AV.os 2 0).pr (AV.d Ty.unit PUnit.unit))), I 0], [(0, AObj.arr 25 ((i64T).pair ((i64T).slice.pair ((i64T).slice.pair Ty.unit))) 0 false [(t1, [c, a, b], x, PUnit.unit), (t2, [c, p, q], y, PUnit.unit)]), (1, AObj.arr 9 Ty.str 0 false [[120], [121]]), (2, AObj.arr 3 (i64T) 0 false [a, q])])
                          else 
                            bif countE [c] != 0 then 
                              bif countE [c] != 0 then none
                              else 
                                bif countE [a, q] != 0 then some (AEnd.ret [(AV.d Ty.str []).pr ((I 0).pr (AV.nils.pr (AV.d Ty.unit PUnit.unit))), I (countE [a, q])], [(0, AObj.arr 25 ((i64T).pair ((i64T).slice.pair ((i64T).slice.pair Ty.unit))) 0 false [(t1, [c, a, b], x, PUnit.unit), (t2, [c, p, q], y, PUnit.unit)]), (1, AObj.arr 9 Ty.str 0 false [[120], [121]])])
                                else some (AEnd.ret [(AV.d Ty.str [122]).pr ((I t1).pr ((AV.os 2 0).pr (AV.d Ty.unit PUnit.unit))), I 0], [(0, AObj.arr 25 ((i64T).pair ((i64T).slice.pair ((i64T).slice.pair Ty.unit))) 0 false [(t1, [c, a, b], x, PUnit.unit), (t2, [c, p, q], y, PUnit.unit)]), (1, AObj.arr 9 Ty.str 0 false [[120], [121]]), (2, AObj.arr 3 (i64T) 0 false [a, q])])
                            else 
                              bif c == 1 then 
                                bif countE [c] != 0 then 
                                  bif countE [c] != 0 then none
                                  else 
                                    bif countE [a, q] != 0 then some (AEnd.ret [(AV.d Ty.str []).pr ((I 0).pr (AV.nils.pr (AV.d Ty.unit PUnit.unit))), I (countE [a, q])], [(0, AObj.arr 25 ((i64T).pair ((i64T).slice.pair ((i64T).slice.pair Ty.unit))) 0 false [(t1, [c, a, b], x, PUnit.unit), (t2, [c, p, q], y, PUnit.unit)]), (1, AObj.arr 9 Ty.str 0 false [[120], [121]])])
                                    else some (AEnd.ret [(AV.d Ty.str [122]).pr ((I t1).pr ((AV.os 2 0).pr (AV.d Ty.unit PUnit.unit))), I 0], [(0, AObj.arr 25 ((i64T).pair ((i64T).slice.pair ((i64T).slice.pair Ty.unit))) 0 false [(t1, [c, a, b], x, PUnit.unit), (t2, [c, p, q], y, PUnit.unit)]), (1, AObj.arr 9 Ty.str 0 false [[120], [121]]), (2, AObj.arr 3 (i64T) 0 false [a, q])])
                                else 
                                  bif countE [c, a, q] != 0 then some (AEnd.ret [(AV.d Ty.str []).pr ((I 0).pr (AV.nils.pr (AV.d Ty.unit PUnit.unit))), I (countE [c, a, q])], [(0, AObj.arr 25 ((i64T).pair ((i64T).slice.pair ((i64T).slice.pair Ty.unit))) 0 false [(t1, [c, a, b], x, PUnit.unit), (t2, [c, p, q], y, PUnit.unit)]), (1, AObj.arr 9 Ty.str 0 false [[120], [121]])])
                                  else some (AEnd.ret [(AV.d Ty.str [122]).pr ((I t1).pr ((AV.os 2 0).pr (AV.d Ty.unit PUnit.unit))), I 0], [(0, AObj.arr 25 ((i64T).pair ((i64T).slice.pair ((i64T).slice.pair Ty.unit))) 0 false [(t1, [c, a, b], x, PUnit.unit), (t2, [c, p, q], y, PUnit.unit)]), (1, AObj.arr 9 Ty.str 0 false [[120], [121]]), (2, AObj.arr 3 (i64T) 0 false [c, a, q])])
                              else 
                                bif c != 1 then 
                                  bif c != c then none
                                  else 
                                    bif countE [c] != 0 then 
                                      bif countE [c] != 0 then none
                                      else 
                                        bif countE [a, q] != 0 then some (AEnd.ret [(AV.d Ty.str []).pr ((I 0).pr (AV.nils.pr (AV.d Ty.unit PUnit.unit))), I (countE [a, q])], [(0, AObj.arr 25 ((i64T).pair ((i64T).slice.pair ((i64T).slice.pair Ty.unit))) 0 false [(t1, [c, a, b], x, PUnit.unit), (t2, [c, p, q], y, PUnit.unit)]), (1, AObj.arr 9 Ty.str 0 false [[120], [121]])])
                                        else some (AEnd.ret [(AV.d Ty.str [122]).pr ((I t1).pr ((AV.os 2 0).pr (AV.d Ty.unit PUnit.unit))), I 0], [(0, AObj.arr 25 ((i64T).pair ((i64T).slice.pair ((i64T).slice.pair Ty.unit))) 0 false [(t1, [c, a, b], x, PUnit.unit), (t2, [c, p, q], y, PUnit.unit)]), (1, AObj.arr 9 Ty.str 0 false [[120], [121]]), (2, AObj.arr 3 (i64T) 0 false [a, q])])
                                    else 
                                      bif countE [c, a, q] != 0 then some (AEnd.ret [(AV.d Ty.str []).pr ((I 0).pr (AV.nils.pr (AV.d Ty.unit PUnit.unit))), I (countE [c, a, q])], [(0, AObj.arr 25 ((i64T).pair ((i64T).slice.pair ((i64T).slice.pair Ty.unit))) 0 false [(t1, [c, a, b], x, PUnit.unit), (t2, [c, p, q], y, PUnit.unit)]), (1, AObj.arr 9 Ty.str 0 false [[120], [121]])])
                                      else some (AEnd.ret [(AV.d Ty.str [122]).pr ((I t1).pr ((AV.os 2 0).pr (AV.d Ty.unit PUnit.unit))), I 0], [(0, AObj.arr 25 ((i64T).pair ((i64T).slice.pair ((i64T).slice.pair Ty.unit))) 0 false [(t1, [c, a, b], x, PUnit.unit), (t2, [c, p, q], y, PUnit.unit)]), (1, AObj.arr 9 Ty.str 0 false [[120], [121]]), (2, AObj.arr 3 (i64T) 0 false [c, a, q])])
                                else 
                                  bif countE [c] != 0 then 
                                    bif countE [c] != 0 then none
                                    else 
                                      bif countE [a, q] != 0 then some (AEnd.ret [(AV.d Ty.str []).pr ((I 0).pr (AV.nils.pr (AV.d Ty.unit PUnit.unit))), I (countE [a, q])], [(0, AObj.arr 25 ((i64T).pair ((i64T).slice.pair ((i64T).slice.pair Ty.unit))) 0 false [(t1, [c, a, b], x, PUnit.unit), (t2, [c, p, q], y, PUnit.unit)]), (1, AObj.arr 9 Ty.str 0 false [[120], [121]])])
                                      else some (AEnd.ret [(AV.d Ty.str [122]).pr ((I t1).pr ((AV.os 2 0).pr (AV.d Ty.unit PUnit.unit))), I 0], [(0, AObj.arr 25 ((i64T).pair ((i64T).slice.pair ((i64T).slice.pair Ty.unit))) 0 false [(t1, [c, a, b], x, PUnit.unit), (t2, [c, p, q], y, PUnit.unit)]), (1, AObj.arr 9 Ty.str 0 false [[120], [121]]), (2, AObj.arr 3 (i64T) 0 false [a, q])])
                                  else 
                                    bif countE [c, a, q] != 0 then some (AEnd.ret [(AV.d Ty.str []).pr ((I 0).pr (AV.nils.pr (AV.d Ty.unit PUnit.unit))), I (countE [c, a, q])], [(0, AObj.arr 25 ((i64T).pair ((i64T).slice.pair ((i64T).slice.pair Ty.unit))) 0 false [(t1, [c, a, b], x, PUnit.unit), (t2, [c, p, q], y, PUnit.unit)]), (1, AObj.arr 9 Ty.str 0 false [[120], [121]])])
                                    else some (AEnd.ret [(AV.d Ty.str [122]).pr ((I t1).pr ((AV.os 2 0).pr (AV.d Ty.unit PUnit.unit))), I 0], [(0, AObj.arr 25 ((i64T).pair ((i64T).slice.pair ((i64T).slice.pair Ty.unit))) 0 false [(t1, [c, a, b], x, PUnit.unit), (t2, [c, p, q], y, PUnit.unit)]), (1, AObj.arr 9 Ty.str 0 false [[120], [121]]), (2, AObj.arr 3 (i64T) 0 false [c, a, q])])
                  else 
                    bif t1 != 1 then some (AEnd.ret [(AV.d Ty.str []).pr ((I 0).pr (AV.nils.pr (AV.d Ty.unit PUnit.unit))), I 4], [(0, AObj.arr 25 ((i64T).pair ((i64T).slice.pair ((i64T).slice.pair Ty.unit))) 0 false [(t1, [c, a, b], x, PUnit.unit), (t2, [c, p, q], y, PUnit.unit)]), (1, AObj.arr 9 Ty.str 0 false [[120], [121]])])
                    else 
                      bif t2 != 1 then some (AEnd.ret [(AV.d Ty.str []).pr ((I 0).pr (AV.nils.pr (AV.d Ty.unit PUnit.unit))), I 4], [(0, AObj.arr 25 ((i64T).pair ((i64T).slice.pair ((i64T).slice.pair Ty.unit))) 0 false [(t1, [c, a, b], x, PUnit.unit), (t2, [c, p, q], y, PUnit.unit)]), (1, AObj.arr 9 Ty.str 0 false [[120], [121]])])
                      else 
                        bif !b == p then some (AEnd.ret [(AV.d Ty.str []).pr ((I 0).pr (AV.nils.pr (AV.d Ty.unit PUnit.unit))), I 4], [(0, AObj.arr 25 ((i64T).pair ((i64T).slice.pair ((i64T).slice.pair Ty.unit))) 0 false [(t1, [c, a, b], x, PUnit.unit), (t2, [c, p, q], y, PUnit.unit)]), (1, AObj.arr 9 Ty.str 0 false [[120], [121]])])
                        else 
                          bif countE [c] != 0 then 
                            bif countE [c] != 0 then none
                            else 
                              bif countE [a, q] != 0 then some (AEnd.ret [(AV.d Ty.str []).pr ((I 0).pr (AV.nils.pr (AV.d Ty.unit PUnit.unit))), I (countE [a, q])], [(0, AObj.arr 25 ((i64T).pair ((i64T).slice.pair ((i64T).slice.pair Ty.unit))) 0 false [(t1, [c, a, b], x, PUnit.unit), (t2, [c, p, q], y, PUnit.unit)]), (1, AObj.arr 9 Ty.str 0 false [[120], [121]])])
                              else some (AEnd.ret [(AV.d Ty.str [122]).pr ((I t1).pr ((AV.os 2 0).pr (AV.d Ty.unit PUnit.unit))), I 0], [(0, AObj.arr 25 ((i64T).pair ((i64T).slice.pair ((i64T).slice.pair Ty.unit))) 0 false [(t1, [c, a, b], x, PUnit.unit), (t2, [c, p, q], y, PUnit.unit)]), (1, AObj.arr 9 Ty.str 0 false [[120], [121]]), (2, AObj.arr 3 (i64T) 0 false [a, q])])
                          else 
                            bif countE [c] != 0 then 
                              bif countE [c] != 0 then none
                              else 
                                bif countE [a, q] != 0 then some (AEnd.ret [(AV.d Ty.str []).pr ((I 0).pr (AV.nils.pr (AV.d Ty.unit PUnit.unit))), I (countE [a, q])], [(0, AObj.arr 25 ((i64T).pair ((i64T).slice.pair ((i64T).slice.pair Ty.unit))) 0 false [(t1, [c, a, b], x, PUnit.unit), (t2, [c, p, q], y, PUnit.unit)]), (1, AObj.arr 9 Ty.str 0 false [[120], [121]])])
                                else some (AEnd.ret [(AV.d Ty.str [122]).pr ((I t1).pr ((AV.os 2 0).pr (AV.d Ty.unit PUnit.unit))), I 0], [(0, AObj.arr 25 ((i64T).pair ((i64T).slice.pair ((i64T).slice.pair Ty.unit))) 0 false [(t1, [c, a, b], x, PUnit.unit), (t2, [c, p, q], y, PUnit.unit)]), (1, AObj.arr 9 Ty.str 0 false [[120], [121]]), (2, AObj.arr 3 (i64T) 0 false [a, q])])
                            else 
                              bif c == 1 then 
                                bif countE [c] != 0 then 
                                  bif countE [c] != 0 then none
                                  else 
                                    bif countE [a, q] != 0 then some (AEnd.ret [(AV.d Ty.str []).pr ((I 0).pr (AV.nils.pr (AV.d Ty.unit PUnit.unit))), I (countE [a, q])], [(0, AObj.arr 25 ((i64T).pair ((i64T).slice.pair ((i64T).slice.pair Ty.unit))) 0 false [(t1, [c, a, b], x, PUnit.unit), (t2, [c, p, q], y, PUnit.unit)]), (1, AObj.arr 9 Ty.str 0 false [[120], [121]])])
                                    else some (AEnd.ret [(AV.d Ty.str [122]).pr ((I t1).pr ((AV.os 2 0).pr (AV.d Ty.unit PUnit.unit))), I 0], [(0, AObj.arr 25 ((i64T).pair ((i64T).slice.pair ((i64T).slice.pair Ty.unit))) 0 false [(t1, [c, a, b], x, PUnit.unit), (t2, [c, p, q], y, PUnit.unit)]), (1, AObj.arr 9 Ty.str 0 false [[120], [121]]), (2, AObj.arr 3 (i64T) 0 false [a, q])])
                                else 
                                  bif countE [c, a, q] != 0 then some (AEnd.ret [(AV.d Ty.str []).pr ((I 0).pr (AV.nils.pr (AV.d Ty.unit PUnit.unit))), I (countE [c, a, q])], [(0, AObj.arr 25 ((i64T).pair ((i64T).slice.pair ((i64T).slice.pair Ty.unit))) 0 false [(t1, [c, a, b], x, PUnit.unit), (t2, [c, p, q], y, PUnit.unit)]), (1, AObj.arr 9 Ty.str 0 false [[120], [121]])])
                                  else some (AEnd.ret [(AV.d Ty.str [122]).pr ((I t1).pr ((AV.os 2 0).pr (AV.d Ty.unit PUnit.unit))), I 0], [(0, AObj.arr 25 ((i64T).pair ((i64T).slice.pair ((i64T).slice.pair Ty.unit))) 0 false [(t1, [c, a, b], x, PUnit.unit), (t2, [c, p, q], y, PUnit.unit)]), (1, AObj.arr 9 Ty.str 0 false [[120], [121]]), (2, AObj.arr 3 (i64T) 0 false [c, a, q])])
                              else 
                                bif c != 1 then 
                                  bif c != c then none
                                  else 
                                    bif countE [c] != 0 then 
                                      bif countE [c] != 0 then none
                                      else 
                                        bif countE [a, q] != 0 then some (AEnd.ret [(AV.d Ty.str []).pr ((I 0).pr (AV.nils.pr (AV.d Ty.unit PUnit.unit))), I (countE [a, q])], [(0, AObj.arr 25 ((i64T).pair ((i64T).slice.pair ((i64T).slice.pair Ty.unit))) 0 false [(t1, [c, a, b], x, PUnit.unit), (t2, [c, p, q], y, PUnit.unit)]), (1, AObj.arr 9 Ty.str 0 false [[120], [121]])])
                                        else some (AEnd.ret [(AV.d Ty.str [122]).pr ((I t1).pr ((AV.os 2 0).pr (AV.d Ty.unit PUnit.unit))), I 0], [(0, AObj.arr 25 ((i64T).pair ((i64T).slice.pair ((i64T).slice.pair Ty.unit))) 0 false [(t1, [c, a, b], x, PUnit.unit), (t2, [c, p, q], y, PUnit.unit)]), (1, AObj.arr 9 Ty.str 0 false [[120], [121]]), (2, AObj.arr 3 (i64T) 0 false [a, q])])
                                    else 
                                      bif countE [c, a, q] != 0 then some (AEnd.ret [(AV.d Ty.str []).pr ((I 0).pr (AV.nils.pr (AV.d Ty.unit PUnit.unit))), I (countE [c, a, q])], [(0, AObj.arr 25 ((i64T).pair ((i64T).slice.pair ((i64T).slice.pair Ty.unit))) 0 false [(t1, [c, a, b], x, PUnit.unit), (t2, [c, p, q], y, PUnit.unit)]), (1, AObj.arr 9 Ty.str 0 false [[120], [121]])])
                                      else some (AEnd.ret [(AV.d Ty.str [122]).pr ((I t1).pr ((AV.os 2 0).pr (AV.d Ty.unit PUnit.unit))), I 0], [(0, AObj.arr 25 ((i64T).pair ((i64T).slice.pair ((i64T).slice.pair Ty.unit))) 0 false [(t1, [c, a, b], x, PUnit.unit), (t2, [c, p, q], y, PUnit.unit)]), (1, AObj.arr 9 Ty.str 0 false [[120], [121]]), (2, AObj.arr 3 (i64T) 0 false [c, a, q])])
                                else 
                                  bif countE [c] != 0 then 
                                    bif countE [c] != 0 then none
                                    else 
                                      bif countE [a, q] != 0 then some (AEnd.ret [(AV.d Ty.str []).pr ((I 0).pr (AV.nils.pr (AV.d Ty.unit PUnit.unit))), I (countE [a, q])], [(0, AObj.arr 25 ((i64T).pair ((i64T).slice.pair ((i64T).slice.pair Ty.unit))) 0 false [(t1, [c, a, b], x, PUnit.unit), (t2, [c, p, q], y, PUnit.unit)]), (1, AObj.arr 9 Ty.str 0 false [[120], [121]])])
                                      else some (AEnd.ret [(AV.d Ty.str [122]).pr ((I t1).pr ((AV.os 2 0).pr (AV.d Ty.unit PUnit.unit))), I 0], [(0, AObj.arr 25 ((i64T).pair ((i64T).slice.pair ((i64T).slice.pair Ty.unit))) 0 false [(t1, [c, a, b], x, PUnit.unit), (t2, [c, p, q], y, PUnit.unit)]), (1, AObj.arr 9 Ty.str 0 false [[120], [121]]), (2, AObj.arr 3 (i64T) 0 false [a, q])])
                                  else 
                                    bif countE [c, a, q] != 0 then some (AEnd.ret [(AV.d Ty.str []).pr ((I 0).pr (AV.nils.pr (AV.d Ty.unit PUnit.unit))), I (countE [c, a, q])], [(0, AObj.arr 25 ((i64T).pair ((i64T).slice.pair ((i64T).slice.pair Ty.unit))) 0 false [(t1, [c, a, b], x, PUnit.unit), (t2, [c, p, q], y, PUnit.unit)]), (1, AObj.arr 9 Ty.str 0 false [[120], [121]])])
                                    else some (AEnd.ret [(AV.d Ty.str [122]).pr ((I t1).pr ((AV.os 2 0).pr (AV.d Ty.unit PUnit.unit))), I 0], [(0, AObj.arr 25 ((i64T).pair ((i64T).slice.pair ((i64T).slice.pair Ty.unit))) 0 false [(t1, [c, a, b], x, PUnit.unit), (t2, [c, p, q], y, PUnit.unit)]), (1, AObj.arr 9 Ty.str 0 false [[120], [121]]), (2, AObj.arr 3 (i64T) 0 false [c, a, q])])
      else none
  else none := by kernel_rfl
theorem countE_head {c a b : Int} (h : countE [c, a, b] = 0) : countE [c] = 0 := by
  obtain ⟨h1, _, h3, _⟩ := count_ok h
  have hc := h1 c (by simp)
  have ha := h1 a (by simp)
  have hb := h1 b (by simp)
  have e : prodI [c, a, b] = c * a * b := by show 1 * c * a * b = _; rw [Int.one_mul]
  have g1 := mul_le_self hc ha
  have g2 := mul_le_self g1.2.2 hb
  refine (countE_mk (xs := [c]) (fun v hv => ?_) (by simp) ?_).1
  · have : v = c := by simpa using hv
    omega
  · show 1 * c ≤ 65536
    rw [Int.one_mul]
    omega
/-- the error with which a product of two rows of matrices begins -/
def bgnE3 (t1 c a b : Int) (x : List Int) (t2 p q : Int) (y : List Int) : Int := bif tenE t1 [c, a, b] x != 0 then 1 else bif tenE t2 [c, p, q] y != 0 then 1 else bif t1 != 1 then 4 else bif t2 != 1 then 4 else bif !b == p then 4 else countE [c, a, q]
def bgnR3 (t1 c a b : Int) (x : List Int) (t2 p q : Int) (y : List Int) : Option (AEnd × LHp) := bif bgnE3 t1 c a b x t2 p q y != 0 then some (.ret [zeroV, I (bgnE3 t1 c a b x t2 p q y)], hpL false t1 [c, a, b] x t2 [c, p, q] y) else some (.ret [(AV.d Ty.str [122]).pr ((I t1).pr ((AV.os 2 0).pr (AV.d Ty.unit PUnit.unit))), I 0], hpL false t1 [c, a, b] x t2 [c, p, q] y ++ [(2, .arr 3 i64T 0 false [c, a, q])])
theorem bgb_run {t1 c a b t2 p q : Int} {x y : List Int} (h1 : x.length ≤ maxLen) (h2 : y.length ≤ maxLen) : runC g175 Tryz.f39 6 [(3, [2, 4, 6, 9, 10, 11])] [nodeA strMM [] [122] (.os 1 0) .nils, .os 0 0] (hpL false t1 [c, a, b] x t2 [c, p, q] y) ah = bgnR3 t1 c a b x t2 p q y := by
  rw [bgb_eq, decide_eq_true (show 3 ≤ 9223372036854775807 ∧ x.length ≤ 9223372036854775807 from ⟨by decide, h1⟩), decide_eq_true (show 3 ≤ 9223372036854775807 ∧ y.length ≤ 9223372036854775807 from ⟨by decide, h2⟩)]
  unfold bgnR3 bgnE3
  cases e1 : tenE t1 [c, a, b] x != 0 with
  | true => rfl
  | false =>
    cases e2 : tenE t2 [c, p, q] y != 0 with
    | true => rfl
    | false =>
      obtain ⟨n1, n2, _⟩ := ten_ok (show tenE t1 [c, a, b] x = 0 by simpa using e1)
      obtain ⟨m1, m2, _⟩ := ten_ok (show tenE t2 [c, p, q] y = 0 by simpa using e2)
      rw [n1, n2, m1, m2, countE_head n2]
      have hcc : (c != c) = false := bne_self_eq_false c
      rw [hcc]
      cases hc1 : c == 1 with
      | true =>
        cases t1 == 6 <;> cases t1 != 1 <;> cases t2 != 1 <;> cases !b == p <;> first | rfl | (cases h : countE [c, a, q] != 0 <;> simp only [cond_true, cond_false, Bool.not_true, bne_self_eq_false, h] <;> rfl)
      | false =>
        have hne : (c != 1) = true := by unfold bne; rw [hc1]; rfl
        rw [hne]
        cases t1 == 6 <;> cases t1 != 1 <;> cases t2 != 1 <;> cases !b == p <;> first | rfl | (cases h : countE [c, a, q] != 0 <;> simp only [cond_true, cond_false, Bool.not_true, bne_self_eq_false, h] <;> rfl)
def bgbT : List AV → LHp → Tq
  | [n, .os 0 0], [(0, .arr 25 ((.pair (.int .i64) (.pair (.slice (.int .i64)) (.pair (.slice (.int .i64)) .unit)))) 0 false [(t1, [c, a, b], x, ()), (t2, [c2, p, q], y, ())]), (1, .arr 9 .str 0 false ins)] =>
    (match nodeP n with
    | some (op, nm, out, .os 1 0, .nils) => gate (decide (op = strMM) && decide (nm = []) && decide (out = [122]) && decide (ins = [[120], [121]]))
        (.br (decide (c2 = c ∧ x.length ≤ maxLen ∧ y.length ≤ maxLen)) (.br (bgnE3 t1 c a b x t2 p q y != 0) (.leaf (.ret [zeroV, I (bgnE3 t1 c a b x t2 p q y)]) (hpL false t1 [c, a, b] x t2 [c, p, q] y)) (.leaf (.ret [(AV.d Ty.str [122]).pr ((I t1).pr ((AV.os 2 0).pr (AV.d Ty.unit PUnit.unit))), I 0]) (hpL false t1 [c, a, b] x t2 [c, p, q] y ++ [(2, .arr 3 i64T 0 false [c, a, q])]))) .no)
    | _ => .no)
  | _, _ => .no
theorem bgbT_ok : FnE.OK e0.P e0.gam 39 (treeE bgbT) := by
  have h1 : FnE.OK e0.P e0.gam 39 (execFnC g175 Tryz.f39 6 [(3, [2, 4, 6, 9, 10, 11])]) := y39_ok
  refine ⟨fun _ _ _ => Tq.eq _ _, fun args hs ae hs' h => ?_⟩
  have h' : (bgbT args hs).run ah = some (ae, hs') := h
  clear h
  unfold bgbT at h'
  split at h'
  · split at h'
    · rename_i hn
      rw [nodeP_some hn]
      obtain ⟨hb, h2⟩ := gate_run h'
      clear h'
      simp only [Bool.and_eq_true, decide_eq_true_eq] at hb
      obtain ⟨⟨⟨b1, b2⟩, b3⟩, b4⟩ := hb
      subst b1 b2 b3 b4
      obtain ⟨hl, h3⟩ := Tq.br_no h2
      obtain ⟨l0, l1, l2⟩ := of_decide_eq_true hl
      subst l0
      exact h1.okC ((bgb_run l1 l2).trans h3)
    · cases h'
  · cases h'
end Go.Proofs.XGT
