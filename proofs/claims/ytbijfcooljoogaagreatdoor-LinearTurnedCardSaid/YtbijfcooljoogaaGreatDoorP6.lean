/- view.Read of a views of rank 1 and 2: run. -/
import Derived.Test.YtbijfcooljoogaaGreatDoorP2
import Derived.Test.YtbijfcooljoogaaGreatDoorWH
import Derived.Test.YtbijfcooljoogaaGreatDoorP3

namespace Go.Proofs.XGT
open Go.Vm Go
set_option maxRecDepth 100000
set_option maxHeartbeats 4000000
noncomputable def C_rea : Code := codeOf Tryz.f79
noncomputable def cf_rea : Cfg := ⟨26, 5, 3, [(5, [0, 1, 2, 3, 4, 5, 6, 14, 15, 16, 17, 18, 19, 20, 21, 22, 23, 24])], true⟩
noncomputable def C_pla : Code := codeOf Tryz.f132
noncomputable def cf_pla : Cfg := ⟨63, 6, 10, [(2, [0, 1, 3, 4]), (4, [0, 1, 3, 4, 5])], true⟩
noncomputable def gV (F : FnE) : Env := g184.add 132 F
def vwA (off : Int) (a b : Nat) : AV := .pr (I off) (.pr (.os a 0) (.pr (.os b 0) (.d .unit ())))
def hpV1 (n s : Int) (l : List Int) : LHp := [(0, .arr 2 i64T 0 false l), (1, .arr 3 i64T 0 false [s]), (2, .arr 3 i64T 0 false [n])]
theorem rea_eqH (hl : Hl) (F : FnE) (off n s : Int) (l : List Int) : runQ (gV F) Tryz.f79 5 [(5, [0, 1, 2, 3, 4, 5, 6, 14, 15, 16, 17, 18, 19, 20, 21, 22, 23, 24])] hl [vwA off 2 1, .os 0 0] (hpV1 n s l) ah =
  bif countE [n] == 0 then 
    bif decide (off ≥ 0) then 
      bif decide (off < 65536) then 
        bif decide (s < 0) then some (AEnd.ret [AV.nils, I 1], [(0, AObj.arr 2 (i64T) 0 false l), (1, AObj.arr 3 (i64T) 0 false [s]), (2, AObj.arr 3 (i64T) 0 false [n])])
        else 
          bif decide (s > 65536) then some (AEnd.ret [AV.nils, I 1], [(0, AObj.arr 2 (i64T) 0 false l), (1, AObj.arr 3 (i64T) 0 false [s]), (2, AObj.arr 3 (i64T) 0 false [n])])
          else hl (cL (cR (cL (cR (cR (cR C_rea)))))) _ { fr := mkFr 5 [(0, (I off).pr ((AV.os 2 0).pr ((AV.os 1 0).pr (AV.d Ty.unit PUnit.unit)))), (1, AV.os 0 0), (2, AV.op 3 [] 0), (3, AV.op 4 [] 0), (4, AV.op 5 [] 0), (5, AV.op 6 [] 0), (6, AV.op 9 [] 0), (8, (I off).pr ((AV.os 2 0).pr ((AV.os 1 0).pr (AV.d Ty.unit PUnit.unit)))), (9, B true), (10, B false), (11, (I off).pr ((AV.os 2 0).pr ((AV.os 1 0).pr (AV.d Ty.unit PUnit.unit)))), (12, AV.fn (Fn.func 132) [] [AV.op 10 [] 0])], hp := [(1, AObj.arr 3 (i64T) 0 false [s]), (2, AObj.arr 3 (i64T) 0 false [n]), (10, AObj.box ((I off).pr ((AV.os 2 0).pr ((AV.os 1 0).pr (AV.d Ty.unit PUnit.unit))))), (9, AObj.box AV.nils), (1, AObj.arr 3 (i64T) 0 false [s]), (2, AObj.arr 3 (i64T) 0 false [n]), (6, AObj.box (I 0)), (5, AObj.box AV.nils), (4, AObj.box (AV.os 0 0)), (3, AObj.box ((I off).pr ((AV.os 2 0).pr ((AV.os 1 0).pr (AV.d Ty.unit PUnit.unit))))), (0, AObj.arr 2 (i64T) 0 false l), (1, AObj.arr 3 (i64T) 0 false [s]), (2, AObj.arr 3 (i64T) 0 false [n])], nx := 13 } (blkK 0 (seqQ (gV F) cf_rea hl (cR (cR (cR (cR C_rea)))) (endC Tryz.prog 3 Tryz.f79.results.toList ah)))
      else some (AEnd.ret [AV.nils, I 1], [(0, AObj.arr 2 (i64T) 0 false l), (1, AObj.arr 3 (i64T) 0 false [s]), (2, AObj.arr 3 (i64T) 0 false [n])])
    else some (AEnd.ret [AV.nils, I 1], [(0, AObj.arr 2 (i64T) 0 false l), (1, AObj.arr 3 (i64T) 0 false [s]), (2, AObj.arr 3 (i64T) 0 false [n])])
  else some (AEnd.ret [AV.nils, I 1], [(0, AObj.arr 2 (i64T) 0 false l), (1, AObj.arr 3 (i64T) 0 false [s]), (2, AObj.arr 3 (i64T) 0 false [n])]) := by kernel_rfl
theorem rea_eq (F : FnE) (off n s : Int) (l : List Int) : runC (gV F) Tryz.f79 5 [(5, [0, 1, 2, 3, 4, 5, 6, 14, 15, 16, 17, 18, 19, 20, 21, 22, 23, 24])] [vwA off 2 1, .os 0 0] (hpV1 n s l) ah =
  bif countE [n] == 0 then 
    bif decide (off ≥ 0) then 
      bif decide (off < 65536) then 
        bif decide (s < 0) then some (AEnd.ret [AV.nils, I 1], [(0, AObj.arr 2 (i64T) 0 false l), (1, AObj.arr 3 (i64T) 0 false [s]), (2, AObj.arr 3 (i64T) 0 false [n])])
        else 
          bif decide (s > 65536) then some (AEnd.ret [AV.nils, I 1], [(0, AObj.arr 2 (i64T) 0 false l), (1, AObj.arr 3 (i64T) 0 false [s]), (2, AObj.arr 3 (i64T) 0 false [n])])
          else (rfp (gV F) cf_rea) (cL (cR (cL (cR (cR (cR C_rea)))))) _ { fr := mkFr 5 [(0, (I off).pr ((AV.os 2 0).pr ((AV.os 1 0).pr (AV.d Ty.unit PUnit.unit)))), (1, AV.os 0 0), (2, AV.op 3 [] 0), (3, AV.op 4 [] 0), (4, AV.op 5 [] 0), (5, AV.op 6 [] 0), (6, AV.op 9 [] 0), (8, (I off).pr ((AV.os 2 0).pr ((AV.os 1 0).pr (AV.d Ty.unit PUnit.unit)))), (9, B true), (10, B false), (11, (I off).pr ((AV.os 2 0).pr ((AV.os 1 0).pr (AV.d Ty.unit PUnit.unit)))), (12, AV.fn (Fn.func 132) [] [AV.op 10 [] 0])], hp := [(1, AObj.arr 3 (i64T) 0 false [s]), (2, AObj.arr 3 (i64T) 0 false [n]), (10, AObj.box ((I off).pr ((AV.os 2 0).pr ((AV.os 1 0).pr (AV.d Ty.unit PUnit.unit))))), (9, AObj.box AV.nils), (1, AObj.arr 3 (i64T) 0 false [s]), (2, AObj.arr 3 (i64T) 0 false [n]), (6, AObj.box (I 0)), (5, AObj.box AV.nils), (4, AObj.box (AV.os 0 0)), (3, AObj.box ((I off).pr ((AV.os 2 0).pr ((AV.os 1 0).pr (AV.d Ty.unit PUnit.unit))))), (0, AObj.arr 2 (i64T) 0 false l), (1, AObj.arr 3 (i64T) 0 false [s]), (2, AObj.arr 3 (i64T) 0 false [n])], nx := 13 } (blkK 0 (seqQ (gV F) cf_rea (rfp (gV F) cf_rea) (cR (cR (cR (cR C_rea)))) (endC Tryz.prog 3 Tryz.f79.results.toList ah)))
      else some (AEnd.ret [AV.nils, I 1], [(0, AObj.arr 2 (i64T) 0 false l), (1, AObj.arr 3 (i64T) 0 false [s]), (2, AObj.arr 3 (i64T) 0 false [n])])
    else some (AEnd.ret [AV.nils, I 1], [(0, AObj.arr 2 (i64T) 0 false l), (1, AObj.arr 3 (i64T) 0 false [s]), (2, AObj.arr 3 (i64T) 0 false [n])])
  else some (AEnd.ret [AV.nils, I 1], [(0, AObj.arr 2 (i64T) 0 false l), (1, AObj.arr 3 (i64T) 0 false [s]), (2, AObj.arr 3 (i64T) 0 false [n])]) := runQ_runC.trans (rea_eqH (rfp (gV F) cf_rea) F off n s l)
def frV (off : Int) : Tr := mkFr 5 [(0, vwA off 2 1), (1, .os 0 0), (2, .op 3 [] 0), (3, .op 4 [] 0), (4, .op 5 [] 0), (5, .op 6 [] 0), (6, .op 9 [] 0), (8, vwA off 2 1), (9, B true), (10, B false), (11, vwA off 2 1), (12, .fn (.func 132) [] [.op 10 [] 0])]
def hpVx (off : Int) (ds ss l : List Int) : LHp := [(1, .arr 3 i64T 0 false ss), (2, .arr 3 i64T 0 false ds), (10, .box (vwA off 2 1)), (9, .box .nils), (1, .arr 3 i64T 0 false ss), (2, .arr 3 i64T 0 false ds), (6, .box (I 0)), (5, .box .nils), (4, .box (.os 0 0)), (3, .box (vwA off 2 1)), (0, .arr 2 i64T 0 false l), (1, .arr 3 i64T 0 false ss), (2, .arr 3 i64T 0 false ds)]
def rfLv (cf : Cfg) : Code → LoopC
  | .rangeFunc _ ps a b => ⟨cf.depth, ps, a, b, cf.n⟩
  | _ => ⟨0, #[], .skip, .skip, 0⟩
noncomputable def LC_rea : LoopC := rfLv cf_rea (cL (cR (cL (cR (cR (cR C_rea))))))
def frecV (off : Int) : List (Nat × AV) := [(0, vwA off 8 7), (1, .os 6 0), (2, .op 5 [] 0), (3, .op 4 [] 0), (4, .op 3 [] 0), (5, .op 2 [] 0), (6, .op 1 [] 0)]
noncomputable def hpYV (off : Int) (ds ss l : List Int) (o : AV) : LHp := [(0, .box (vwA off 8 7)), (1, .box o), (2, .box (I 0)), (3, .box .nils), (4, .box (.os 6 0)), (5, .box (vwA off 8 7)), (6, .arr 2 i64T 0 false l), (7, .arr 3 i64T 0 false ss), (8, .arr 3 i64T 0 false ds), (9, .rc (.loop LC_rea (frecV off) .ready))]
theorem pla_eq1H (hl : Hl) (off n s : Int) (l : List Int) : runH g163 Tryz.f132 6 [(2, [0, 1, 3, 4]), (4, [0, 1, 3, 4, 5])] [2] hl [.ref 9, .op 0 [] 0] (hpYV off [n] [s] l .nils) ah =
  hl (cL (cL (cR (cR C_pla)))) _ { fr := mkFr 6 [(0, AV.ref 9), (1, AV.op 0 [] 0), (3, AV.os 10 0), (4, I off)], hp := [(0, AObj.box ((I off).pr ((AV.os 8 0).pr ((AV.os 7 0).pr (AV.d Ty.unit PUnit.unit))))), (8, AObj.arr 3 (i64T) 0 false [n]), (7, AObj.arr 3 (i64T) 0 false [s]), (1, AObj.box AV.nils), (2, AObj.box (I 0)), (3, AObj.box AV.nils), (4, AObj.box (AV.os 6 0)), (6, AObj.arr 2 (i64T) 0 false l), (5, AObj.box ((I off).pr ((AV.os 8 0).pr ((AV.os 7 0).pr (AV.d Ty.unit PUnit.unit))))), (9, AObj.rc (ARec.loop LC_rea [(0, (I off).pr ((AV.os 8 0).pr ((AV.os 7 0).pr (AV.d Ty.unit PUnit.unit)))), (1, AV.os 6 0), (2, AV.op 5 [] 0), (3, AV.op 4 [] 0), (4, AV.op 3 [] 0), (5, AV.op 2 [] 0), (6, AV.op 1 [] 0)] LSta.ready)), (10, AObj.arr 3 (i64T) 0 false [0])], nx := 21 } (blkK 0 (endC Tryz.prog 10 Tryz.f132.results.toList ah)) := by kernel_rfl
theorem pla_eq1 (off n s : Int) (l : List Int) : runC g163 Tryz.f132 6 [(2, [0, 1, 3, 4]), (4, [0, 1, 3, 4, 5])] [.ref 9, .op 0 [] 0] (hpYV off [n] [s] l .nils) ah =
  (hlp g163 cf_pla) (cL (cL (cR (cR C_pla)))) _ { fr := mkFr 6 [(0, AV.ref 9), (1, AV.op 0 [] 0), (3, AV.os 10 0), (4, I off)], hp := [(0, AObj.box ((I off).pr ((AV.os 8 0).pr ((AV.os 7 0).pr (AV.d Ty.unit PUnit.unit))))), (8, AObj.arr 3 (i64T) 0 false [n]), (7, AObj.arr 3 (i64T) 0 false [s]), (1, AObj.box AV.nils), (2, AObj.box (I 0)), (3, AObj.box AV.nils), (4, AObj.box (AV.os 6 0)), (6, AObj.arr 2 (i64T) 0 false l), (5, AObj.box ((I off).pr ((AV.os 8 0).pr ((AV.os 7 0).pr (AV.d Ty.unit PUnit.unit))))), (9, AObj.rc (ARec.loop LC_rea [(0, (I off).pr ((AV.os 8 0).pr ((AV.os 7 0).pr (AV.d Ty.unit PUnit.unit)))), (1, AV.os 6 0), (2, AV.op 5 [] 0), (3, AV.op 4 [] 0), (4, AV.op 3 [] 0), (5, AV.op 2 [] 0), (6, AV.op 1 [] 0)] LSta.ready)), (10, AObj.arr 3 (i64T) 0 false [0])], nx := 21 } (blkK 0 (endC Tryz.prog 10 Tryz.f132.results.toList ah)) := runH_runC.trans (pla_eq1H (hlp g163 cf_pla) off n s l)
theorem pla_eq2H (hl : Hl) (off n m s u : Int) (l : List Int) : runH g163 Tryz.f132 6 [(2, [0, 1, 3, 4]), (4, [0, 1, 3, 4, 5])] [2] hl [.ref 9, .op 0 [] 0] (hpYV off [n, m] [s, u] l .nils) ah =
  hl (cL (cL (cR (cR C_pla)))) _ { fr := mkFr 6 [(0, AV.ref 9), (1, AV.op 0 [] 0), (3, AV.os 10 0), (4, I off)], hp := [(0, AObj.box ((I off).pr ((AV.os 8 0).pr ((AV.os 7 0).pr (AV.d Ty.unit PUnit.unit))))), (8, AObj.arr 3 (i64T) 0 false [n, m]), (7, AObj.arr 3 (i64T) 0 false [s, u]), (1, AObj.box AV.nils), (2, AObj.box (I 0)), (3, AObj.box AV.nils), (4, AObj.box (AV.os 6 0)), (6, AObj.arr 2 (i64T) 0 false l), (5, AObj.box ((I off).pr ((AV.os 8 0).pr ((AV.os 7 0).pr (AV.d Ty.unit PUnit.unit))))), (9, AObj.rc (ARec.loop LC_rea [(0, (I off).pr ((AV.os 8 0).pr ((AV.os 7 0).pr (AV.d Ty.unit PUnit.unit)))), (1, AV.os 6 0), (2, AV.op 5 [] 0), (3, AV.op 4 [] 0), (4, AV.op 3 [] 0), (5, AV.op 2 [] 0), (6, AV.op 1 [] 0)] LSta.ready)), (10, AObj.arr 3 (i64T) 0 false [0, 0])], nx := 21 } (blkK 0 (endC Tryz.prog 10 Tryz.f132.results.toList ah)) := by kernel_rfl
theorem pla_eq2 (off n m s u : Int) (l : List Int) : runC g163 Tryz.f132 6 [(2, [0, 1, 3, 4]), (4, [0, 1, 3, 4, 5])] [.ref 9, .op 0 [] 0] (hpYV off [n, m] [s, u] l .nils) ah =
  (hlp g163 cf_pla) (cL (cL (cR (cR C_pla)))) _ { fr := mkFr 6 [(0, AV.ref 9), (1, AV.op 0 [] 0), (3, AV.os 10 0), (4, I off)], hp := [(0, AObj.box ((I off).pr ((AV.os 8 0).pr ((AV.os 7 0).pr (AV.d Ty.unit PUnit.unit))))), (8, AObj.arr 3 (i64T) 0 false [n, m]), (7, AObj.arr 3 (i64T) 0 false [s, u]), (1, AObj.box AV.nils), (2, AObj.box (I 0)), (3, AObj.box AV.nils), (4, AObj.box (AV.os 6 0)), (6, AObj.arr 2 (i64T) 0 false l), (5, AObj.box ((I off).pr ((AV.os 8 0).pr ((AV.os 7 0).pr (AV.d Ty.unit PUnit.unit))))), (9, AObj.rc (ARec.loop LC_rea [(0, (I off).pr ((AV.os 8 0).pr ((AV.os 7 0).pr (AV.d Ty.unit PUnit.unit)))), (1, AV.os 6 0), (2, AV.op 5 [] 0), (3, AV.op 4 [] 0), (4, AV.op 3 [] 0), (5, AV.op 2 [] 0), (6, AV.op 1 [] 0)] LSta.ready)), (10, AObj.arr 3 (i64T) 0 false [0, 0])], nx := 21 } (blkK 0 (endC Tryz.prog 10 Tryz.f132.results.toList ah)) := runH_runC.trans (pla_eq2H (hlp g163 cf_pla) off n m s u l)
noncomputable def stW (at_ : Nat) (off : Int) (ds ss l A : List Int) (p : Int) (nx : Nat) (o : AV) (oh : LHp) : LSt := ⟨mkFr 6 [(0, .ref 9), (1, .op 0 [] 0), (3, .os at_ 0), (4, I p)], [(0, .box (vwA off 8 7)), (8, .arr 3 i64T 0 false ds), (7, .arr 3 i64T 0 false ss), (1, .box o)] ++ oh ++ [(2, .box (I 0)), (3, .box .nils), (4, .box (.os 6 0)), (6, .arr 2 i64T 0 false l), (5, .box (vwA off 8 7)), (9, .rc (.loop LC_rea (frecV off) .ready)), (at_, .arr 3 i64T 0 false A)], nx⟩
noncomputable def stW0 (off : Int) (ds ss l A : List Int) (p : Int) : LSt := stW 10 off ds ss l A p 21 .nils []
noncomputable def stW1 (off : Int) (ds ss l A : List Int) (p : Int) (out : List Int) : LSt := stW 11 off ds ss l A p 22 (.os 10 0) [(10, .arr 2 i64T 0 false out)]
theorem w1_st0H (hl : Hl) (off w s : Int) (l : List Int) (a p : Int) (n : Nat) {R : Type} (k : AEx → LSt → Option R) : lpH g163 cf_pla [2] hl (cL (cL (cR (cR C_pla)))) (n + 1) (stW0 off [w] [s] l [a] p) k =
  bif decide (p ≥ Int.ofNat l.length) then k AEx.ret { fr := mkFr 6 [(0, AV.ref 9), (1, AV.op 0 [] 0), (3, AV.os 10 0), (4, I p), (12, AV.ref 9), (13, I p), (14, B false), (15, B true)], hp := [(1, AObj.box AV.nils), (2, AObj.box (I 1)), (3, AObj.box AV.nils), (4, AObj.box (AV.os 6 0)), (5, AObj.box ((I off).pr ((AV.os 8 0).pr ((AV.os 7 0).pr (AV.d Ty.unit PUnit.unit))))), (6, AObj.arr 2 (i64T) 0 false l), (7, AObj.arr 3 (i64T) 0 false [s]), (8, AObj.arr 3 (i64T) 0 false [w]), (9, AObj.rc (ARec.loop LC_rea [(0, (I off).pr ((AV.os 8 0).pr ((AV.os 7 0).pr (AV.d Ty.unit PUnit.unit)))), (1, AV.os 6 0), (2, AV.op 5 [] 0), (3, AV.op 4 [] 0), (4, AV.op 3 [] 0), (5, AV.op 2 [] 0), (6, AV.op 1 [] 0)] (LSta.done Jmp.ret))), (0, AObj.box ((I off).pr ((AV.os 8 0).pr ((AV.os 7 0).pr (AV.d Ty.unit PUnit.unit))))), (8, AObj.arr 3 (i64T) 0 false [w]), (7, AObj.arr 3 (i64T) 0 false [s]), (1, AObj.box AV.nils), (2, AObj.box (I 0)), (3, AObj.box AV.nils), (4, AObj.box (AV.os 6 0)), (6, AObj.arr 2 (i64T) 0 false l), (5, AObj.box ((I off).pr ((AV.os 8 0).pr ((AV.os 7 0).pr (AV.d Ty.unit PUnit.unit))))), (9, AObj.rc (ARec.loop LC_rea [(0, (I off).pr ((AV.os 8 0).pr ((AV.os 7 0).pr (AV.d Ty.unit PUnit.unit)))), (1, AV.os 6 0), (2, AV.op 5 [] 0), (3, AV.op 4 [] 0), (4, AV.op 3 [] 0), (5, AV.op 2 [] 0), (6, AV.op 1 [] 0)] LSta.ready)), (10, AObj.arr 3 (i64T) 0 false [a])], nx := 30 }
  else (idx l p).bind fun v1 =>
      (l[p.toNat]?).bind fun v2 =>
        bif decide (IntKind.i64.wrap (a + 1) < w) then lpH g163 cf_pla [2] hl (cL (cL (cR (cR C_pla)))) n { fr := mkFr 6 [(0, AV.ref 9), (1, AV.op 0 [] 0), (3, AV.os 11 0), (4, I (IntKind.i64.wrap (p + s)))], hp := [(0, AObj.box ((I off).pr ((AV.os 8 0).pr ((AV.os 7 0).pr (AV.d Ty.unit PUnit.unit))))), (8, AObj.arr 3 (i64T) 0 false [w]), (7, AObj.arr 3 (i64T) 0 false [s]), (1, AObj.box (AV.os 10 0)), (10, AObj.arr 2 (i64T) 0 false [v2]), (2, AObj.box (I 0)), (3, AObj.box AV.nils), (4, AObj.box (AV.os 6 0)), (6, AObj.arr 2 (i64T) 0 false l), (5, AObj.box ((I off).pr ((AV.os 8 0).pr ((AV.os 7 0).pr (AV.d Ty.unit PUnit.unit))))), (9, AObj.rc (ARec.loop LC_rea [(0, (I off).pr ((AV.os 8 0).pr ((AV.os 7 0).pr (AV.d Ty.unit PUnit.unit)))), (1, AV.os 6 0), (2, AV.op 5 [] 0), (3, AV.op 4 [] 0), (4, AV.op 3 [] 0), (5, AV.op 2 [] 0), (6, AV.op 1 [] 0)] LSta.ready)), (11, AObj.arr 3 (i64T) 0 false [IntKind.i64.wrap (a + 1)])], nx := 22 } k
        else k AEx.ret { fr := mkFr 6 [(0, AV.ref 9), (1, AV.op 0 [] 0), (3, AV.os 11 0), (4, I (IntKind.i64.wrap (IntKind.i64.wrap (p + s) - IntKind.i64.wrap (IntKind.i64.wrap (a + 1) * s)))), (5, I (-1)), (19, I (-1)), (20, B false), (61, I (-1)), (62, B true)], hp := [(0, AObj.box ((I off).pr ((AV.os 8 0).pr ((AV.os 7 0).pr (AV.d Ty.unit PUnit.unit))))), (8, AObj.arr 3 (i64T) 0 false [w]), (7, AObj.arr 3 (i64T) 0 false [s]), (1, AObj.box (AV.os 10 0)), (10, AObj.arr 2 (i64T) 0 false [v2]), (2, AObj.box (I 0)), (3, AObj.box AV.nils), (4, AObj.box (AV.os 6 0)), (6, AObj.arr 2 (i64T) 0 false l), (5, AObj.box ((I off).pr ((AV.os 8 0).pr ((AV.os 7 0).pr (AV.d Ty.unit PUnit.unit))))), (9, AObj.rc (ARec.loop LC_rea [(0, (I off).pr ((AV.os 8 0).pr ((AV.os 7 0).pr (AV.d Ty.unit PUnit.unit)))), (1, AV.os 6 0), (2, AV.op 5 [] 0), (3, AV.op 4 [] 0), (4, AV.op 3 [] 0), (5, AV.op 2 [] 0), (6, AV.op 1 [] 0)] LSta.ready)), (11, AObj.arr 3 (i64T) 0 false [0])], nx := 22 } := by kernel_rfl
theorem w1_st0 (off w s : Int) (l : List Int) (a p : Int) (n : Nat) {R : Type} (k : AEx → LSt → Option R) : lp g163 cf_pla (cL (cL (cR (cR C_pla)))) (n + 1) (stW0 off [w] [s] l [a] p) k =
  bif decide (p ≥ Int.ofNat l.length) then k AEx.ret { fr := mkFr 6 [(0, AV.ref 9), (1, AV.op 0 [] 0), (3, AV.os 10 0), (4, I p), (12, AV.ref 9), (13, I p), (14, B false), (15, B true)], hp := [(1, AObj.box AV.nils), (2, AObj.box (I 1)), (3, AObj.box AV.nils), (4, AObj.box (AV.os 6 0)), (5, AObj.box ((I off).pr ((AV.os 8 0).pr ((AV.os 7 0).pr (AV.d Ty.unit PUnit.unit))))), (6, AObj.arr 2 (i64T) 0 false l), (7, AObj.arr 3 (i64T) 0 false [s]), (8, AObj.arr 3 (i64T) 0 false [w]), (9, AObj.rc (ARec.loop LC_rea [(0, (I off).pr ((AV.os 8 0).pr ((AV.os 7 0).pr (AV.d Ty.unit PUnit.unit)))), (1, AV.os 6 0), (2, AV.op 5 [] 0), (3, AV.op 4 [] 0), (4, AV.op 3 [] 0), (5, AV.op 2 [] 0), (6, AV.op 1 [] 0)] (LSta.done Jmp.ret))), (0, AObj.box ((I off).pr ((AV.os 8 0).pr ((AV.os 7 0).pr (AV.d Ty.unit PUnit.unit))))), (8, AObj.arr 3 (i64T) 0 false [w]), (7, AObj.arr 3 (i64T) 0 false [s]), (1, AObj.box AV.nils), (2, AObj.box (I 0)), (3, AObj.box AV.nils), (4, AObj.box (AV.os 6 0)), (6, AObj.arr 2 (i64T) 0 false l), (5, AObj.box ((I off).pr ((AV.os 8 0).pr ((AV.os 7 0).pr (AV.d Ty.unit PUnit.unit))))), (9, AObj.rc (ARec.loop LC_rea [(0, (I off).pr ((AV.os 8 0).pr ((AV.os 7 0).pr (AV.d Ty.unit PUnit.unit)))), (1, AV.os 6 0), (2, AV.op 5 [] 0), (3, AV.op 4 [] 0), (4, AV.op 3 [] 0), (5, AV.op 2 [] 0), (6, AV.op 1 [] 0)] LSta.ready)), (10, AObj.arr 3 (i64T) 0 false [a])], nx := 30 }
  else (idx l p).bind fun v1 =>
      (l[p.toNat]?).bind fun v2 =>
        bif decide (IntKind.i64.wrap (a + 1) < w) then lp g163 cf_pla (cL (cL (cR (cR C_pla)))) n { fr := mkFr 6 [(0, AV.ref 9), (1, AV.op 0 [] 0), (3, AV.os 11 0), (4, I (IntKind.i64.wrap (p + s)))], hp := [(0, AObj.box ((I off).pr ((AV.os 8 0).pr ((AV.os 7 0).pr (AV.d Ty.unit PUnit.unit))))), (8, AObj.arr 3 (i64T) 0 false [w]), (7, AObj.arr 3 (i64T) 0 false [s]), (1, AObj.box (AV.os 10 0)), (10, AObj.arr 2 (i64T) 0 false [v2]), (2, AObj.box (I 0)), (3, AObj.box AV.nils), (4, AObj.box (AV.os 6 0)), (6, AObj.arr 2 (i64T) 0 false l), (5, AObj.box ((I off).pr ((AV.os 8 0).pr ((AV.os 7 0).pr (AV.d Ty.unit PUnit.unit))))), (9, AObj.rc (ARec.loop LC_rea [(0, (I off).pr ((AV.os 8 0).pr ((AV.os 7 0).pr (AV.d Ty.unit PUnit.unit)))), (1, AV.os 6 0), (2, AV.op 5 [] 0), (3, AV.op 4 [] 0), (4, AV.op 3 [] 0), (5, AV.op 2 [] 0), (6, AV.op 1 [] 0)] LSta.ready)), (11, AObj.arr 3 (i64T) 0 false [IntKind.i64.wrap (a + 1)])], nx := 22 } k
        else k AEx.ret { fr := mkFr 6 [(0, AV.ref 9), (1, AV.op 0 [] 0), (3, AV.os 11 0), (4, I (IntKind.i64.wrap (IntKind.i64.wrap (p + s) - IntKind.i64.wrap (IntKind.i64.wrap (a + 1) * s)))), (5, I (-1)), (19, I (-1)), (20, B false), (61, I (-1)), (62, B true)], hp := [(0, AObj.box ((I off).pr ((AV.os 8 0).pr ((AV.os 7 0).pr (AV.d Ty.unit PUnit.unit))))), (8, AObj.arr 3 (i64T) 0 false [w]), (7, AObj.arr 3 (i64T) 0 false [s]), (1, AObj.box (AV.os 10 0)), (10, AObj.arr 2 (i64T) 0 false [v2]), (2, AObj.box (I 0)), (3, AObj.box AV.nils), (4, AObj.box (AV.os 6 0)), (6, AObj.arr 2 (i64T) 0 false l), (5, AObj.box ((I off).pr ((AV.os 8 0).pr ((AV.os 7 0).pr (AV.d Ty.unit PUnit.unit))))), (9, AObj.rc (ARec.loop LC_rea [(0, (I off).pr ((AV.os 8 0).pr ((AV.os 7 0).pr (AV.d Ty.unit PUnit.unit)))), (1, AV.os 6 0), (2, AV.op 5 [] 0), (3, AV.op 4 [] 0), (4, AV.op 3 [] 0), (5, AV.op 2 [] 0), (6, AV.op 1 [] 0)] LSta.ready)), (11, AObj.arr 3 (i64T) 0 false [0])], nx := 22 } := by
  have h := w1_st0H (hlp g163 cf_pla) off w s l a p n k
  simp only [lpH_lp] at h
  exact h
theorem w1_st1H (hl : Hl) (off w s : Int) (l : List Int) (a p o : Int) (out : List Int) (n : Nat) {R : Type} (k : AEx → LSt → Option R) : lpH g163 cf_pla [2] hl (cL (cL (cR (cR C_pla)))) (n + 1) (stW1 off [w] [s] l [a] p (o :: out)) k =
  bif decide (p ≥ Int.ofNat l.length) then k AEx.ret { fr := mkFr 6 [(0, AV.ref 9), (1, AV.op 0 [] 0), (3, AV.os 11 0), (4, I p), (12, AV.ref 9), (13, I p), (14, B false), (15, B true)], hp := [(10, AObj.arr 2 (i64T) 0 false (o :: out)), (1, AObj.box (AV.os 10 0)), (2, AObj.box (I 1)), (3, AObj.box AV.nils), (4, AObj.box (AV.os 6 0)), (5, AObj.box ((I off).pr ((AV.os 8 0).pr ((AV.os 7 0).pr (AV.d Ty.unit PUnit.unit))))), (6, AObj.arr 2 (i64T) 0 false l), (7, AObj.arr 3 (i64T) 0 false [s]), (8, AObj.arr 3 (i64T) 0 false [w]), (9, AObj.rc (ARec.loop LC_rea [(0, (I off).pr ((AV.os 8 0).pr ((AV.os 7 0).pr (AV.d Ty.unit PUnit.unit)))), (1, AV.os 6 0), (2, AV.op 5 [] 0), (3, AV.op 4 [] 0), (4, AV.op 3 [] 0), (5, AV.op 2 [] 0), (6, AV.op 1 [] 0)] (LSta.done Jmp.ret))), (0, AObj.box ((I off).pr ((AV.os 8 0).pr ((AV.os 7 0).pr (AV.d Ty.unit PUnit.unit))))), (8, AObj.arr 3 (i64T) 0 false [w]), (7, AObj.arr 3 (i64T) 0 false [s]), (1, AObj.box (AV.os 10 0)), (10, AObj.arr 2 (i64T) 0 false (o :: out)), (2, AObj.box (I 0)), (3, AObj.box AV.nils), (4, AObj.box (AV.os 6 0)), (6, AObj.arr 2 (i64T) 0 false l), (5, AObj.box ((I off).pr ((AV.os 8 0).pr ((AV.os 7 0).pr (AV.d Ty.unit PUnit.unit))))), (9, AObj.rc (ARec.loop LC_rea [(0, (I off).pr ((AV.os 8 0).pr ((AV.os 7 0).pr (AV.d Ty.unit PUnit.unit)))), (1, AV.os 6 0), (2, AV.op 5 [] 0), (3, AV.op 4 [] 0), (4, AV.op 3 [] 0), (5, AV.op 2 [] 0), (6, AV.op 1 [] 0)] LSta.ready)), (11, AObj.arr 3 (i64T) 0 false [a])], nx := 32 }
  else (idx l p).bind fun v1 =>
      (l[p.toNat]?).bind fun v2 =>
        (app (o :: out) [v2]).bind fun v3 =>
          bif decide (IntKind.i64.wrap (a + 1) < w) then lpH g163 cf_pla [2] hl (cL (cL (cR (cR C_pla)))) n { fr := mkFr 6 [(0, AV.ref 9), (1, AV.op 0 [] 0), (3, AV.os 11 0), (4, I (IntKind.i64.wrap (p + s)))], hp := [(0, AObj.box ((I off).pr ((AV.os 8 0).pr ((AV.os 7 0).pr (AV.d Ty.unit PUnit.unit))))), (8, AObj.arr 3 (i64T) 0 false [w]), (7, AObj.arr 3 (i64T) 0 false [s]), (1, AObj.box (AV.os 10 0)), (10, AObj.arr 2 (i64T) 0 false v3), (2, AObj.box (I 0)), (3, AObj.box AV.nils), (4, AObj.box (AV.os 6 0)), (6, AObj.arr 2 (i64T) 0 false l), (5, AObj.box ((I off).pr ((AV.os 8 0).pr ((AV.os 7 0).pr (AV.d Ty.unit PUnit.unit))))), (9, AObj.rc (ARec.loop LC_rea [(0, (I off).pr ((AV.os 8 0).pr ((AV.os 7 0).pr (AV.d Ty.unit PUnit.unit)))), (1, AV.os 6 0), (2, AV.op 5 [] 0), (3, AV.op 4 [] 0), (4, AV.op 3 [] 0), (5, AV.op 2 [] 0), (6, AV.op 1 [] 0)] LSta.ready)), (11, AObj.arr 3 (i64T) 0 false [IntKind.i64.wrap (a + 1)])], nx := 22 } k
          else k AEx.ret { fr := mkFr 6 [(0, AV.ref 9), (1, AV.op 0 [] 0), (3, AV.os 11 0), (4, I (IntKind.i64.wrap (IntKind.i64.wrap (p + s) - IntKind.i64.wrap (IntKind.i64.wrap (a + 1) * s)))), (5, I (-1)), (19, I (-1)), (20, B false), (61, I (-1)), (62, B true)], hp := [(0, AObj.box ((I off).pr ((AV.os 8 0).pr ((AV.os 7 0).pr (AV.d Ty.unit PUnit.unit))))), (8, AObj.arr 3 (i64T) 0 false [w]), (7, AObj.arr 3 (i64T) 0 false [s]), (1, AObj.box (AV.os 10 0)), (10, AObj.arr 2 (i64T) 0 false v3), (2, AObj.box (I 0)), (3, AObj.box AV.nils), (4, AObj.box (AV.os 6 0)), (6, AObj.arr 2 (i64T) 0 false l), (5, AObj.box ((I off).pr ((AV.os 8 0).pr ((AV.os 7 0).pr (AV.d Ty.unit PUnit.unit))))), (9, AObj.rc (ARec.loop LC_rea [(0, (I off).pr ((AV.os 8 0).pr ((AV.os 7 0).pr (AV.d Ty.unit PUnit.unit)))), (1, AV.os 6 0), (2, AV.op 5 [] 0), (3, AV.op 4 [] 0), (4, AV.op 3 [] 0), (5, AV.op 2 [] 0), (6, AV.op 1 [] 0)] LSta.ready)), (11, AObj.arr 3 (i64T) 0 false [0])], nx := 22 } := by kernel_rfl
theorem w1_st1 (off w s : Int) (l : List Int) (a p o : Int) (out : List Int) (n : Nat) {R : Type} (k : AEx → LSt → Option R) : lp g163 cf_pla (cL (cL (cR (cR C_pla)))) (n + 1) (stW1 off [w] [s] l [a] p (o :: out)) k =
  bif decide (p ≥ Int.ofNat l.length) then k AEx.ret { fr := mkFr 6 [(0, AV.ref 9), (1, AV.op 0 [] 0), (3, AV.os 11 0), (4, I p), (12, AV.ref 9), (13, I p), (14, B false), (15, B true)], hp := [(10, AObj.arr 2 (i64T) 0 false (o :: out)), (1, AObj.box (AV.os 10 0)), (2, AObj.box (I 1)), (3, AObj.box AV.nils), (4, AObj.box (AV.os 6 0)), (5, AObj.box ((I off).pr ((AV.os 8 0).pr ((AV.os 7 0).pr (AV.d Ty.unit PUnit.unit))))), (6, AObj.arr 2 (i64T) 0 false l), (7, AObj.arr 3 (i64T) 0 false [s]), (8, AObj.arr 3 (i64T) 0 false [w]), (9, AObj.rc (ARec.loop LC_rea [(0, (I off).pr ((AV.os 8 0).pr ((AV.os 7 0).pr (AV.d Ty.unit PUnit.unit)))), (1, AV.os 6 0), (2, AV.op 5 [] 0), (3, AV.op 4 [] 0), (4, AV.op 3 [] 0), (5, AV.op 2 [] 0), (6, AV.op 1 [] 0)] (LSta.done Jmp.ret))), (0, AObj.box ((I off).pr ((AV.os 8 0).pr ((AV.os 7 0).pr (AV.d Ty.unit PUnit.unit))))), (8, AObj.arr 3 (i64T) 0 false [w]), (7, AObj.arr 3 (i64T) 0 false [s]), (1, AObj.box (AV.os 10 0)), (10, AObj.arr 2 (i64T) 0 false (o :: out)), (2, AObj.box (I 0)), (3, AObj.box AV.nils), (4, AObj.box (AV.os 6 0)), (6, AObj.arr 2 (i64T) 0 false l), (5, AObj.box ((I off).pr ((AV.os 8 0).pr ((AV.os 7 0).pr (AV.d Ty.unit PUnit.unit))))), (9, AObj.rc (ARec.loop LC_rea [(0, (I off).pr ((AV.os 8 0).pr ((AV.os 7 0).pr (AV.d Ty.unit PUnit.unit)))), (1, AV.os 6 0), (2, AV.op 5 [] 0), (3, AV.op 4 [] 0), (4, AV.op 3 [] 0), (5, AV.op 2 [] 0), (6, AV.op 1 [] 0)] LSta.ready)), (11, AObj.arr 3 (i64T) 0 false [a])], nx := 32 }
  else (idx l p).bind fun v1 =>
      (l[p.toNat]?).bind fun v2 =>
        (app (o :: out) [v2]).bind fun v3 =>
          bif decide (IntKind.i64.wrap (a + 1) < w) then lp g163 cf_pla (cL (cL (cR (cR C_pla)))) n { fr := mkFr 6 [(0, AV.ref 9), (1, AV.op 0 [] 0), (3, AV.os 11 0), (4, I (IntKind.i64.wrap (p + s)))], hp := [(0, AObj.box ((I off).pr ((AV.os 8 0).pr ((AV.os 7 0).pr (AV.d Ty.unit PUnit.unit))))), (8, AObj.arr 3 (i64T) 0 false [w]), (7, AObj.arr 3 (i64T) 0 false [s]), (1, AObj.box (AV.os 10 0)), (10, AObj.arr 2 (i64T) 0 false v3), (2, AObj.box (I 0)), (3, AObj.box AV.nils), (4, AObj.box (AV.os 6 0)), (6, AObj.arr 2 (i64T) 0 false l), (5, AObj.box ((I off).pr ((AV.os 8 0).pr ((AV.os 7 0).pr (AV.d Ty.unit PUnit.unit))))), (9, AObj.rc (ARec.loop LC_rea [(0, (I off).pr ((AV.os 8 0).pr ((AV.os 7 0).pr (AV.d Ty.unit PUnit.unit)))), (1, AV.os 6 0), (2, AV.op 5 [] 0), (3, AV.op 4 [] 0), (4, AV.op 3 [] 0), (5, AV.op 2 [] 0), (6, AV.op 1 [] 0)] LSta.ready)), (11, AObj.arr 3 (i64T) 0 false [IntKind.i64.wrap (a + 1)])], nx := 22 } k
          else k AEx.ret { fr := mkFr 6 [(0, AV.ref 9), (1, AV.op 0 [] 0), (3, AV.os 11 0), (4, I (IntKind.i64.wrap (IntKind.i64.wrap (p + s) - IntKind.i64.wrap (IntKind.i64.wrap (a + 1) * s)))), (5, I (-1)), (19, I (-1)), (20, B false), (61, I (-1)), (62, B true)], hp := [(0, AObj.box ((I off).pr ((AV.os 8 0).pr ((AV.os 7 0).pr (AV.d Ty.unit PUnit.unit))))), (8, AObj.arr 3 (i64T) 0 false [w]), (7, AObj.arr 3 (i64T) 0 false [s]), (1, AObj.box (AV.os 10 0)), (10, AObj.arr 2 (i64T) 0 false v3), (2, AObj.box (I 0)), (3, AObj.box AV.nils), (4, AObj.box (AV.os 6 0)), (6, AObj.arr 2 (i64T) 0 false l), (5, AObj.box ((I off).pr ((AV.os 8 0).pr ((AV.os 7 0).pr (AV.d Ty.unit PUnit.unit))))), (9, AObj.rc (ARec.loop LC_rea [(0, (I off).pr ((AV.os 8 0).pr ((AV.os 7 0).pr (AV.d Ty.unit PUnit.unit)))), (1, AV.os 6 0), (2, AV.op 5 [] 0), (3, AV.op 4 [] 0), (4, AV.op 3 [] 0), (5, AV.op 2 [] 0), (6, AV.op 1 [] 0)] LSta.ready)), (11, AObj.arr 3 (i64T) 0 false [0])], nx := 22 } := by
  have h := w1_st1H (hlp g163 cf_pla) off w s l a p o out n k
  simp only [lpH_lp] at h
  exact h
theorem w2_st0H (hl : Hl) (off w v s u : Int) (l : List Int) (a b p : Int) (n : Nat) {R : Type} (k : AEx → LSt → Option R) : lpH g163 cf_pla [2] hl (cL (cL (cR (cR C_pla)))) (n + 1) (stW0 off [w, v] [s, u] l [a, b] p) k =
  bif decide (p ≥ Int.ofNat l.length) then k AEx.ret { fr := mkFr 6 [(0, AV.ref 9), (1, AV.op 0 [] 0), (3, AV.os 10 0), (4, I p), (12, AV.ref 9), (13, I p), (14, B false), (15, B true)], hp := [(1, AObj.box AV.nils), (2, AObj.box (I 1)), (3, AObj.box AV.nils), (4, AObj.box (AV.os 6 0)), (5, AObj.box ((I off).pr ((AV.os 8 0).pr ((AV.os 7 0).pr (AV.d Ty.unit PUnit.unit))))), (6, AObj.arr 2 (i64T) 0 false l), (7, AObj.arr 3 (i64T) 0 false [s, u]), (8, AObj.arr 3 (i64T) 0 false [w, v]), (9, AObj.rc (ARec.loop LC_rea [(0, (I off).pr ((AV.os 8 0).pr ((AV.os 7 0).pr (AV.d Ty.unit PUnit.unit)))), (1, AV.os 6 0), (2, AV.op 5 [] 0), (3, AV.op 4 [] 0), (4, AV.op 3 [] 0), (5, AV.op 2 [] 0), (6, AV.op 1 [] 0)] (LSta.done Jmp.ret))), (0, AObj.box ((I off).pr ((AV.os 8 0).pr ((AV.os 7 0).pr (AV.d Ty.unit PUnit.unit))))), (8, AObj.arr 3 (i64T) 0 false [w, v]), (7, AObj.arr 3 (i64T) 0 false [s, u]), (1, AObj.box AV.nils), (2, AObj.box (I 0)), (3, AObj.box AV.nils), (4, AObj.box (AV.os 6 0)), (6, AObj.arr 2 (i64T) 0 false l), (5, AObj.box ((I off).pr ((AV.os 8 0).pr ((AV.os 7 0).pr (AV.d Ty.unit PUnit.unit))))), (9, AObj.rc (ARec.loop LC_rea [(0, (I off).pr ((AV.os 8 0).pr ((AV.os 7 0).pr (AV.d Ty.unit PUnit.unit)))), (1, AV.os 6 0), (2, AV.op 5 [] 0), (3, AV.op 4 [] 0), (4, AV.op 3 [] 0), (5, AV.op 2 [] 0), (6, AV.op 1 [] 0)] LSta.ready)), (10, AObj.arr 3 (i64T) 0 false [a, b])], nx := 30 }
  else (idx l p).bind fun v1 =>
      (l[p.toNat]?).bind fun v2 =>
        bif decide (IntKind.i64.wrap (b + 1) < v) then lpH g163 cf_pla [2] hl (cL (cL (cR (cR C_pla)))) n { fr := mkFr 6 [(0, AV.ref 9), (1, AV.op 0 [] 0), (3, AV.os 11 0), (4, I (IntKind.i64.wrap (p + u)))], hp := [(0, AObj.box ((I off).pr ((AV.os 8 0).pr ((AV.os 7 0).pr (AV.d Ty.unit PUnit.unit))))), (8, AObj.arr 3 (i64T) 0 false [w, v]), (7, AObj.arr 3 (i64T) 0 false [s, u]), (1, AObj.box (AV.os 10 0)), (10, AObj.arr 2 (i64T) 0 false [v2]), (2, AObj.box (I 0)), (3, AObj.box AV.nils), (4, AObj.box (AV.os 6 0)), (6, AObj.arr 2 (i64T) 0 false l), (5, AObj.box ((I off).pr ((AV.os 8 0).pr ((AV.os 7 0).pr (AV.d Ty.unit PUnit.unit))))), (9, AObj.rc (ARec.loop LC_rea [(0, (I off).pr ((AV.os 8 0).pr ((AV.os 7 0).pr (AV.d Ty.unit PUnit.unit)))), (1, AV.os 6 0), (2, AV.op 5 [] 0), (3, AV.op 4 [] 0), (4, AV.op 3 [] 0), (5, AV.op 2 [] 0), (6, AV.op 1 [] 0)] LSta.ready)), (11, AObj.arr 3 (i64T) 0 false [a, IntKind.i64.wrap (b + 1)])], nx := 22 } k
        else 
          bif decide (IntKind.i64.wrap (a + 1) < w) then lpH g163 cf_pla [2] hl (cL (cL (cR (cR C_pla)))) n { fr := mkFr 6 [(0, AV.ref 9), (1, AV.op 0 [] 0), (3, AV.os 11 0), (4, I (IntKind.i64.wrap (IntKind.i64.wrap (IntKind.i64.wrap (p + u) - IntKind.i64.wrap (IntKind.i64.wrap (b + 1) * u)) + s)))], hp := [(0, AObj.box ((I off).pr ((AV.os 8 0).pr ((AV.os 7 0).pr (AV.d Ty.unit PUnit.unit))))), (8, AObj.arr 3 (i64T) 0 false [w, v]), (7, AObj.arr 3 (i64T) 0 false [s, u]), (1, AObj.box (AV.os 10 0)), (10, AObj.arr 2 (i64T) 0 false [v2]), (2, AObj.box (I 0)), (3, AObj.box AV.nils), (4, AObj.box (AV.os 6 0)), (6, AObj.arr 2 (i64T) 0 false l), (5, AObj.box ((I off).pr ((AV.os 8 0).pr ((AV.os 7 0).pr (AV.d Ty.unit PUnit.unit))))), (9, AObj.rc (ARec.loop LC_rea [(0, (I off).pr ((AV.os 8 0).pr ((AV.os 7 0).pr (AV.d Ty.unit PUnit.unit)))), (1, AV.os 6 0), (2, AV.op 5 [] 0), (3, AV.op 4 [] 0), (4, AV.op 3 [] 0), (5, AV.op 2 [] 0), (6, AV.op 1 [] 0)] LSta.ready)), (11, AObj.arr 3 (i64T) 0 false [IntKind.i64.wrap (a + 1), 0])], nx := 22 } k
          else k AEx.ret { fr := mkFr 6 [(0, AV.ref 9), (1, AV.op 0 [] 0), (3, AV.os 11 0), (4, I (IntKind.i64.wrap (IntKind.i64.wrap (IntKind.i64.wrap (IntKind.i64.wrap (p + u) - IntKind.i64.wrap (IntKind.i64.wrap (b + 1) * u)) + s) - IntKind.i64.wrap (IntKind.i64.wrap (a + 1) * s)))), (5, I (-1)), (19, I (-1)), (20, B false), (61, I (-1)), (62, B true)], hp := [(0, AObj.box ((I off).pr ((AV.os 8 0).pr ((AV.os 7 0).pr (AV.d Ty.unit PUnit.unit))))), (8, AObj.arr 3 (i64T) 0 false [w, v]), (7, AObj.arr 3 (i64T) 0 false [s, u]), (1, AObj.box (AV.os 10 0)), (10, AObj.arr 2 (i64T) 0 false [v2]), (2, AObj.box (I 0)), (3, AObj.box AV.nils), (4, AObj.box (AV.os 6 0)), (6, AObj.arr 2 (i64T) 0 false l), (5, AObj.box ((I off).pr ((AV.os 8 0).pr ((AV.os 7 0).pr (AV.d Ty.unit PUnit.unit))))), (9, AObj.rc (ARec.loop LC_rea [(0, (I off).pr ((AV.os 8 0).pr ((AV.os 7 0).pr (AV.d Ty.unit PUnit.unit)))), (1, AV.os 6 0), (2, AV.op 5 [] 0), (3, AV.op 4 [] 0), (4, AV.op 3 [] 0), (5, AV.op 2 [] 0), (6, AV.op 1 [] 0)] LSta.ready)), (11, AObj.arr 3 (i64T) 0 false [0, 0])], nx := 22 } := by kernel_rfl
theorem w2_st0 (off w v s u : Int) (l : List Int) (a b p : Int) (n : Nat) {R : Type} (k : AEx → LSt → Option R) : lp g163 cf_pla (cL (cL (cR (cR C_pla)))) (n + 1) (stW0 off [w, v] [s, u] l [a, b] p) k =
  bif decide (p ≥ Int.ofNat l.length) then k AEx.ret { fr := mkFr 6 [(0, AV.ref 9), (1, AV.op 0 [] 0), (3, AV.os 10 0), (4, I p), (12, AV.ref 9), (13, I p), (14, B false), (15, B true)], hp := [(1, AObj.box AV.nils), (2, AObj.box (I 1)), (3, AObj.box AV.nils), (4, AObj.box (AV.os 6 0)), (5, AObj.box ((I off).pr ((AV.os 8 0).pr ((AV.os 7 0).pr (AV.d Ty.unit PUnit.unit))))), (6, AObj.arr 2 (i64T) 0 false l), (7, AObj.arr 3 (i64T) 0 false [s, u]), (8, AObj.arr 3 (i64T) 0 false [w, v]), (9, AObj.rc (ARec.loop LC_rea [(0, (I off).pr ((AV.os 8 0).pr ((AV.os 7 0).pr (AV.d Ty.unit PUnit.unit)))), (1, AV.os 6 0), (2, AV.op 5 [] 0), (3, AV.op 4 [] 0), (4, AV.op 3 [] 0), (5, AV.op 2 [] 0), (6, AV.op 1 [] 0)] (LSta.done Jmp.ret))), (0, AObj.box ((I off).pr ((AV.os 8 0).pr ((AV.os 7 0).pr (AV.d Ty.unit PUnit.unit))))), (8, AObj.arr 3 (i64T) 0 false [w, v]), (7, AObj.arr 3 (i64T) 0 false [s, u]), (1, AObj.box AV.nils), (2, AObj.box (I 0)), (3, AObj.box AV.nils), (4, AObj.box (AV.os 6 0)), (6, AObj.arr 2 (i64T) 0 false l), (5, AObj.box ((I off).pr ((AV.os 8 0).pr ((AV.os 7 0).pr (AV.d Ty.unit PUnit.unit))))), (9, AObj.rc (ARec.loop LC_rea [(0, (I off).pr ((AV.os 8 0).pr ((AV.os 7 0).pr (AV.d Ty.unit PUnit.unit)))), (1, AV.os 6 0), (2, AV.op 5 [] 0), (3, AV.op 4 [] 0), (4, AV.op 3 [] 0), (5, AV.op 2 [] 0), (6, AV.op 1 [] 0)] LSta.ready)), (10, AObj.arr 3 (i64T) 0 false [a, b])], nx := 30 }
  else (idx l p).bind fun v1 =>
      (l[p.toNat]?).bind fun v2 =>
        bif decide (IntKind.i64.wrap (b + 1) < v) then lp g163 cf_pla (cL (cL (cR (cR C_pla)))) n { fr := mkFr 6 [(0, AV.ref 9), (1, AV.op 0 [] 0), (3, AV.os 11 0), (4, I (IntKind.i64.wrap (p + u)))], hp := [(0, AObj.box ((I off).pr ((AV.os 8 0).pr ((AV.os 7 0).pr (AV.d Ty.unit PUnit.unit))))), (8, AObj.arr 3 (i64T) 0 false [w, v]), (7, AObj.arr 3 (i64T) 0 false [s, u]), (1, AObj.box (AV.os 10 0)), (10, AObj.arr 2 (i64T) 0 false [v2]), (2, AObj.box (I 0)), (3, AObj.box AV.nils), (4, AObj.box (AV.os 6 0)), (6, AObj.arr 2 (i64T) 0 false l), (5, AObj.box ((I off).pr ((AV.os 8 0).pr ((AV.os 7 0).pr (AV.d Ty.unit PUnit.unit))))), (9, AObj.rc (ARec.loop LC_rea [(0, (I off).pr ((AV.os 8 0).pr ((AV.os 7 0).pr (AV.d Ty.unit PUnit.unit)))), (1, AV.os 6 0), (2, AV.op 5 [] 0), (3, AV.op 4 [] 0), (4, AV.op 3 [] 0), (5, AV.op 2 [] 0), (6, AV.op 1 [] 0)] LSta.ready)), (11, AObj.arr 3 (i64T) 0 false [a, IntKind.i64.wrap (b + 1)])], nx := 22 } k
        else 
          bif decide (IntKind.i64.wrap (a + 1) < w) then lp g163 cf_pla (cL (cL (cR (cR C_pla)))) n { fr := mkFr 6 [(0, AV.ref 9), (1, AV.op 0 [] 0), (3, AV.os 11 0), (4, I (IntKind.i64.wrap (IntKind.i64.wrap (IntKind.i64.wrap (p + u) - IntKind.i64.wrap (IntKind.i64.wrap (b + 1) * u)) + s)))], hp := [(0, AObj.box ((I off).pr ((AV.os 8 0).pr ((AV.os 7 0).pr (AV.d Ty.unit PUnit.unit))))), (8, AObj.arr 3 (i64T) 0 false [w, v]), (7, AObj.arr 3 (i64T) 0 false [s, u]), (1, AObj.box (AV.os 10 0)), (10, AObj.arr 2 (i64T) 0 false [v2]), (2, AObj.box (I 0)), (3, AObj.box AV.nils), (4, AObj.box (AV.os 6 0)), (6, AObj.arr 2 (i64T) 0 false l), (5, AObj.box ((I off).pr ((AV.os 8 0).pr ((AV.os 7 0).pr (AV.d Ty.unit PUnit.unit))))), (9, AObj.rc (ARec.loop LC_rea [(0, (I off).pr ((AV.os 8 0).pr ((AV.os 7 0).pr (AV.d Ty.unit PUnit.unit)))), (1, AV.os 6 0), (2, AV.op 5 [] 0), (3, AV.op 4 [] 0), (4, AV.op 3 [] 0), (5, AV.op 2 [] 0), (6, AV.op 1 [] 0)] LSta.ready)), (11, AObj.arr 3 (i64T) 0 false [IntKind.i64.wrap (a + 1), 0])], nx := 22 } k
          else k AEx.ret { fr := mkFr 6 [(0, AV.ref 9), (1, AV.op 0 [] 0), (3, AV.os 11 0), (4, I (IntKind.i64.wrap (IntKind.i64.wrap (IntKind.i64.wrap (IntKind.i64.wrap (p + u) - IntKind.i64.wrap (IntKind.i64.wrap (b + 1) * u)) + s) - IntKind.i64.wrap (IntKind.i64.wrap (a + 1) * s)))), (5, I (-1)), (19, I (-1)), (20, B false), (61, I (-1)), (62, B true)], hp := [(0, AObj.box ((I off).pr ((AV.os 8 0).pr ((AV.os 7 0).pr (AV.d Ty.unit PUnit.unit))))), (8, AObj.arr 3 (i64T) 0 false [w, v]), (7, AObj.arr 3 (i64T) 0 false [s, u]), (1, AObj.box (AV.os 10 0)), (10, AObj.arr 2 (i64T) 0 false [v2]), (2, AObj.box (I 0)), (3, AObj.box AV.nils), (4, AObj.box (AV.os 6 0)), (6, AObj.arr 2 (i64T) 0 false l), (5, AObj.box ((I off).pr ((AV.os 8 0).pr ((AV.os 7 0).pr (AV.d Ty.unit PUnit.unit))))), (9, AObj.rc (ARec.loop LC_rea [(0, (I off).pr ((AV.os 8 0).pr ((AV.os 7 0).pr (AV.d Ty.unit PUnit.unit)))), (1, AV.os 6 0), (2, AV.op 5 [] 0), (3, AV.op 4 [] 0), (4, AV.op 3 [] 0), (5, AV.op 2 [] 0), (6, AV.op 1 [] 0)] LSta.ready)), (11, AObj.arr 3 (i64T) 0 false [0, 0])], nx := 22 } := by
  have h := w2_st0H (hlp g163 cf_pla) off w v s u l a b p n k
  simp only [lpH_lp] at h
  exact h
theorem w2_st1H (hl : Hl) (off w v s u : Int) (l : List Int) (a b p o : Int) (out : List Int) (n : Nat) {R : Type} (k : AEx → LSt → Option R) : lpH g163 cf_pla [2] hl (cL (cL (cR (cR C_pla)))) (n + 1) (stW1 off [w, v] [s, u] l [a, b] p (o :: out)) k =
  bif decide (p ≥ Int.ofNat l.length) then k AEx.ret { fr := mkFr 6 [(0, AV.ref 9), (1, AV.op 0 [] 0), (3, AV.os 11 0), (4, I p), (12, AV.ref 9), (13, I p), (14, B false), (15, B true)], hp := [(10, AObj.arr 2 (i64T) 0 false (o :: out)), (1, AObj.box (AV.os 10 0)), (2, AObj.box (I 1)), (3, AObj.box AV.nils), (4, AObj.box (AV.os 6 0)), (5, AObj.box ((I off).pr ((AV.os 8 0).pr ((AV.os 7 0).pr (AV.d Ty.unit PUnit.unit))))), (6, AObj.arr 2 (i64T) 0 false l), (7, AObj.arr 3 (i64T) 0 false [s, u]), (8, AObj.arr 3 (i64T) 0 false [w, v]), (9, AObj.rc (ARec.loop LC_rea [(0, (I off).pr ((AV.os 8 0).pr ((AV.os 7 0).pr (AV.d Ty.unit PUnit.unit)))), (1, AV.os 6 0), (2, AV.op 5 [] 0), (3, AV.op 4 [] 0), (4, AV.op 3 [] 0), (5, AV.op 2 [] 0), (6, AV.op 1 [] 0)] (LSta.done Jmp.ret))), (0, AObj.box ((I off).pr ((AV.os 8 0).pr ((AV.os 7 0).pr (AV.d Ty.unit PUnit.unit))))), (8, AObj.arr 3 (i64T) 0 false [w, v]), (7, AObj.arr 3 (i64T) 0 false [s, u]), (1, AObj.box (AV.os 10 0)), (10, AObj.arr 2 (i64T) 0 false (o :: out)), (2, AObj.box (I 0)), (3, AObj.box AV.nils), (4, AObj.box (AV.os 6 0)), (6, AObj.arr 2 (i64T) 0 false l), (5, AObj.box ((I off).pr ((AV.os 8 0).pr ((AV.os 7 0).pr (AV.d Ty.unit PUnit.unit))))), (9, AObj.rc (ARec.loop LC_rea [(0, (I off).pr ((AV.os 8 0).pr ((AV.os 7 0).pr (AV.d Ty.unit PUnit.unit)))), (1, AV.os 6 0), (2, AV.op 5 [] 0), (3, AV.op 4 [] 0), (4, AV.op 3 [] 0), (5, AV.op 2 [] 0), (6, AV.op 1 [] 0)] LSta.ready)), (11, AObj.arr 3 (i64T) 0 false [a, b])], nx := 32 }
  else (idx l p).bind fun v1 =>
      (l[p.toNat]?).bind fun v2 =>
        (app (o :: out) [v2]).bind fun v3 =>
          bif decide (IntKind.i64.wrap (b + 1) < v) then lpH g163 cf_pla [2] hl (cL (cL (cR (cR C_pla)))) n { fr := mkFr 6 [(0, AV.ref 9), (1, AV.op 0 [] 0), (3, AV.os 11 0), (4, I (IntKind.i64.wrap (p + u)))], hp := [(0, AObj.box ((I off).pr ((AV.os 8 0).pr ((AV.os 7 0).pr (AV.d Ty.unit PUnit.unit))))), (8, AObj.arr 3 (i64T) 0 false [w, v]), (7, AObj.arr 3 (i64T) 0 false [s, u]), (1, AObj.box (AV.os 10 0)), (10, AObj.arr 2 (i64T) 0 false v3), (2, AObj.box (I 0)), (3, AObj.box AV.nils), (4, AObj.box (AV.os 6 0)), (6, AObj.arr 2 (i64T) 0 false l), (5, AObj.box ((I off).pr ((AV.os 8 0).pr ((AV.os 7 0).pr (AV.d Ty.unit PUnit.unit))))), (9, AObj.rc (ARec.loop LC_rea [(0, (I off).pr ((AV.os 8 0).pr ((AV.os 7 0).pr (AV.d Ty.unit PUnit.unit)))), (1, AV.os 6 0), (2, AV.op 5 [] 0), (3, AV.op 4 [] 0), (4, AV.op 3 [] 0), (5, AV.op 2 [] 0), (6, AV.op 1 [] 0)] LSta.ready)), (11, AObj.arr 3 (i64T) 0 false [a, IntKind.i64.wrap (b + 1)])], nx := 22 } k
          else 
            bif decide (IntKind.i64.wrap (a + 1) < w) then lpH g163 cf_pla [2] hl (cL (cL (cR (cR C_pla)))) n { fr := mkFr 6 [(0, AV.ref 9), (1, AV.op 0 [] 0), (3, AV.os 11 0), (4, I (IntKind.i64.wrap (IntKind.i64.wrap (IntKind.i64.wrap (p + u) - IntKind.i64.wrap (IntKind.i64.wrap (b + 1) * u)) + s)))], hp := [(0, AObj.box ((I off).pr ((AV.os 8 0).pr ((AV.os 7 0).pr (AV.d Ty.unit PUnit.unit))))), (8, AObj.arr 3 (i64T) 0 false [w, v]), (7, AObj.arr 3 (i64T) 0 false [s, u]), (1, AObj.box (AV.os 10 0)), (10, AObj.arr 2 (i64T) 0 false v3), (2, AObj.box (I 0)), (3, AObj.box AV.nils), (4, AObj.box (AV.os 6 0)), (6, AObj.arr 2 (i64T) 0 false l), (5, AObj.box ((I off).pr ((AV.os 8 0).pr ((AV.os 7 0).pr (AV.d Ty.unit PUnit.unit))))), (9, AObj.rc (ARec.loop LC_rea [(0, (I off).pr ((AV.os 8 0).pr ((AV.os 7 0).pr (AV.d Ty.unit PUnit.unit)))), (1, AV.os 6 0), (2, AV.op 5 [] 0), (3, AV.op 4 [] 0), (4, AV.op 3 [] 0), (5, AV.op 2 [] 0), (6, AV.op 1 [] 0)] LSta.ready)), (11, AObj.arr 3 (i64T) 0 false [IntKind.i64.wrap (a + 1), 0])], nx := 22 } k
            else k AEx.ret { fr := mkFr 6 [(0, AV.ref 9), (1, AV.op 0 [] 0), (3, AV.os 11 0), (4, I (IntKind.i64.wrap (IntKind.i64.wrap (IntKind.i64.wrap (IntKind.i64.wrap (p + u) - IntKind.i64.wrap (IntKind.i64.wrap (b + 1) * u)) + s) - IntKind.i64.wrap (IntKind.i64.wrap (a + 1) * s)))), (5, I (-1)), (19, I (-1)), (20, B false), (61, I (-1)), (62, B true)], hp := [(0, AObj.box ((I off).pr ((AV.os 8 0).pr ((AV.os 7 0).pr (AV.d Ty.unit PUnit.unit))))), (8, AObj.arr 3 (i64T) 0 false [w, v]), (7, AObj.arr 3 (i64T) 0 false [s, u]), (1, AObj.box (AV.os 10 0)), (10, AObj.arr 2 (i64T) 0 false v3), (2, AObj.box (I 0)), (3, AObj.box AV.nils), (4, AObj.box (AV.os 6 0)), (6, AObj.arr 2 (i64T) 0 false l), (5, AObj.box ((I off).pr ((AV.os 8 0).pr ((AV.os 7 0).pr (AV.d Ty.unit PUnit.unit))))), (9, AObj.rc (ARec.loop LC_rea [(0, (I off).pr ((AV.os 8 0).pr ((AV.os 7 0).pr (AV.d Ty.unit PUnit.unit)))), (1, AV.os 6 0), (2, AV.op 5 [] 0), (3, AV.op 4 [] 0), (4, AV.op 3 [] 0), (5, AV.op 2 [] 0), (6, AV.op 1 [] 0)] LSta.ready)), (11, AObj.arr 3 (i64T) 0 false [0, 0])], nx := 22 } := by kernel_rfl
theorem w2_st1 (off w v s u : Int) (l : List Int) (a b p o : Int) (out : List Int) (n : Nat) {R : Type} (k : AEx → LSt → Option R) : lp g163 cf_pla (cL (cL (cR (cR C_pla)))) (n + 1) (stW1 off [w, v] [s, u] l [a, b] p (o :: out)) k =
  bif decide (p ≥ Int.ofNat l.length) then k AEx.ret { fr := mkFr 6 [(0, AV.ref 9), (1, AV.op 0 [] 0), (3, AV.os 11 0), (4, I p), (12, AV.ref 9), (13, I p), (14, B false), (15, B true)], hp := [(10, AObj.arr 2 (i64T) 0 false (o :: out)), (1, AObj.box (AV.os 10 0)), (2, AObj.box (I 1)), (3, AObj.box AV.nils), (4, AObj.box (AV.os 6 0)), (5, AObj.box ((I off).pr ((AV.os 8 0).pr ((AV.os 7 0).pr (AV.d Ty.unit PUnit.unit))))), (6, AObj.arr 2 (i64T) 0 false l), (7, AObj.arr 3 (i64T) 0 false [s, u]), (8, AObj.arr 3 (i64T) 0 false [w, v]), (9, AObj.rc (ARec.loop LC_rea [(0, (I off).pr ((AV.os 8 0).pr ((AV.os 7 0).pr (AV.d Ty.unit PUnit.unit)))), (1, AV.os 6 0), (2, AV.op 5 [] 0), (3, AV.op 4 [] 0), (4, AV.op 3 [] 0), (5, AV.op 2 [] 0), (6, AV.op 1 [] 0)] (LSta.done Jmp.ret))), (0, AObj.box ((I off).pr ((AV.os 8 0).pr ((AV.os 7 0).pr (AV.d Ty.unit PUnit.unit))))), (8, AObj.arr 3 (i64T) 0 false [w, v]), (7, AObj.arr 3 (i64T) 0 false [s, u]), (1, AObj.box (AV.os 10 0)), (10, AObj.arr 2 (i64T) 0 false (o :: out)), (2, AObj.box (I 0)), (3, AObj.box AV.nils), (4, AObj.box (AV.os 6 0)), (6, AObj.arr 2 (i64T) 0 false l), (5, AObj.box ((I off).pr ((AV.os 8 0).pr ((AV.os 7 0).pr (AV.d Ty.unit PUnit.unit))))), (9, AObj.rc (ARec.loop LC_rea [(0, (I off).pr ((AV.os 8 0).pr ((AV.os 7 0).pr (AV.d Ty.unit PUnit.unit)))), (1, AV.os 6 0), (2, AV.op 5 [] 0), (3, AV.op 4 [] 0), (4, AV.op 3 [] 0), (5, AV.op 2 [] 0), (6, AV.op 1 [] 0)] LSta.ready)), (11, AObj.arr 3 (i64T) 0 false [a, b])], nx := 32 }
  else (idx l p).bind fun v1 =>
      (l[p.toNat]?).bind fun v2 =>
        (app (o :: out) [v2]).bind fun v3 =>
          bif decide (IntKind.i64.wrap (b + 1) < v) then lp g163 cf_pla (cL (cL (cR (cR C_pla)))) n { fr := mkFr 6 [(0, AV.ref 9), (1, AV.op 0 [] 0), (3, AV.os 11 0), (4, I (IntKind.i64.wrap (p + u)))], hp := [(0, AObj.box ((I off).pr ((AV.os 8 0).pr ((AV.os 7 0).pr (AV.d Ty.unit PUnit.unit))))), (8, AObj.arr 3 (i64T) 0 false [w, v]), (7, AObj.arr 3 (i64T) 0 false [s, u]), (1, AObj.box (AV.os 10 0)), (10, AObj.arr 2 (i64T) 0 false v3), (2, AObj.box (I 0)), (3, AObj.box AV.nils), (4, AObj.box (AV.os 6 0)), (6, AObj.arr 2 (i64T) 0 false l), (5, AObj.box ((I off).pr ((AV.os 8 0).pr ((AV.os 7 0).pr (AV.d Ty.unit PUnit.unit))))), (9, AObj.rc (ARec.loop LC_rea [(0, (I off).pr ((AV.os 8 0).pr ((AV.os 7 0).pr (AV.d Ty.unit PUnit.unit)))), (1, AV.os 6 0), (2, AV.op 5 [] 0), (3, AV.op 4 [] 0), (4, AV.op 3 [] 0), (5, AV.op 2 [] 0), (6, AV.op 1 [] 0)] LSta.ready)), (11, AObj.arr 3 (i64T) 0 false [a, IntKind.i64.wrap (b + 1)])], nx := 22 } k
          else 
            bif decide (IntKind.i64.wrap (a + 1) < w) then lp g163 cf_pla (cL (cL (cR (cR C_pla)))) n { fr := mkFr 6 [(0, AV.ref 9), (1, AV.op 0 [] 0), (3, AV.os 11 0), (4, I (IntKind.i64.wrap (IntKind.i64.wrap (IntKind.i64.wrap (p + u) - IntKind.i64.wrap (IntKind.i64.wrap (b + 1) * u)) + s)))], hp := [(0, AObj.box ((I off).pr ((AV.os 8 0).pr ((AV.os 7 0).pr (AV.d Ty.unit PUnit.unit))))), (8, AObj.arr 3 (i64T) 0 false [w, v]), (7, AObj.arr 3 (i64T) 0 false [s, u]), (1, AObj.box (AV.os 10 0)), (10, AObj.arr 2 (i64T) 0 false v3), (2, AObj.box (I 0)), (3, AObj.box AV.nils), (4, AObj.box (AV.os 6 0)), (6, AObj.arr 2 (i64T) 0 false l), (5, AObj.box ((I off).pr ((AV.os 8 0).pr ((AV.os 7 0).pr (AV.d Ty.unit PUnit.unit))))), (9, AObj.rc (ARec.loop LC_rea [(0, (I off).pr ((AV.os 8 0).pr ((AV.os 7 0).pr (AV.d Ty.unit PUnit.unit)))), (1, AV.os 6 0), (2, AV.op 5 [] 0), (3, AV.op 4 [] 0), (4, AV.op 3 [] 0), (5, AV.op 2 [] 0), (6, AV.op 1 [] 0)] LSta.ready)), (11, AObj.arr 3 (i64T) 0 false [IntKind.i64.wrap (a + 1), 0])], nx := 22 } k
            else k AEx.ret { fr := mkFr 6 [(0, AV.ref 9), (1, AV.op 0 [] 0), (3, AV.os 11 0), (4, I (IntKind.i64.wrap (IntKind.i64.wrap (IntKind.i64.wrap (IntKind.i64.wrap (p + u) - IntKind.i64.wrap (IntKind.i64.wrap (b + 1) * u)) + s) - IntKind.i64.wrap (IntKind.i64.wrap (a + 1) * s)))), (5, I (-1)), (19, I (-1)), (20, B false), (61, I (-1)), (62, B true)], hp := [(0, AObj.box ((I off).pr ((AV.os 8 0).pr ((AV.os 7 0).pr (AV.d Ty.unit PUnit.unit))))), (8, AObj.arr 3 (i64T) 0 false [w, v]), (7, AObj.arr 3 (i64T) 0 false [s, u]), (1, AObj.box (AV.os 10 0)), (10, AObj.arr 2 (i64T) 0 false v3), (2, AObj.box (I 0)), (3, AObj.box AV.nils), (4, AObj.box (AV.os 6 0)), (6, AObj.arr 2 (i64T) 0 false l), (5, AObj.box ((I off).pr ((AV.os 8 0).pr ((AV.os 7 0).pr (AV.d Ty.unit PUnit.unit))))), (9, AObj.rc (ARec.loop LC_rea [(0, (I off).pr ((AV.os 8 0).pr ((AV.os 7 0).pr (AV.d Ty.unit PUnit.unit)))), (1, AV.os 6 0), (2, AV.op 5 [] 0), (3, AV.op 4 [] 0), (4, AV.op 3 [] 0), (5, AV.op 2 [] 0), (6, AV.op 1 [] 0)] LSta.ready)), (11, AObj.arr 3 (i64T) 0 false [0, 0])], nx := 22 } := by
  have h := w2_st1H (hlp g163 cf_pla) off w v s u l a b p o out n k
  simp only [lpH_lp] at h
  exact h
noncomputable def WK : AEx → LSt → Option (AEnd × LHp) := (blkK 0 (endC Tryz.prog 10 Tryz.f132.results.toList ah))
noncomputable def hpYW (off : Int) (ds ss l out : List Int) : LHp := [(0, .box (vwA off 8 7)), (8, .arr 3 i64T 0 false ds), (7, .arr 3 i64T 0 false ss), (1, .box (.os 10 0)), (10, .arr 2 i64T 0 false out), (2, .box (I 0)), (3, .box .nils), (4, .box (.os 6 0)), (6, .arr 2 i64T 0 false l), (5, .box (vwA off 8 7)), (9, .rc (.loop LC_rea (frecV off) .ready))]
noncomputable def frecVT (off : Int) : List (Nat × AV) := slotsF ⟨frV off, [], 0⟩ (loopLive cf_rea LC_rea.assign)
noncomputable def hpVx2 (off : Int) (ds ss l : List Int) : LHp := (13, .rc (.loop LC_rea (frecVT off) .ready)) :: hpVx off ds ss l
theorem rea_rf (F : FnE) (off : Int) (ds ss l : List Int) (k : AEx → LSt → Option (AEnd × LHp)) : exC (gV F) cf_rea (cL (cR (cL (cR (cR (cR C_rea)))))) ⟨frV off, hpVx off ds ss l, 13⟩ k =
    F.run [.ref 9, .op 0 [] 0] (hpYV off ds ss l .nils) (callK [10, 9, 6, 5, 4, 3, 0, 1, 2, 13] (hpVx2 off ds ss l) 14 (rfK (frV off) (hpVx2 off ds ss l) 13 k) (rfP (frV off) (hpVx2 off ds ss l) 13 k)) := by kernel_rfl
noncomputable def RK0 (F : FnE) : AEx → LSt → Option (AEnd × LHp) := blkK 0 (seqQ (gV F) cf_rea (rfp (gV F) cf_rea) (cR (cR (cR (cR C_rea)))) (endC Tryz.prog 3 Tryz.f79.results.toList ah))
theorem rea_fin (F : FnE) (off : Int) (ds ss l out : List Int) : callK [10, 9, 6, 5, 4, 3, 0, 1, 2, 13] (hpVx2 off ds ss l) 14 (rfK (frV off) (hpVx2 off ds ss l) 13 (RK0 F)) (rfP (frV off) (hpVx2 off ds ss l) 13 (RK0 F)) (.ret []) (hpYW off ds ss l out) =
  some (AEnd.ret [AV.os 3 0, I 0], [(0, AObj.arr 2 (i64T) 0 false l), (1, AObj.arr 3 (i64T) 0 false ss), (2, AObj.arr 3 (i64T) 0 false ds), (3, AObj.arr 2 (i64T) 0 false out)]) := by kernel_rfl
end Go.Proofs.XGT
/- view.Read of views of rank 1 and 2: what it reads. -/
namespace Go.Proofs.XGT
open Go.Vm Go
set_option maxRecDepth 100000
set_option maxHeartbeats 1000000
theorem tab_succ (n : Nat) (f : Nat → Int) : tab (n + 1) f = tab n f ++ [f n] := by
  unfold tab
  rw [List.range_succ, List.map_append]
  rfl
noncomputable def stWm (off : Int) (ds ss l A : List Int) (p : Int) (out : List Int) : LSt := match out with
  | [] => stW0 off ds ss l A p
  | o :: r => stW1 off ds ss l A p (o :: r)
noncomputable def stWE (off : Int) (ds ss l A : List Int) (p : Int) (out : List Int) : LSt := ⟨mkFr 6 [(0, .ref 9), (1, .op 0 [] 0), (3, .os 11 0), (4, I p), (5, I (-1)), (19, I (-1)), (20, B false), (61, I (-1)), (62, B true)], (stW1 off ds ss l A p out).hp, 22⟩
theorem WK_end (off : Int) (ds ss l A : List Int) (p : Int) (out : List Int) : WK .ret (stWE off ds ss l A p out) = some (.ret [], hpYW off ds ss l out) := by kernel_rfl
theorem getV {l : List Int} {p : Nat} (h : p < l.length) : idx l (p : Int) = some (l.getD p 0) ∧ l[p]? = some (l.getD p 0) := by
  have e : l[p]? = some (l.getD p 0) := by rw [List.getD_eq_getElem?_getD, List.getElem?_eq_getElem h]; rfl
  exact ⟨by unfold idx; rw [if_pos (by omega), Int.toNat_natCast, e], e⟩
theorem app_one {xs : List Int} {y : Int} (h : xs.length ≤ 65536) : app xs [y] = some (xs ++ [y]) := by
  unfold app
  rw [if_pos (by unfold lim; simp only [List.length_cons, List.length_nil]; omega)]
def f1V (l : List Int) (o s : Nat) (q : Nat) : Int := l.getD (o + q * s) 0
def f2V (l : List Int) (o v s u : Nat) (q : Nat) : Int := l.getD (o + q / v * s + q % v * u) 0
theorem w1_one {o w s m : Nat} {l : List Int} (hm : m < w) (ho : o ≤ 65536) (hs : s ≤ 65536) (hw : w ≤ 65536) (hp : o + m * s < l.length) (n : Nat) {R : Type} (k : AEx → LSt → Option R) :
    ∃ P : Int, lp g163 cf_pla (cL (cL (cR (cR C_pla)))) (n + 1) (stWm o [(w : Int)] [(s : Int)] l [(m : Int)] ((o + m * s : Nat) : Int) (tab m (f1V l o s))) k =
      if m + 1 < w then lp g163 cf_pla (cL (cL (cR (cR C_pla)))) n (stWm o [(w : Int)] [(s : Int)] l [((m + 1 : Nat) : Int)] ((o + (m + 1) * s : Nat) : Int) (tab (m + 1) (f1V l o s))) k
      else k .ret (stWE o [(w : Int)] [(s : Int)] l [0] P (tab (m + 1) (f1V l o s))) := by
  have b1 : m * s ≤ 65536 * 65536 := Nat.mul_le_mul (by omega) hs
  have b2 : (m + 1) * s = m * s + s := by rw [Nat.add_mul, Nat.one_mul]
  have e0 : IntKind.i64.wrap ((m : Int) + 1) = ((m + 1 : Nat) : Int) := by rw [wrap64 (by omega) (by omega)]; omega
  have e1 : IntKind.i64.wrap (((o + m * s : Nat) : Int) + s) = ((o + (m + 1) * s : Nat) : Int) := by rw [b2, wrap64 (by omega) (by omega)]; omega
  obtain ⟨g1, g2⟩ := getV hp
  have hge : decide (((o + m * s : Nat) : Int) ≥ Int.ofNat l.length) = false := decide_eq_false (by simp only [Int.ofNat_eq_natCast]; omega)
  refine ⟨IntKind.i64.wrap (((o + (m + 1) * s : Nat) : Int) - IntKind.i64.wrap (((m + 1 : Nat) : Int) * s)), ?_⟩
  rw [tab_succ]
  have hfm : f1V l o s m = l.getD (o + m * s) 0 := rfl
  have hlen : (tab m (f1V l o s)).length = m := tab_length _ _
  cases htab : tab m (f1V l o s) with
  | nil =>
    show lp g163 cf_pla (cL (cL (cR (cR C_pla)))) (n + 1) (stW0 o [(w : Int)] [(s : Int)] l [(m : Int)] ((o + m * s : Nat) : Int)) k = _
    rw [w1_st0, hge, cond_false, g1, Option.bind_some, Int.toNat_natCast, g2, Option.bind_some, e0, e1, hfm]
    by_cases h : m + 1 < w
    · rw [decide_eq_true (show ((m + 1 : Nat) : Int) < (w : Int) by omega), cond_true, if_pos h]
      rfl
    · rw [decide_eq_false (show ¬ (((m + 1 : Nat) : Int) < (w : Int)) by omega), cond_false, if_neg h]
      rfl
  | cons q r =>
    have hl2 : (q :: r).length ≤ 65536 := by rw [← htab, hlen]; omega
    show lp g163 cf_pla (cL (cL (cR (cR C_pla)))) (n + 1) (stW1 o [(w : Int)] [(s : Int)] l [(m : Int)] ((o + m * s : Nat) : Int) (q :: r)) k = _
    rw [w1_st1, hge, cond_false, g1, Option.bind_some, Int.toNat_natCast, g2, Option.bind_some, app_one hl2, Option.bind_some, e0, e1, hfm]
    by_cases h : m + 1 < w
    · rw [decide_eq_true (show ((m + 1 : Nat) : Int) < (w : Int) by omega), cond_true, if_pos h]
      rfl
    · rw [decide_eq_false (show ¬ (((m + 1 : Nat) : Int) < (w : Int)) by omega), cond_false, if_neg h]
      rfl
theorem w1_all {o w s : Nat} {l : List Int} (ho : o ≤ 65536) (hs : s ≤ 65536) (hw : w ≤ 65536) (hp : o + (w - 1) * s < l.length) : ∀ (r m n : Nat), m + r + 1 = w → r < n →
    lp g163 cf_pla (cL (cL (cR (cR C_pla)))) n (stWm o [(w : Int)] [(s : Int)] l [(m : Int)] ((o + m * s : Nat) : Int) (tab m (f1V l o s))) WK = some (.ret [], hpYW o [(w : Int)] [(s : Int)] l (tab w (f1V l o s))) := by
  intro r
  induction r with
  | zero =>
    intro m n hm hn
    obtain ⟨n, rfl⟩ : ∃ m', n = m' + 1 := ⟨n - 1, by omega⟩
    obtain rfl : w = m + 1 := by omega
    obtain ⟨P, h⟩ := w1_one (m := m) (by omega) ho hs hw (by rw [Nat.add_sub_cancel] at hp; exact hp) n WK
    rw [h, if_neg (by omega)]
    exact WK_end _ _ _ _ _ _ _
  | succ r ih =>
    intro m n hm hn
    obtain ⟨n, rfl⟩ : ∃ m', n = m' + 1 := ⟨n - 1, by omega⟩
    have hle : m * s ≤ (w - 1) * s := Nat.mul_le_mul_right _ (by omega)
    obtain ⟨P, h⟩ := w1_one (m := m) (by omega) ho hs hw (show o + m * s < l.length by omega) n WK
    rw [h, if_pos (by omega)]
    exact ih (m + 1) n (by omega) (by omega)
theorem w2_one {o w v s u a b : Nat} {l : List Int} (ha : a < w) (hb : b < v) (ho : o ≤ 65536) (hs : s ≤ 65536) (hu : u ≤ 65536) (hwv : w * v ≤ 65536) (hp : o + a * s + b * u < l.length) (n : Nat) {R : Type} (k : AEx → LSt → Option R) :
    ∃ P : Int, lp g163 cf_pla (cL (cL (cR (cR C_pla)))) (n + 1) (stWm o [(w : Int), (v : Int)] [(s : Int), (u : Int)] l [(a : Int), (b : Int)] ((o + a * s + b * u : Nat) : Int) (tab (a * v + b) (f2V l o v s u))) k =
      if b + 1 < v then lp g163 cf_pla (cL (cL (cR (cR C_pla)))) n (stWm o [(w : Int), (v : Int)] [(s : Int), (u : Int)] l [(a : Int), ((b + 1 : Nat) : Int)] ((o + a * s + (b + 1) * u : Nat) : Int) (tab (a * v + (b + 1)) (f2V l o v s u))) k
      else if a + 1 < w then lp g163 cf_pla (cL (cL (cR (cR C_pla)))) n (stWm o [(w : Int), (v : Int)] [(s : Int), (u : Int)] l [((a + 1 : Nat) : Int), ((0 : Nat) : Int)] ((o + (a + 1) * s + 0 * u : Nat) : Int) (tab (a * v + (b + 1)) (f2V l o v s u))) k
      else k .ret (stWE o [(w : Int), (v : Int)] [(s : Int), (u : Int)] l [0, 0] P (tab (a * v + (b + 1)) (f2V l o v s u))) := by
  have hav := row_le (C := v) ha
  have hvw : v ≤ w * v := Nat.le_mul_of_pos_left _ (by omega)
  have hww : w ≤ w * v := Nat.le_mul_of_pos_right _ (by omega)
  have c1 : a * s ≤ 65536 * 65536 := Nat.mul_le_mul (by omega) hs
  have c2 : b * u ≤ 65536 * 65536 := Nat.mul_le_mul (by omega) hu
  have b2 : (b + 1) * u = b * u + u := by rw [Nat.add_mul, Nat.one_mul]
  have a2 : (a + 1) * s = a * s + s := by rw [Nat.add_mul, Nat.one_mul]
  have e0 : IntKind.i64.wrap ((b : Int) + 1) = ((b + 1 : Nat) : Int) := by rw [wrap64 (by omega) (by omega)]; omega
  have e0a : IntKind.i64.wrap ((a : Int) + 1) = ((a + 1 : Nat) : Int) := by rw [wrap64 (by omega) (by omega)]; omega
  have e1 : IntKind.i64.wrap (((o + a * s + b * u : Nat) : Int) + u) = ((o + a * s + (b + 1) * u : Nat) : Int) := by rw [b2, wrap64 (by omega) (by omega)]; omega
  have e2 : IntKind.i64.wrap (((b + 1 : Nat) : Int) * u) = (((b + 1) * u : Nat) : Int) := by rw [← Int.natCast_mul]; exact wrap64 (by omega) (by omega)
  have e3 : IntKind.i64.wrap (((o + a * s + (b + 1) * u : Nat) : Int) - (((b + 1) * u : Nat) : Int)) = ((o + a * s : Nat) : Int) := by rw [wrap64 (by omega) (by omega)]; omega
  have e4 : IntKind.i64.wrap (((o + a * s : Nat) : Int) + s) = ((o + (a + 1) * s + 0 * u : Nat) : Int) := by rw [a2, Nat.zero_mul, Nat.add_zero, wrap64 (by omega) (by omega)]; omega
  obtain ⟨g1, g2⟩ := getV hp
  have hge : decide (((o + a * s + b * u : Nat) : Int) ≥ Int.ofNat l.length) = false := decide_eq_false (by simp only [Int.ofNat_eq_natCast]; omega)
  refine ⟨IntKind.i64.wrap (((o + (a + 1) * s + 0 * u : Nat) : Int) - IntKind.i64.wrap (((a + 1 : Nat) : Int) * s)), ?_⟩
  rw [← Nat.add_assoc (a * v) b 1, tab_succ]
  have hfm : f2V l o v s u (a * v + b) = l.getD (o + a * s + b * u) 0 := by
    have hpl := (place_iff (i := a) (p := a * v + b) (j := b) hb).mp rfl
    unfold f2V
    rw [hpl.1, hpl.2]
  have hlen : (tab (a * v + b) (f2V l o v s u)).length = a * v + b := tab_length _ _
  have fin : ∀ (q : Int) (r : List Int), tab (a * v + b) (f2V l o v s u) ++ [l.getD (o + a * s + b * u) 0] = q :: r → True := fun _ _ _ => trivial
  cases htab : tab (a * v + b) (f2V l o v s u) with
  | nil =>
    show lp g163 cf_pla (cL (cL (cR (cR C_pla)))) (n + 1) (stW0 o [(w : Int), (v : Int)] [(s : Int), (u : Int)] l [(a : Int), (b : Int)] ((o + a * s + b * u : Nat) : Int)) k = _
    rw [w2_st0, hge, cond_false, g1, Option.bind_some, Int.toNat_natCast, g2, Option.bind_some, e0, e1, hfm]
    by_cases h : b + 1 < v
    · rw [decide_eq_true (show ((b + 1 : Nat) : Int) < (v : Int) by omega), cond_true, if_pos h]
      rfl
    · rw [decide_eq_false (show ¬ (((b + 1 : Nat) : Int) < (v : Int)) by omega), cond_false, if_neg h, e2, e3, e4, e0a]
      by_cases h2 : a + 1 < w
      · rw [decide_eq_true (show ((a + 1 : Nat) : Int) < (w : Int) by omega), cond_true, if_pos h2]
        rfl
      · rw [decide_eq_false (show ¬ (((a + 1 : Nat) : Int) < (w : Int)) by omega), cond_false, if_neg h2]
        rfl
  | cons q r =>
    have hl2 : (q :: r).length ≤ 65536 := by rw [← htab, hlen]; omega
    show lp g163 cf_pla (cL (cL (cR (cR C_pla)))) (n + 1) (stW1 o [(w : Int), (v : Int)] [(s : Int), (u : Int)] l [(a : Int), (b : Int)] ((o + a * s + b * u : Nat) : Int) (q :: r)) k = _
    rw [w2_st1, hge, cond_false, g1, Option.bind_some, Int.toNat_natCast, g2, Option.bind_some, app_one hl2, Option.bind_some, e0, e1, hfm]
    by_cases h : b + 1 < v
    · rw [decide_eq_true (show ((b + 1 : Nat) : Int) < (v : Int) by omega), cond_true, if_pos h]
      rfl
    · rw [decide_eq_false (show ¬ (((b + 1 : Nat) : Int) < (v : Int)) by omega), cond_false, if_neg h, e2, e3, e4, e0a]
      by_cases h2 : a + 1 < w
      · rw [decide_eq_true (show ((a + 1 : Nat) : Int) < (w : Int) by omega), cond_true, if_pos h2]
        rfl
      · rw [decide_eq_false (show ¬ (((a + 1 : Nat) : Int) < (w : Int)) by omega), cond_false, if_neg h2]
        rfl
theorem w2_all {o w v s u : Nat} {l : List Int} (ho : o ≤ 65536) (hs : s ≤ 65536) (hu : u ≤ 65536) (hwv : w * v ≤ 65536) (hp : o + (w - 1) * s + (v - 1) * u < l.length) : ∀ (r a b n : Nat), a < w → b < v → a * v + b + r + 1 = w * v → r < n →
    lp g163 cf_pla (cL (cL (cR (cR C_pla)))) n (stWm o [(w : Int), (v : Int)] [(s : Int), (u : Int)] l [(a : Int), (b : Int)] ((o + a * s + b * u : Nat) : Int) (tab (a * v + b) (f2V l o v s u))) WK = some (.ret [], hpYW o [(w : Int), (v : Int)] [(s : Int), (u : Int)] l (tab (w * v) (f2V l o v s u))) := by
  intro r
  induction r with
  | zero =>
    intro a b n ha hb hr hn
    obtain ⟨n, rfl⟩ : ∃ m', n = m' + 1 := ⟨n - 1, by omega⟩
    have hav := row_le (C := v) ha
    have ha1 : a + 1 = w := by
      rcases Nat.lt_or_ge (a + 1) w with h | h
      · have := row_le (C := v) h
        rw [Nat.add_mul, Nat.one_mul] at this
        omega
      · omega
    have hle1 : a * s ≤ (w - 1) * s := Nat.mul_le_mul_right _ (by omega)
    have hle2 : b * u ≤ (v - 1) * u := Nat.mul_le_mul_right _ (by omega)
    obtain ⟨P, h⟩ := w2_one ha hb ho hs hu hwv (show o + a * s + b * u < l.length by omega) n WK
    have hb1 : b + 1 = v := by
      rw [← ha1, Nat.add_mul, Nat.one_mul] at hr
      omega
    rw [h, if_neg (by omega), if_neg (by omega), show a * v + (b + 1) = w * v by omega]
    exact WK_end _ _ _ _ _ _ _
  | succ r ih =>
    intro a b n ha hb hr hn
    obtain ⟨n, rfl⟩ : ∃ m', n = m' + 1 := ⟨n - 1, by omega⟩
    have hle1 : a * s ≤ (w - 1) * s := Nat.mul_le_mul_right _ (by omega)
    have hle2 : b * u ≤ (v - 1) * u := Nat.mul_le_mul_right _ (by omega)
    obtain ⟨P, h⟩ := w2_one ha hb ho hs hu hwv (show o + a * s + b * u < l.length by omega) n WK
    rw [h]
    by_cases h1 : b + 1 < v
    · rw [if_pos h1]
      exact ih a (b + 1) n ha h1 (by omega) (by omega)
    · have hb1 : b + 1 = v := by omega
      have ha1 : a + 1 < w := by
        rcases Nat.lt_or_ge (a + 1) w with h2 | h2
        · exact h2
        · have : w = a + 1 := by omega
          subst this
          rw [Nat.add_mul, Nat.one_mul] at hr
          omega
      rw [if_neg h1, if_pos ha1, hb1, show a * v + v = (a + 1) * v + 0 by rw [Nat.add_mul, Nat.one_mul, Nat.add_zero]]
      exact ih (a + 1) 0 n ha1 (by omega) (by rw [Nat.add_mul, Nat.one_mul]; omega) (by omega)
end Go.Proofs.XGT
/- view.Read of views of rank 2, of numbers that came in: run. -/
namespace Go.Proofs.XGT
open Go.Vm Go
set_option maxRecDepth 100000
set_option maxHeartbeats 4000000
noncomputable def C_reb : Code := codeOf Tryz.f79
noncomputable def cf_reb : Cfg := ⟨26, 5, 2, [(5, [0, 1, 2, 3, 4, 5, 6, 14, 15, 16, 17, 18, 19, 20, 21, 22, 23, 24])], true⟩
noncomputable def C_plb : Code := codeOf Tryz.f132
noncomputable def cf_plb : Cfg := ⟨63, 6, 9, [(2, [0, 1, 3, 4]), (4, [0, 1, 3, 4, 5])], true⟩
noncomputable def gVb (F : FnE) : Env := g184.add 132 F
def vwB (off : Int) (a b : Nat) : AV := .pr (I off) (.pr (.os a 0) (.pr (.os b 0) (.d .unit ())))
def hpW2 (w v s u : Int) : LHp := [(0, .arr 3 i64T 0 false [s, u]), (1, .arr 3 i64T 0 false [w, v])]
theorem reb_eqH (hl : Hl) (F : FnE) (off w v s u : Int) (l : List Int) : runQ (gVb F) Tryz.f79 5 [(5, [0, 1, 2, 3, 4, 5, 6, 14, 15, 16, 17, 18, 19, 20, 21, 22, 23, 24])] hl [vwB off 1 0, .d (.slice i64T) l] (hpW2 w v s u) ah =
  bif countE [w, v] == 0 then 
    bif decide (off ≥ 0) then 
      bif decide (off < 65536) then 
        bif decide (s < 0) then some (AEnd.ret [AV.nils, I 1], [(0, AObj.arr 3 (i64T) 0 false [s, u]), (1, AObj.arr 3 (i64T) 0 false [w, v])])
        else 
          bif decide (s > 65536) then some (AEnd.ret [AV.nils, I 1], [(0, AObj.arr 3 (i64T) 0 false [s, u]), (1, AObj.arr 3 (i64T) 0 false [w, v])])
          else 
            bif decide (u < 0) then some (AEnd.ret [AV.nils, I 1], [(0, AObj.arr 3 (i64T) 0 false [s, u]), (1, AObj.arr 3 (i64T) 0 false [w, v])])
            else 
              bif decide (u > 65536) then some (AEnd.ret [AV.nils, I 1], [(0, AObj.arr 3 (i64T) 0 false [s, u]), (1, AObj.arr 3 (i64T) 0 false [w, v])])
              else hl (cL (cR (cL (cR (cR (cR C_reb)))))) _ { fr := mkFr 5 [(0, (I off).pr ((AV.os 1 0).pr ((AV.os 0 0).pr (AV.d Ty.unit PUnit.unit)))), (1, AV.d (i64T).slice l), (2, AV.op 2 [] 0), (3, AV.op 3 [] 0), (4, AV.op 4 [] 0), (5, AV.op 5 [] 0), (6, AV.op 8 [] 0), (8, (I off).pr ((AV.os 1 0).pr ((AV.os 0 0).pr (AV.d Ty.unit PUnit.unit)))), (9, B true), (10, B false), (11, (I off).pr ((AV.os 1 0).pr ((AV.os 0 0).pr (AV.d Ty.unit PUnit.unit)))), (12, AV.fn (Fn.func 132) [] [AV.op 9 [] 0])], hp := [(0, AObj.arr 3 (i64T) 0 false [s, u]), (1, AObj.arr 3 (i64T) 0 false [w, v]), (9, AObj.box ((I off).pr ((AV.os 1 0).pr ((AV.os 0 0).pr (AV.d Ty.unit PUnit.unit))))), (8, AObj.box AV.nils), (0, AObj.arr 3 (i64T) 0 false [s, u]), (1, AObj.arr 3 (i64T) 0 false [w, v]), (5, AObj.box (I 0)), (4, AObj.box AV.nils), (3, AObj.box (AV.d (i64T).slice l)), (2, AObj.box ((I off).pr ((AV.os 1 0).pr ((AV.os 0 0).pr (AV.d Ty.unit PUnit.unit))))), (0, AObj.arr 3 (i64T) 0 false [s, u]), (1, AObj.arr 3 (i64T) 0 false [w, v])], nx := 12 } (blkK 0 (seqQ (gVb F) cf_reb hl (cR (cR (cR (cR C_reb)))) (endC Tryz.prog 2 Tryz.f79.results.toList ah)))
      else some (AEnd.ret [AV.nils, I 1], [(0, AObj.arr 3 (i64T) 0 false [s, u]), (1, AObj.arr 3 (i64T) 0 false [w, v])])
    else some (AEnd.ret [AV.nils, I 1], [(0, AObj.arr 3 (i64T) 0 false [s, u]), (1, AObj.arr 3 (i64T) 0 false [w, v])])
  else some (AEnd.ret [AV.nils, I 1], [(0, AObj.arr 3 (i64T) 0 false [s, u]), (1, AObj.arr 3 (i64T) 0 false [w, v])]) := by kernel_rfl
theorem reb_eq (F : FnE) (off w v s u : Int) (l : List Int) : runC (gVb F) Tryz.f79 5 [(5, [0, 1, 2, 3, 4, 5, 6, 14, 15, 16, 17, 18, 19, 20, 21, 22, 23, 24])] [vwB off 1 0, .d (.slice i64T) l] (hpW2 w v s u) ah =
  bif countE [w, v] == 0 then 
    bif decide (off ≥ 0) then 
      bif decide (off < 65536) then 
        bif decide (s < 0) then some (AEnd.ret [AV.nils, I 1], [(0, AObj.arr 3 (i64T) 0 false [s, u]), (1, AObj.arr 3 (i64T) 0 false [w, v])])
        else 
          bif decide (s > 65536) then some (AEnd.ret [AV.nils, I 1], [(0, AObj.arr 3 (i64T) 0 false [s, u]), (1, AObj.arr 3 (i64T) 0 false [w, v])])
          else 
            bif decide (u < 0) then some (AEnd.ret [AV.nils, I 1], [(0, AObj.arr 3 (i64T) 0 false [s, u]), (1, AObj.arr 3 (i64T) 0 false [w, v])])
            else 
              bif decide (u > 65536) then some (AEnd.ret [AV.nils, I 1], [(0, AObj.arr 3 (i64T) 0 false [s, u]), (1, AObj.arr 3 (i64T) 0 false [w, v])])
              else (rfp (gVb F) cf_reb) (cL (cR (cL (cR (cR (cR C_reb)))))) _ { fr := mkFr 5 [(0, (I off).pr ((AV.os 1 0).pr ((AV.os 0 0).pr (AV.d Ty.unit PUnit.unit)))), (1, AV.d (i64T).slice l), (2, AV.op 2 [] 0), (3, AV.op 3 [] 0), (4, AV.op 4 [] 0), (5, AV.op 5 [] 0), (6, AV.op 8 [] 0), (8, (I off).pr ((AV.os 1 0).pr ((AV.os 0 0).pr (AV.d Ty.unit PUnit.unit)))), (9, B true), (10, B false), (11, (I off).pr ((AV.os 1 0).pr ((AV.os 0 0).pr (AV.d Ty.unit PUnit.unit)))), (12, AV.fn (Fn.func 132) [] [AV.op 9 [] 0])], hp := [(0, AObj.arr 3 (i64T) 0 false [s, u]), (1, AObj.arr 3 (i64T) 0 false [w, v]), (9, AObj.box ((I off).pr ((AV.os 1 0).pr ((AV.os 0 0).pr (AV.d Ty.unit PUnit.unit))))), (8, AObj.box AV.nils), (0, AObj.arr 3 (i64T) 0 false [s, u]), (1, AObj.arr 3 (i64T) 0 false [w, v]), (5, AObj.box (I 0)), (4, AObj.box AV.nils), (3, AObj.box (AV.d (i64T).slice l)), (2, AObj.box ((I off).pr ((AV.os 1 0).pr ((AV.os 0 0).pr (AV.d Ty.unit PUnit.unit))))), (0, AObj.arr 3 (i64T) 0 false [s, u]), (1, AObj.arr 3 (i64T) 0 false [w, v])], nx := 12 } (blkK 0 (seqQ (gVb F) cf_reb (rfp (gVb F) cf_reb) (cR (cR (cR (cR C_reb)))) (endC Tryz.prog 2 Tryz.f79.results.toList ah)))
      else some (AEnd.ret [AV.nils, I 1], [(0, AObj.arr 3 (i64T) 0 false [s, u]), (1, AObj.arr 3 (i64T) 0 false [w, v])])
    else some (AEnd.ret [AV.nils, I 1], [(0, AObj.arr 3 (i64T) 0 false [s, u]), (1, AObj.arr 3 (i64T) 0 false [w, v])])
  else some (AEnd.ret [AV.nils, I 1], [(0, AObj.arr 3 (i64T) 0 false [s, u]), (1, AObj.arr 3 (i64T) 0 false [w, v])]) := runQ_runC.trans (reb_eqH (rfp (gVb F) cf_reb) F off w v s u l)
def frVb (off : Int) (l : List Int) : Tr := mkFr 5 [(0, vwB off 1 0), (1, .d (.slice i64T) l), (2, .op 2 [] 0), (3, .op 3 [] 0), (4, .op 4 [] 0), (5, .op 5 [] 0), (6, .op 8 [] 0), (8, vwB off 1 0), (9, B true), (10, B false), (11, vwB off 1 0), (12, .fn (.func 132) [] [.op 9 [] 0])]
def hpVb (off : Int) (ds ss l : List Int) : LHp := [(0, .arr 3 i64T 0 false ss), (1, .arr 3 i64T 0 false ds), (9, .box (vwB off 1 0)), (8, .box .nils), (0, .arr 3 i64T 0 false ss), (1, .arr 3 i64T 0 false ds), (5, .box (I 0)), (4, .box .nils), (3, .box (.d (.slice i64T) l)), (2, .box (vwB off 1 0)), (0, .arr 3 i64T 0 false ss), (1, .arr 3 i64T 0 false ds)]
def rfLw (cf : Cfg) : Code → LoopC
  | .rangeFunc _ ps a b => ⟨cf.depth, ps, a, b, cf.n⟩
  | _ => ⟨0, #[], .skip, .skip, 0⟩
noncomputable def LC_reb : LoopC := rfLw cf_reb (cL (cR (cL (cR (cR (cR C_reb))))))
def frecVb (off : Int) (l : List Int) : List (Nat × AV) := [(0, vwB off 7 6), (1, .d (.slice i64T) l), (2, .op 5 [] 0), (3, .op 4 [] 0), (4, .op 3 [] 0), (5, .op 2 [] 0), (6, .op 1 [] 0)]
noncomputable def hpYb (off : Int) (ds ss l : List Int) (o : AV) : LHp := [(0, .box (vwB off 7 6)), (1, .box o), (2, .box (I 0)), (3, .box .nils), (4, .box (.d (.slice i64T) l)), (5, .box (vwB off 7 6)), (6, .arr 3 i64T 0 false ss), (7, .arr 3 i64T 0 false ds), (8, .rc (.loop LC_reb (frecVb off l) .ready))]
noncomputable def frecVbT (off : Int) (l : List Int) : List (Nat × AV) := slotsF ⟨frVb off l, [], 0⟩ (loopLive cf_reb LC_reb.assign)
noncomputable def hpVb2 (off : Int) (ds ss l : List Int) : LHp := (12, .rc (.loop LC_reb (frecVbT off l) .ready)) :: hpVb off ds ss l
theorem reb_rf (F : FnE) (off : Int) (ds ss l : List Int) (k : AEx → LSt → Option (AEnd × LHp)) : exC (gVb F) cf_reb (cL (cR (cL (cR (cR (cR C_reb)))))) ⟨frVb off l, hpVb off ds ss l, 12⟩ k =
    F.run [.ref 8, .op 0 [] 0] (hpYb off ds ss l .nils) (callK [9, 8, 5, 4, 3, 2, 0, 1, 12] (hpVb2 off ds ss l) 13 (rfK (frVb off l) (hpVb2 off ds ss l) 12 k) (rfP (frVb off l) (hpVb2 off ds ss l) 12 k)) := by kernel_rfl
noncomputable def RKb (F : FnE) : AEx → LSt → Option (AEnd × LHp) := blkK 0 (seqQ (gVb F) cf_reb (rfp (gVb F) cf_reb) (cR (cR (cR (cR C_reb)))) (endC Tryz.prog 2 Tryz.f79.results.toList ah))
noncomputable def hpYbW (off : Int) (ds ss l out : List Int) : LHp := [(0, .box (vwB off 7 6)), (7, .arr 3 i64T 0 false ds), (6, .arr 3 i64T 0 false ss), (1, .box (.os 9 0)), (9, .arr 2 i64T 0 false out), (2, .box (I 0)), (3, .box .nils), (4, .box (.d (.slice i64T) l)), (5, .box (vwB off 7 6)), (8, .rc (.loop LC_reb (frecVb off l) .ready))]
theorem reb_fin (F : FnE) (off : Int) (ds ss l out : List Int) : callK [9, 8, 5, 4, 3, 2, 0, 1, 12] (hpVb2 off ds ss l) 13 (rfK (frVb off l) (hpVb2 off ds ss l) 12 (RKb F)) (rfP (frVb off l) (hpVb2 off ds ss l) 12 (RKb F)) (.ret []) (hpYbW off ds ss l out) =
  some (AEnd.ret [AV.os 2 0, I 0], [(0, AObj.arr 3 (i64T) 0 false ss), (1, AObj.arr 3 (i64T) 0 false ds), (2, AObj.arr 2 (i64T) 0 false out)]) := by kernel_rfl
theorem plb_eq2H (hl : Hl) (off w v s u : Int) (l : List Int) : runH g163 Tryz.f132 6 [(2, [0, 1, 3, 4]), (4, [0, 1, 3, 4, 5])] [2] hl [.ref 8, .op 0 [] 0] (hpYb off [w, v] [s, u] l .nils) ah =
  hl (cL (cL (cR (cR C_plb)))) _ { fr := mkFr 6 [(0, AV.ref 8), (1, AV.op 0 [] 0), (3, AV.os 9 0), (4, I off)], hp := [(0, AObj.box ((I off).pr ((AV.os 7 0).pr ((AV.os 6 0).pr (AV.d Ty.unit PUnit.unit))))), (7, AObj.arr 3 (i64T) 0 false [w, v]), (6, AObj.arr 3 (i64T) 0 false [s, u]), (1, AObj.box AV.nils), (2, AObj.box (I 0)), (3, AObj.box AV.nils), (4, AObj.box (AV.d (i64T).slice l)), (5, AObj.box ((I off).pr ((AV.os 7 0).pr ((AV.os 6 0).pr (AV.d Ty.unit PUnit.unit))))), (8, AObj.rc (ARec.loop LC_reb [(0, (I off).pr ((AV.os 7 0).pr ((AV.os 6 0).pr (AV.d Ty.unit PUnit.unit)))), (1, AV.d (i64T).slice l), (2, AV.op 5 [] 0), (3, AV.op 4 [] 0), (4, AV.op 3 [] 0), (5, AV.op 2 [] 0), (6, AV.op 1 [] 0)] LSta.ready)), (9, AObj.arr 3 (i64T) 0 false [0, 0])], nx := 19 } (blkK 0 (endC Tryz.prog 9 Tryz.f132.results.toList ah)) := by kernel_rfl
theorem plb_eq2 (off w v s u : Int) (l : List Int) : runC g163 Tryz.f132 6 [(2, [0, 1, 3, 4]), (4, [0, 1, 3, 4, 5])] [.ref 8, .op 0 [] 0] (hpYb off [w, v] [s, u] l .nils) ah =
  (hlp g163 cf_plb) (cL (cL (cR (cR C_plb)))) _ { fr := mkFr 6 [(0, AV.ref 8), (1, AV.op 0 [] 0), (3, AV.os 9 0), (4, I off)], hp := [(0, AObj.box ((I off).pr ((AV.os 7 0).pr ((AV.os 6 0).pr (AV.d Ty.unit PUnit.unit))))), (7, AObj.arr 3 (i64T) 0 false [w, v]), (6, AObj.arr 3 (i64T) 0 false [s, u]), (1, AObj.box AV.nils), (2, AObj.box (I 0)), (3, AObj.box AV.nils), (4, AObj.box (AV.d (i64T).slice l)), (5, AObj.box ((I off).pr ((AV.os 7 0).pr ((AV.os 6 0).pr (AV.d Ty.unit PUnit.unit))))), (8, AObj.rc (ARec.loop LC_reb [(0, (I off).pr ((AV.os 7 0).pr ((AV.os 6 0).pr (AV.d Ty.unit PUnit.unit)))), (1, AV.d (i64T).slice l), (2, AV.op 5 [] 0), (3, AV.op 4 [] 0), (4, AV.op 3 [] 0), (5, AV.op 2 [] 0), (6, AV.op 1 [] 0)] LSta.ready)), (9, AObj.arr 3 (i64T) 0 false [0, 0])], nx := 19 } (blkK 0 (endC Tryz.prog 9 Tryz.f132.results.toList ah)) := runH_runC.trans (plb_eq2H (hlp g163 cf_plb) off w v s u l)
noncomputable def stVb (at_ : Nat) (off : Int) (ds ss l A : List Int) (p : Int) (nx : Nat) (o : AV) (oh : LHp) : LSt := ⟨mkFr 6 [(0, .ref 8), (1, .op 0 [] 0), (3, .os at_ 0), (4, I p)], [(0, .box (vwB off 7 6)), (7, .arr 3 i64T 0 false ds), (6, .arr 3 i64T 0 false ss), (1, .box o)] ++ oh ++ [(2, .box (I 0)), (3, .box .nils), (4, .box (.d (.slice i64T) l)), (5, .box (vwB off 7 6)), (8, .rc (.loop LC_reb (frecVb off l) .ready)), (at_, .arr 3 i64T 0 false A)], nx⟩
noncomputable def stVb0 (off : Int) (ds ss l A : List Int) (p : Int) : LSt := stVb 9 off ds ss l A p 19 .nils []
noncomputable def stVb1 (off : Int) (ds ss l A : List Int) (p : Int) (out : List Int) : LSt := stVb 10 off ds ss l A p 20 (.os 9 0) [(9, .arr 2 i64T 0 false out)]
theorem b2_st0H (hl : Hl) (off w v s u : Int) (l : List Int) (a b p : Int) (n : Nat) {R : Type} (k : AEx → LSt → Option R) : lpH g163 cf_plb [2] hl (cL (cL (cR (cR C_plb)))) (n + 1) (stVb0 off [w, v] [s, u] l [a, b] p) k =
  bif decide (p ≥ Int.ofNat l.length) then k AEx.ret { fr := mkFr 6 [(0, AV.ref 8), (1, AV.op 0 [] 0), (3, AV.os 9 0), (4, I p), (12, AV.ref 8), (13, I p), (14, B false), (15, B true)], hp := [(1, AObj.box AV.nils), (2, AObj.box (I 1)), (3, AObj.box AV.nils), (4, AObj.box (AV.d (i64T).slice l)), (5, AObj.box ((I off).pr ((AV.os 7 0).pr ((AV.os 6 0).pr (AV.d Ty.unit PUnit.unit))))), (6, AObj.arr 3 (i64T) 0 false [s, u]), (7, AObj.arr 3 (i64T) 0 false [w, v]), (8, AObj.rc (ARec.loop LC_reb [(0, (I off).pr ((AV.os 7 0).pr ((AV.os 6 0).pr (AV.d Ty.unit PUnit.unit)))), (1, AV.d (i64T).slice l), (2, AV.op 5 [] 0), (3, AV.op 4 [] 0), (4, AV.op 3 [] 0), (5, AV.op 2 [] 0), (6, AV.op 1 [] 0)] (LSta.done Jmp.ret))), (0, AObj.box ((I off).pr ((AV.os 7 0).pr ((AV.os 6 0).pr (AV.d Ty.unit PUnit.unit))))), (7, AObj.arr 3 (i64T) 0 false [w, v]), (6, AObj.arr 3 (i64T) 0 false [s, u]), (1, AObj.box AV.nils), (2, AObj.box (I 0)), (3, AObj.box AV.nils), (4, AObj.box (AV.d (i64T).slice l)), (5, AObj.box ((I off).pr ((AV.os 7 0).pr ((AV.os 6 0).pr (AV.d Ty.unit PUnit.unit))))), (8, AObj.rc (ARec.loop LC_reb [(0, (I off).pr ((AV.os 7 0).pr ((AV.os 6 0).pr (AV.d Ty.unit PUnit.unit)))), (1, AV.d (i64T).slice l), (2, AV.op 5 [] 0), (3, AV.op 4 [] 0), (4, AV.op 3 [] 0), (5, AV.op 2 [] 0), (6, AV.op 1 [] 0)] LSta.ready)), (9, AObj.arr 3 (i64T) 0 false [a, b])], nx := 27 }
  else (idx l p).bind fun v1 =>
      bif decide (IntKind.i64.wrap (b + 1) < v) then lpH g163 cf_plb [2] hl (cL (cL (cR (cR C_plb)))) n { fr := mkFr 6 [(0, AV.ref 8), (1, AV.op 0 [] 0), (3, AV.os 10 0), (4, I (IntKind.i64.wrap (p + u)))], hp := [(0, AObj.box ((I off).pr ((AV.os 7 0).pr ((AV.os 6 0).pr (AV.d Ty.unit PUnit.unit))))), (7, AObj.arr 3 (i64T) 0 false [w, v]), (6, AObj.arr 3 (i64T) 0 false [s, u]), (1, AObj.box (AV.os 9 0)), (9, AObj.arr 2 (i64T) 0 false [v1]), (2, AObj.box (I 0)), (3, AObj.box AV.nils), (4, AObj.box (AV.d (i64T).slice l)), (5, AObj.box ((I off).pr ((AV.os 7 0).pr ((AV.os 6 0).pr (AV.d Ty.unit PUnit.unit))))), (8, AObj.rc (ARec.loop LC_reb [(0, (I off).pr ((AV.os 7 0).pr ((AV.os 6 0).pr (AV.d Ty.unit PUnit.unit)))), (1, AV.d (i64T).slice l), (2, AV.op 5 [] 0), (3, AV.op 4 [] 0), (4, AV.op 3 [] 0), (5, AV.op 2 [] 0), (6, AV.op 1 [] 0)] LSta.ready)), (10, AObj.arr 3 (i64T) 0 false [a, IntKind.i64.wrap (b + 1)])], nx := 20 } k
      else 
        bif decide (IntKind.i64.wrap (a + 1) < w) then lpH g163 cf_plb [2] hl (cL (cL (cR (cR C_plb)))) n { fr := mkFr 6 [(0, AV.ref 8), (1, AV.op 0 [] 0), (3, AV.os 10 0), (4, I (IntKind.i64.wrap (IntKind.i64.wrap (IntKind.i64.wrap (p + u) - IntKind.i64.wrap (IntKind.i64.wrap (b + 1) * u)) + s)))], hp := [(0, AObj.box ((I off).pr ((AV.os 7 0).pr ((AV.os 6 0).pr (AV.d Ty.unit PUnit.unit))))), (7, AObj.arr 3 (i64T) 0 false [w, v]), (6, AObj.arr 3 (i64T) 0 false [s, u]), (1, AObj.box (AV.os 9 0)), (9, AObj.arr 2 (i64T) 0 false [v1]), (2, AObj.box (I 0)), (3, AObj.box AV.nils), (4, AObj.box (AV.d (i64T).slice l)), (5, AObj.box ((I off).pr ((AV.os 7 0).pr ((AV.os 6 0).pr (AV.d Ty.unit PUnit.unit))))), (8, AObj.rc (ARec.loop LC_reb [(0, (I off).pr ((AV.os 7 0).pr ((AV.os 6 0).pr (AV.d Ty.unit PUnit.unit)))), (1, AV.d (i64T).slice l), (2, AV.op 5 [] 0), (3, AV.op 4 [] 0), (4, AV.op 3 [] 0), (5, AV.op 2 [] 0), (6, AV.op 1 [] 0)] LSta.ready)), (10, AObj.arr 3 (i64T) 0 false [IntKind.i64.wrap (a + 1), 0])], nx := 20 } k
        else k AEx.ret { fr := mkFr 6 [(0, AV.ref 8), (1, AV.op 0 [] 0), (3, AV.os 10 0), (4, I (IntKind.i64.wrap (IntKind.i64.wrap (IntKind.i64.wrap (IntKind.i64.wrap (p + u) - IntKind.i64.wrap (IntKind.i64.wrap (b + 1) * u)) + s) - IntKind.i64.wrap (IntKind.i64.wrap (a + 1) * s)))), (5, I (-1)), (19, I (-1)), (20, B false), (61, I (-1)), (62, B true)], hp := [(0, AObj.box ((I off).pr ((AV.os 7 0).pr ((AV.os 6 0).pr (AV.d Ty.unit PUnit.unit))))), (7, AObj.arr 3 (i64T) 0 false [w, v]), (6, AObj.arr 3 (i64T) 0 false [s, u]), (1, AObj.box (AV.os 9 0)), (9, AObj.arr 2 (i64T) 0 false [v1]), (2, AObj.box (I 0)), (3, AObj.box AV.nils), (4, AObj.box (AV.d (i64T).slice l)), (5, AObj.box ((I off).pr ((AV.os 7 0).pr ((AV.os 6 0).pr (AV.d Ty.unit PUnit.unit))))), (8, AObj.rc (ARec.loop LC_reb [(0, (I off).pr ((AV.os 7 0).pr ((AV.os 6 0).pr (AV.d Ty.unit PUnit.unit)))), (1, AV.d (i64T).slice l), (2, AV.op 5 [] 0), (3, AV.op 4 [] 0), (4, AV.op 3 [] 0), (5, AV.op 2 [] 0), (6, AV.op 1 [] 0)] LSta.ready)), (10, AObj.arr 3 (i64T) 0 false [0, 0])], nx := 20 } := by kernel_rfl
theorem b2_st0 (off w v s u : Int) (l : List Int) (a b p : Int) (n : Nat) {R : Type} (k : AEx → LSt → Option R) : lp g163 cf_plb (cL (cL (cR (cR C_plb)))) (n + 1) (stVb0 off [w, v] [s, u] l [a, b] p) k =
  bif decide (p ≥ Int.ofNat l.length) then k AEx.ret { fr := mkFr 6 [(0, AV.ref 8), (1, AV.op 0 [] 0), (3, AV.os 9 0), (4, I p), (12, AV.ref 8), (13, I p), (14, B false), (15, B true)], hp := [(1, AObj.box AV.nils), (2, AObj.box (I 1)), (3, AObj.box AV.nils), (4, AObj.box (AV.d (i64T).slice l)), (5, AObj.box ((I off).pr ((AV.os 7 0).pr ((AV.os 6 0).pr (AV.d Ty.unit PUnit.unit))))), (6, AObj.arr 3 (i64T) 0 false [s, u]), (7, AObj.arr 3 (i64T) 0 false [w, v]), (8, AObj.rc (ARec.loop LC_reb [(0, (I off).pr ((AV.os 7 0).pr ((AV.os 6 0).pr (AV.d Ty.unit PUnit.unit)))), (1, AV.d (i64T).slice l), (2, AV.op 5 [] 0), (3, AV.op 4 [] 0), (4, AV.op 3 [] 0), (5, AV.op 2 [] 0), (6, AV.op 1 [] 0)] (LSta.done Jmp.ret))), (0, AObj.box ((I off).pr ((AV.os 7 0).pr ((AV.os 6 0).pr (AV.d Ty.unit PUnit.unit))))), (7, AObj.arr 3 (i64T) 0 false [w, v]), (6, AObj.arr 3 (i64T) 0 false [s, u]), (1, AObj.box AV.nils), (2, AObj.box (I 0)), (3, AObj.box AV.nils), (4, AObj.box (AV.d (i64T).slice l)), (5, AObj.box ((I off).pr ((AV.os 7 0).pr ((AV.os 6 0).pr (AV.d Ty.unit PUnit.unit))))), (8, AObj.rc (ARec.loop LC_reb [(0, (I off).pr ((AV.os 7 0).pr ((AV.os 6 0).pr (AV.d Ty.unit PUnit.unit)))), (1, AV.d (i64T).slice l), (2, AV.op 5 [] 0), (3, AV.op 4 [] 0), (4, AV.op 3 [] 0), (5, AV.op 2 [] 0), (6, AV.op 1 [] 0)] LSta.ready)), (9, AObj.arr 3 (i64T) 0 false [a, b])], nx := 27 }
  else (idx l p).bind fun v1 =>
      bif decide (IntKind.i64.wrap (b + 1) < v) then lp g163 cf_plb (cL (cL (cR (cR C_plb)))) n { fr := mkFr 6 [(0, AV.ref 8), (1, AV.op 0 [] 0), (3, AV.os 10 0), (4, I (IntKind.i64.wrap (p + u)))], hp := [(0, AObj.box ((I off).pr ((AV.os 7 0).pr ((AV.os 6 0).pr (AV.d Ty.unit PUnit.unit))))), (7, AObj.arr 3 (i64T) 0 false [w, v]), (6, AObj.arr 3 (i64T) 0 false [s, u]), (1, AObj.box (AV.os 9 0)), (9, AObj.arr 2 (i64T) 0 false [v1]), (2, AObj.box (I 0)), (3, AObj.box AV.nils), (4, AObj.box (AV.d (i64T).slice l)), (5, AObj.box ((I off).pr ((AV.os 7 0).pr ((AV.os 6 0).pr (AV.d Ty.unit PUnit.unit))))), (8, AObj.rc (ARec.loop LC_reb [(0, (I off).pr ((AV.os 7 0).pr ((AV.os 6 0).pr (AV.d Ty.unit PUnit.unit)))), (1, AV.d (i64T).slice l), (2, AV.op 5 [] 0), (3, AV.op 4 [] 0), (4, AV.op 3 [] 0), (5, AV.op 2 [] 0), (6, AV.op 1 [] 0)] LSta.ready)), (10, AObj.arr 3 (i64T) 0 false [a, IntKind.i64.wrap (b + 1)])], nx := 20 } k
      else 
        bif decide (IntKind.i64.wrap (a + 1) < w) then lp g163 cf_plb (cL (cL (cR (cR C_plb)))) n { fr := mkFr 6 [(0, AV.ref 8), (1, AV.op 0 [] 0), (3, AV.os 10 0), (4, I (IntKind.i64.wrap (IntKind.i64.wrap (IntKind.i64.wrap (p + u) - IntKind.i64.wrap (IntKind.i64.wrap (b + 1) * u)) + s)))], hp := [(0, AObj.box ((I off).pr ((AV.os 7 0).pr ((AV.os 6 0).pr (AV.d Ty.unit PUnit.unit))))), (7, AObj.arr 3 (i64T) 0 false [w, v]), (6, AObj.arr 3 (i64T) 0 false [s, u]), (1, AObj.box (AV.os 9 0)), (9, AObj.arr 2 (i64T) 0 false [v1]), (2, AObj.box (I 0)), (3, AObj.box AV.nils), (4, AObj.box (AV.d (i64T).slice l)), (5, AObj.box ((I off).pr ((AV.os 7 0).pr ((AV.os 6 0).pr (AV.d Ty.unit PUnit.unit))))), (8, AObj.rc (ARec.loop LC_reb [(0, (I off).pr ((AV.os 7 0).pr ((AV.os 6 0).pr (AV.d Ty.unit PUnit.unit)))), (1, AV.d (i64T).slice l), (2, AV.op 5 [] 0), (3, AV.op 4 [] 0), (4, AV.op 3 [] 0), (5, AV.op 2 [] 0), (6, AV.op 1 [] 0)] LSta.ready)), (10, AObj.arr 3 (i64T) 0 false [IntKind.i64.wrap (a + 1), 0])], nx := 20 } k
        else k AEx.ret { fr := mkFr 6 [(0, AV.ref 8), (1, AV.op 0 [] 0), (3, AV.os 10 0), (4, I (IntKind.i64.wrap (IntKind.i64.wrap (IntKind.i64.wrap (IntKind.i64.wrap (p + u) - IntKind.i64.wrap (IntKind.i64.wrap (b + 1) * u)) + s) - IntKind.i64.wrap (IntKind.i64.wrap (a + 1) * s)))), (5, I (-1)), (19, I (-1)), (20, B false), (61, I (-1)), (62, B true)], hp := [(0, AObj.box ((I off).pr ((AV.os 7 0).pr ((AV.os 6 0).pr (AV.d Ty.unit PUnit.unit))))), (7, AObj.arr 3 (i64T) 0 false [w, v]), (6, AObj.arr 3 (i64T) 0 false [s, u]), (1, AObj.box (AV.os 9 0)), (9, AObj.arr 2 (i64T) 0 false [v1]), (2, AObj.box (I 0)), (3, AObj.box AV.nils), (4, AObj.box (AV.d (i64T).slice l)), (5, AObj.box ((I off).pr ((AV.os 7 0).pr ((AV.os 6 0).pr (AV.d Ty.unit PUnit.unit))))), (8, AObj.rc (ARec.loop LC_reb [(0, (I off).pr ((AV.os 7 0).pr ((AV.os 6 0).pr (AV.d Ty.unit PUnit.unit)))), (1, AV.d (i64T).slice l), (2, AV.op 5 [] 0), (3, AV.op 4 [] 0), (4, AV.op 3 [] 0), (5, AV.op 2 [] 0), (6, AV.op 1 [] 0)] LSta.ready)), (10, AObj.arr 3 (i64T) 0 false [0, 0])], nx := 20 } := by
  have h := b2_st0H (hlp g163 cf_plb) off w v s u l a b p n k
  simp only [lpH_lp] at h
  exact h
theorem b2_st1H (hl : Hl) (off w v s u : Int) (l : List Int) (a b p o : Int) (out : List Int) (n : Nat) {R : Type} (k : AEx → LSt → Option R) : lpH g163 cf_plb [2] hl (cL (cL (cR (cR C_plb)))) (n + 1) (stVb1 off [w, v] [s, u] l [a, b] p (o :: out)) k =
  bif decide (p ≥ Int.ofNat l.length) then k AEx.ret { fr := mkFr 6 [(0, AV.ref 8), (1, AV.op 0 [] 0), (3, AV.os 10 0), (4, I p), (12, AV.ref 8), (13, I p), (14, B false), (15, B true)], hp := [(9, AObj.arr 2 (i64T) 0 false (o :: out)), (1, AObj.box (AV.os 9 0)), (2, AObj.box (I 1)), (3, AObj.box AV.nils), (4, AObj.box (AV.d (i64T).slice l)), (5, AObj.box ((I off).pr ((AV.os 7 0).pr ((AV.os 6 0).pr (AV.d Ty.unit PUnit.unit))))), (6, AObj.arr 3 (i64T) 0 false [s, u]), (7, AObj.arr 3 (i64T) 0 false [w, v]), (8, AObj.rc (ARec.loop LC_reb [(0, (I off).pr ((AV.os 7 0).pr ((AV.os 6 0).pr (AV.d Ty.unit PUnit.unit)))), (1, AV.d (i64T).slice l), (2, AV.op 5 [] 0), (3, AV.op 4 [] 0), (4, AV.op 3 [] 0), (5, AV.op 2 [] 0), (6, AV.op 1 [] 0)] (LSta.done Jmp.ret))), (0, AObj.box ((I off).pr ((AV.os 7 0).pr ((AV.os 6 0).pr (AV.d Ty.unit PUnit.unit))))), (7, AObj.arr 3 (i64T) 0 false [w, v]), (6, AObj.arr 3 (i64T) 0 false [s, u]), (1, AObj.box (AV.os 9 0)), (9, AObj.arr 2 (i64T) 0 false (o :: out)), (2, AObj.box (I 0)), (3, AObj.box AV.nils), (4, AObj.box (AV.d (i64T).slice l)), (5, AObj.box ((I off).pr ((AV.os 7 0).pr ((AV.os 6 0).pr (AV.d Ty.unit PUnit.unit))))), (8, AObj.rc (ARec.loop LC_reb [(0, (I off).pr ((AV.os 7 0).pr ((AV.os 6 0).pr (AV.d Ty.unit PUnit.unit)))), (1, AV.d (i64T).slice l), (2, AV.op 5 [] 0), (3, AV.op 4 [] 0), (4, AV.op 3 [] 0), (5, AV.op 2 [] 0), (6, AV.op 1 [] 0)] LSta.ready)), (10, AObj.arr 3 (i64T) 0 false [a, b])], nx := 29 }
  else (idx l p).bind fun v1 =>
      (app (o :: out) [v1]).bind fun v2 =>
        bif decide (IntKind.i64.wrap (b + 1) < v) then lpH g163 cf_plb [2] hl (cL (cL (cR (cR C_plb)))) n { fr := mkFr 6 [(0, AV.ref 8), (1, AV.op 0 [] 0), (3, AV.os 10 0), (4, I (IntKind.i64.wrap (p + u)))], hp := [(0, AObj.box ((I off).pr ((AV.os 7 0).pr ((AV.os 6 0).pr (AV.d Ty.unit PUnit.unit))))), (7, AObj.arr 3 (i64T) 0 false [w, v]), (6, AObj.arr 3 (i64T) 0 false [s, u]), (1, AObj.box (AV.os 9 0)), (9, AObj.arr 2 (i64T) 0 false v2), (2, AObj.box (I 0)), (3, AObj.box AV.nils), (4, AObj.box (AV.d (i64T).slice l)), (5, AObj.box ((I off).pr ((AV.os 7 0).pr ((AV.os 6 0).pr (AV.d Ty.unit PUnit.unit))))), (8, AObj.rc (ARec.loop LC_reb [(0, (I off).pr ((AV.os 7 0).pr ((AV.os 6 0).pr (AV.d Ty.unit PUnit.unit)))), (1, AV.d (i64T).slice l), (2, AV.op 5 [] 0), (3, AV.op 4 [] 0), (4, AV.op 3 [] 0), (5, AV.op 2 [] 0), (6, AV.op 1 [] 0)] LSta.ready)), (10, AObj.arr 3 (i64T) 0 false [a, IntKind.i64.wrap (b + 1)])], nx := 20 } k
        else 
          bif decide (IntKind.i64.wrap (a + 1) < w) then lpH g163 cf_plb [2] hl (cL (cL (cR (cR C_plb)))) n { fr := mkFr 6 [(0, AV.ref 8), (1, AV.op 0 [] 0), (3, AV.os 10 0), (4, I (IntKind.i64.wrap (IntKind.i64.wrap (IntKind.i64.wrap (p + u) - IntKind.i64.wrap (IntKind.i64.wrap (b + 1) * u)) + s)))], hp := [(0, AObj.box ((I off).pr ((AV.os 7 0).pr ((AV.os 6 0).pr (AV.d Ty.unit PUnit.unit))))), (7, AObj.arr 3 (i64T) 0 false [w, v]), (6, AObj.arr 3 (i64T) 0 false [s, u]), (1, AObj.box (AV.os 9 0)), (9, AObj.arr 2 (i64T) 0 false v2), (2, AObj.box (I 0)), (3, AObj.box AV.nils), (4, AObj.box (AV.d (i64T).slice l)), (5, AObj.box ((I off).pr ((AV.os 7 0).pr ((AV.os 6 0).pr (AV.d Ty.unit PUnit.unit))))), (8, AObj.rc (ARec.loop LC_reb [(0, (I off).pr ((AV.os 7 0).pr ((AV.os 6 0).pr (AV.d Ty.unit PUnit.unit)))), (1, AV.d (i64T).slice l), (2, AV.op 5 [] 0), (3, AV.op 4 [] 0), (4, AV.op 3 [] 0), (5, AV.op 2 [] 0), (6, AV.op 1 [] 0)] LSta.ready)), (10, AObj.arr 3 (i64T) 0 false [IntKind.i64.wrap (a + 1), 0])], nx := 20 } k
          else k AEx.ret { fr := mkFr 6 [(0, AV.ref 8), (1, AV.op 0 [] 0), (3, AV.os 10 0), (4, I (IntKind.i64.wrap (IntKind.i64.wrap (IntKind.i64.wrap (IntKind.i64.wrap (p + u) - IntKind.i64.wrap (IntKind.i64.wrap (b + 1) * u)) + s) - IntKind.i64.wrap (IntKind.i64.wrap (a + 1) * s)))), (5, I (-1)), (19, I (-1)), (20, B false), (61, I (-1)), (62, B true)], hp := [(0, AObj.box ((I off).pr ((AV.os 7 0).pr ((AV.os 6 0).pr (AV.d Ty.unit PUnit.unit))))), (7, AObj.arr 3 (i64T) 0 false [w, v]), (6, AObj.arr 3 (i64T) 0 false [s, u]), (1, AObj.box (AV.os 9 0)), (9, AObj.arr 2 (i64T) 0 false v2), (2, AObj.box (I 0)), (3, AObj.box AV.nils), (4, AObj.box (AV.d (i64T).slice l)), (5, AObj.box ((I off).pr ((AV.os 7 0).pr ((AV.os 6 0).pr (AV.d Ty.unit PUnit.unit))))), (8, AObj.rc (ARec.loop LC_reb [(0, (I off).pr ((AV.os 7 0).pr ((AV.os 6 0).pr (AV.d Ty.unit PUnit.unit)))), (1, AV.d (i64T).slice l), (2, AV.op 5 [] 0), (3, AV.op 4 [] 0), (4, AV.op 3 [] 0), (5, AV.op 2 [] 0), (6, AV.op 1 [] 0)] LSta.ready)), (10, AObj.arr 3 (i64T) 0 false [0, 0])], nx := 20 } := by kernel_rfl
theorem b2_st1 (off w v s u : Int) (l : List Int) (a b p o : Int) (out : List Int) (n : Nat) {R : Type} (k : AEx → LSt → Option R) : lp g163 cf_plb (cL (cL (cR (cR C_plb)))) (n + 1) (stVb1 off [w, v] [s, u] l [a, b] p (o :: out)) k =
  bif decide (p ≥ Int.ofNat l.length) then k AEx.ret { fr := mkFr 6 [(0, AV.ref 8), (1, AV.op 0 [] 0), (3, AV.os 10 0), (4, I p), (12, AV.ref 8), (13, I p), (14, B false), (15, B true)], hp := [(9, AObj.arr 2 (i64T) 0 false (o :: out)), (1, AObj.box (AV.os 9 0)), (2, AObj.box (I 1)), (3, AObj.box AV.nils), (4, AObj.box (AV.d (i64T).slice l)), (5, AObj.box ((I off).pr ((AV.os 7 0).pr ((AV.os 6 0).pr (AV.d Ty.unit PUnit.unit))))), (6, AObj.arr 3 (i64T) 0 false [s, u]), (7, AObj.arr 3 (i64T) 0 false [w, v]), (8, AObj.rc (ARec.loop LC_reb [(0, (I off).pr ((AV.os 7 0).pr ((AV.os 6 0).pr (AV.d Ty.unit PUnit.unit)))), (1, AV.d (i64T).slice l), (2, AV.op 5 [] 0), (3, AV.op 4 [] 0), (4, AV.op 3 [] 0), (5, AV.op 2 [] 0), (6, AV.op 1 [] 0)] (LSta.done Jmp.ret))), (0, AObj.box ((I off).pr ((AV.os 7 0).pr ((AV.os 6 0).pr (AV.d Ty.unit PUnit.unit))))), (7, AObj.arr 3 (i64T) 0 false [w, v]), (6, AObj.arr 3 (i64T) 0 false [s, u]), (1, AObj.box (AV.os 9 0)), (9, AObj.arr 2 (i64T) 0 false (o :: out)), (2, AObj.box (I 0)), (3, AObj.box AV.nils), (4, AObj.box (AV.d (i64T).slice l)), (5, AObj.box ((I off).pr ((AV.os 7 0).pr ((AV.os 6 0).pr (AV.d Ty.unit PUnit.unit))))), (8, AObj.rc (ARec.loop LC_reb [(0, (I off).pr ((AV.os 7 0).pr ((AV.os 6 0).pr (AV.d Ty.unit PUnit.unit)))), (1, AV.d (i64T).slice l), (2, AV.op 5 [] 0), (3, AV.op 4 [] 0), (4, AV.op 3 [] 0), (5, AV.op 2 [] 0), (6, AV.op 1 [] 0)] LSta.ready)), (10, AObj.arr 3 (i64T) 0 false [a, b])], nx := 29 }
  else (idx l p).bind fun v1 =>
      (app (o :: out) [v1]).bind fun v2 =>
        bif decide (IntKind.i64.wrap (b + 1) < v) then lp g163 cf_plb (cL (cL (cR (cR C_plb)))) n { fr := mkFr 6 [(0, AV.ref 8), (1, AV.op 0 [] 0), (3, AV.os 10 0), (4, I (IntKind.i64.wrap (p + u)))], hp := [(0, AObj.box ((I off).pr ((AV.os 7 0).pr ((AV.os 6 0).pr (AV.d Ty.unit PUnit.unit))))), (7, AObj.arr 3 (i64T) 0 false [w, v]), (6, AObj.arr 3 (i64T) 0 false [s, u]), (1, AObj.box (AV.os 9 0)), (9, AObj.arr 2 (i64T) 0 false v2), (2, AObj.box (I 0)), (3, AObj.box AV.nils), (4, AObj.box (AV.d (i64T).slice l)), (5, AObj.box ((I off).pr ((AV.os 7 0).pr ((AV.os 6 0).pr (AV.d Ty.unit PUnit.unit))))), (8, AObj.rc (ARec.loop LC_reb [(0, (I off).pr ((AV.os 7 0).pr ((AV.os 6 0).pr (AV.d Ty.unit PUnit.unit)))), (1, AV.d (i64T).slice l), (2, AV.op 5 [] 0), (3, AV.op 4 [] 0), (4, AV.op 3 [] 0), (5, AV.op 2 [] 0), (6, AV.op 1 [] 0)] LSta.ready)), (10, AObj.arr 3 (i64T) 0 false [a, IntKind.i64.wrap (b + 1)])], nx := 20 } k
        else 
          bif decide (IntKind.i64.wrap (a + 1) < w) then lp g163 cf_plb (cL (cL (cR (cR C_plb)))) n { fr := mkFr 6 [(0, AV.ref 8), (1, AV.op 0 [] 0), (3, AV.os 10 0), (4, I (IntKind.i64.wrap (IntKind.i64.wrap (IntKind.i64.wrap (p + u) - IntKind.i64.wrap (IntKind.i64.wrap (b + 1) * u)) + s)))], hp := [(0, AObj.box ((I off).pr ((AV.os 7 0).pr ((AV.os 6 0).pr (AV.d Ty.unit PUnit.unit))))), (7, AObj.arr 3 (i64T) 0 false [w, v]), (6, AObj.arr 3 (i64T) 0 false [s, u]), (1, AObj.box (AV.os 9 0)), (9, AObj.arr 2 (i64T) 0 false v2), (2, AObj.box (I 0)), (3, AObj.box AV.nils), (4, AObj.box (AV.d (i64T).slice l)), (5, AObj.box ((I off).pr ((AV.os 7 0).pr ((AV.os 6 0).pr (AV.d Ty.unit PUnit.unit))))), (8, AObj.rc (ARec.loop LC_reb [(0, (I off).pr ((AV.os 7 0).pr ((AV.os 6 0).pr (AV.d Ty.unit PUnit.unit)))), (1, AV.d (i64T).slice l), (2, AV.op 5 [] 0), (3, AV.op 4 [] 0), (4, AV.op 3 [] 0), (5, AV.op 2 [] 0), (6, AV.op 1 [] 0)] LSta.ready)), (10, AObj.arr 3 (i64T) 0 false [IntKind.i64.wrap (a + 1), 0])], nx := 20 } k
          else k AEx.ret { fr := mkFr 6 [(0, AV.ref 8), (1, AV.op 0 [] 0), (3, AV.os 10 0), (4, I (IntKind.i64.wrap (IntKind.i64.wrap (IntKind.i64.wrap (IntKind.i64.wrap (p + u) - IntKind.i64.wrap (IntKind.i64.wrap (b + 1) * u)) + s) - IntKind.i64.wrap (IntKind.i64.wrap (a + 1) * s)))), (5, I (-1)), (19, I (-1)), (20, B false), (61, I (-1)), (62, B true)], hp := [(0, AObj.box ((I off).pr ((AV.os 7 0).pr ((AV.os 6 0).pr (AV.d Ty.unit PUnit.unit))))), (7, AObj.arr 3 (i64T) 0 false [w, v]), (6, AObj.arr 3 (i64T) 0 false [s, u]), (1, AObj.box (AV.os 9 0)), (9, AObj.arr 2 (i64T) 0 false v2), (2, AObj.box (I 0)), (3, AObj.box AV.nils), (4, AObj.box (AV.d (i64T).slice l)), (5, AObj.box ((I off).pr ((AV.os 7 0).pr ((AV.os 6 0).pr (AV.d Ty.unit PUnit.unit))))), (8, AObj.rc (ARec.loop LC_reb [(0, (I off).pr ((AV.os 7 0).pr ((AV.os 6 0).pr (AV.d Ty.unit PUnit.unit)))), (1, AV.d (i64T).slice l), (2, AV.op 5 [] 0), (3, AV.op 4 [] 0), (4, AV.op 3 [] 0), (5, AV.op 2 [] 0), (6, AV.op 1 [] 0)] LSta.ready)), (10, AObj.arr 3 (i64T) 0 false [0, 0])], nx := 20 } := by
  have h := b2_st1H (hlp g163 cf_plb) off w v s u l a b p o out n k
  simp only [lpH_lp] at h
  exact h
noncomputable def WKb : AEx → LSt → Option (AEnd × LHp) := (blkK 0 (endC Tryz.prog 9 Tryz.f132.results.toList ah))
end Go.Proofs.XGT
/- view.Read of views of rank 2, of numbers that came in: what it reads. -/
namespace Go.Proofs.XGT
open Go.Vm Go
set_option maxRecDepth 100000
set_option maxHeartbeats 1000000
noncomputable def stVm (off : Int) (ds ss l A : List Int) (p : Int) (out : List Int) : LSt := match out with
  | [] => stVb0 off ds ss l A p
  | o :: r => stVb1 off ds ss l A p (o :: r)
noncomputable def stVE (off : Int) (ds ss l A : List Int) (p : Int) (out : List Int) : LSt := ⟨mkFr 6 [(0, .ref 8), (1, .op 0 [] 0), (3, .os 10 0), (4, I p), (5, I (-1)), (19, I (-1)), (20, B false), (61, I (-1)), (62, B true)], (stVb1 off ds ss l A p out).hp, 20⟩
theorem WKb_end (off : Int) (ds ss l A : List Int) (p : Int) (out : List Int) : WKb .ret (stVE off ds ss l A p out) = some (.ret [], hpYbW off ds ss l out) := by kernel_rfl
theorem b2_one {o w v s u a b : Nat} {l : List Int} (ha : a < w) (hb : b < v) (ho : o ≤ 65536) (hs : s ≤ 65536) (hu : u ≤ 65536) (hwv : w * v ≤ 65536) (hp : o + a * s + b * u < l.length) (n : Nat) {R : Type} (k : AEx → LSt → Option R) :
    ∃ P : Int, lp g163 cf_plb (cL (cL (cR (cR C_plb)))) (n + 1) (stVm o [(w : Int), (v : Int)] [(s : Int), (u : Int)] l [(a : Int), (b : Int)] ((o + a * s + b * u : Nat) : Int) (tab (a * v + b) (f2V l o v s u))) k =
      if b + 1 < v then lp g163 cf_plb (cL (cL (cR (cR C_plb)))) n (stVm o [(w : Int), (v : Int)] [(s : Int), (u : Int)] l [(a : Int), ((b + 1 : Nat) : Int)] ((o + a * s + (b + 1) * u : Nat) : Int) (tab (a * v + (b + 1)) (f2V l o v s u))) k
      else if a + 1 < w then lp g163 cf_plb (cL (cL (cR (cR C_plb)))) n (stVm o [(w : Int), (v : Int)] [(s : Int), (u : Int)] l [((a + 1 : Nat) : Int), ((0 : Nat) : Int)] ((o + (a + 1) * s + 0 * u : Nat) : Int) (tab (a * v + (b + 1)) (f2V l o v s u))) k
      else k .ret (stVE o [(w : Int), (v : Int)] [(s : Int), (u : Int)] l [0, 0] P (tab (a * v + (b + 1)) (f2V l o v s u))) := by
  have hav := row_le (C := v) ha
  have hvw : v ≤ w * v := Nat.le_mul_of_pos_left _ (by omega)
  have hww : w ≤ w * v := Nat.le_mul_of_pos_right _ (by omega)
  have c1 : a * s ≤ 65536 * 65536 := Nat.mul_le_mul (by omega) hs
  have c2 : b * u ≤ 65536 * 65536 := Nat.mul_le_mul (by omega) hu
  have b2 : (b + 1) * u = b * u + u := by rw [Nat.add_mul, Nat.one_mul]
  have a2 : (a + 1) * s = a * s + s := by rw [Nat.add_mul, Nat.one_mul]
  have e0 : IntKind.i64.wrap ((b : Int) + 1) = ((b + 1 : Nat) : Int) := by rw [wrap64 (by omega) (by omega)]; omega
  have e0a : IntKind.i64.wrap ((a : Int) + 1) = ((a + 1 : Nat) : Int) := by rw [wrap64 (by omega) (by omega)]; omega
  have e1 : IntKind.i64.wrap (((o + a * s + b * u : Nat) : Int) + u) = ((o + a * s + (b + 1) * u : Nat) : Int) := by rw [b2, wrap64 (by omega) (by omega)]; omega
  have e2 : IntKind.i64.wrap (((b + 1 : Nat) : Int) * u) = (((b + 1) * u : Nat) : Int) := by rw [← Int.natCast_mul]; exact wrap64 (by omega) (by omega)
  have e3 : IntKind.i64.wrap (((o + a * s + (b + 1) * u : Nat) : Int) - (((b + 1) * u : Nat) : Int)) = ((o + a * s : Nat) : Int) := by rw [wrap64 (by omega) (by omega)]; omega
  have e4 : IntKind.i64.wrap (((o + a * s : Nat) : Int) + s) = ((o + (a + 1) * s + 0 * u : Nat) : Int) := by rw [a2, Nat.zero_mul, Nat.add_zero, wrap64 (by omega) (by omega)]; omega
  obtain ⟨g1, _⟩ := getV hp
  have hge : decide (((o + a * s + b * u : Nat) : Int) ≥ Int.ofNat l.length) = false := decide_eq_false (by simp only [Int.ofNat_eq_natCast]; omega)
  refine ⟨IntKind.i64.wrap (((o + (a + 1) * s + 0 * u : Nat) : Int) - IntKind.i64.wrap (((a + 1 : Nat) : Int) * s)), ?_⟩
  rw [← Nat.add_assoc (a * v) b 1, tab_succ]
  have hfm : f2V l o v s u (a * v + b) = l.getD (o + a * s + b * u) 0 := by
    have hpl := (place_iff (i := a) (p := a * v + b) (j := b) hb).mp rfl
    unfold f2V
    rw [hpl.1, hpl.2]
  have hlen : (tab (a * v + b) (f2V l o v s u)).length = a * v + b := tab_length _ _
  have fin : ∀ (q : Int) (r : List Int), tab (a * v + b) (f2V l o v s u) ++ [l.getD (o + a * s + b * u) 0] = q :: r → True := fun _ _ _ => trivial
  cases htab : tab (a * v + b) (f2V l o v s u) with
  | nil =>
    show lp g163 cf_plb (cL (cL (cR (cR C_plb)))) (n + 1) (stVb0 o [(w : Int), (v : Int)] [(s : Int), (u : Int)] l [(a : Int), (b : Int)] ((o + a * s + b * u : Nat) : Int)) k = _
    rw [b2_st0, hge, cond_false, g1, Option.bind_some, e0, e1, hfm]
    by_cases h : b + 1 < v
    · rw [decide_eq_true (show ((b + 1 : Nat) : Int) < (v : Int) by omega), cond_true, if_pos h]
      rfl
    · rw [decide_eq_false (show ¬ (((b + 1 : Nat) : Int) < (v : Int)) by omega), cond_false, if_neg h, e2, e3, e4, e0a]
      by_cases h2 : a + 1 < w
      · rw [decide_eq_true (show ((a + 1 : Nat) : Int) < (w : Int) by omega), cond_true, if_pos h2]
        rfl
      · rw [decide_eq_false (show ¬ (((a + 1 : Nat) : Int) < (w : Int)) by omega), cond_false, if_neg h2]
        rfl
  | cons q r =>
    have hl2 : (q :: r).length ≤ 65536 := by rw [← htab, hlen]; omega
    show lp g163 cf_plb (cL (cL (cR (cR C_plb)))) (n + 1) (stVb1 o [(w : Int), (v : Int)] [(s : Int), (u : Int)] l [(a : Int), (b : Int)] ((o + a * s + b * u : Nat) : Int) (q :: r)) k = _
    rw [b2_st1, hge, cond_false, g1, Option.bind_some, app_one hl2, Option.bind_some, e0, e1, hfm]
    by_cases h : b + 1 < v
    · rw [decide_eq_true (show ((b + 1 : Nat) : Int) < (v : Int) by omega), cond_true, if_pos h]
      rfl
    · rw [decide_eq_false (show ¬ (((b + 1 : Nat) : Int) < (v : Int)) by omega), cond_false, if_neg h, e2, e3, e4, e0a]
      by_cases h2 : a + 1 < w
      · rw [decide_eq_true (show ((a + 1 : Nat) : Int) < (w : Int) by omega), cond_true, if_pos h2]
        rfl
      · rw [decide_eq_false (show ¬ (((a + 1 : Nat) : Int) < (w : Int)) by omega), cond_false, if_neg h2]
        rfl
theorem b2_all {o w v s u : Nat} {l : List Int} (ho : o ≤ 65536) (hs : s ≤ 65536) (hu : u ≤ 65536) (hwv : w * v ≤ 65536) (hp : o + (w - 1) * s + (v - 1) * u < l.length) : ∀ (r a b n : Nat), a < w → b < v → a * v + b + r + 1 = w * v → r < n →
    lp g163 cf_plb (cL (cL (cR (cR C_plb)))) n (stVm o [(w : Int), (v : Int)] [(s : Int), (u : Int)] l [(a : Int), (b : Int)] ((o + a * s + b * u : Nat) : Int) (tab (a * v + b) (f2V l o v s u))) WKb = some (.ret [], hpYbW o [(w : Int), (v : Int)] [(s : Int), (u : Int)] l (tab (w * v) (f2V l o v s u))) := by
  intro r
  induction r with
  | zero =>
    intro a b n ha hb hr hn
    obtain ⟨n, rfl⟩ : ∃ m', n = m' + 1 := ⟨n - 1, by omega⟩
    have hav := row_le (C := v) ha
    have ha1 : a + 1 = w := by
      rcases Nat.lt_or_ge (a + 1) w with h | h
      · have := row_le (C := v) h
        rw [Nat.add_mul, Nat.one_mul] at this
        omega
      · omega
    have hle1 : a * s ≤ (w - 1) * s := Nat.mul_le_mul_right _ (by omega)
    have hle2 : b * u ≤ (v - 1) * u := Nat.mul_le_mul_right _ (by omega)
    obtain ⟨P, h⟩ := b2_one ha hb ho hs hu hwv (show o + a * s + b * u < l.length by omega) n WKb
    have hb1 : b + 1 = v := by
      rw [← ha1, Nat.add_mul, Nat.one_mul] at hr
      omega
    rw [h, if_neg (by omega), if_neg (by omega), show a * v + (b + 1) = w * v by omega]
    exact WKb_end _ _ _ _ _ _ _
  | succ r ih =>
    intro a b n ha hb hr hn
    obtain ⟨n, rfl⟩ : ∃ m', n = m' + 1 := ⟨n - 1, by omega⟩
    have hle1 : a * s ≤ (w - 1) * s := Nat.mul_le_mul_right _ (by omega)
    have hle2 : b * u ≤ (v - 1) * u := Nat.mul_le_mul_right _ (by omega)
    obtain ⟨P, h⟩ := b2_one ha hb ho hs hu hwv (show o + a * s + b * u < l.length by omega) n WKb
    rw [h]
    by_cases h1 : b + 1 < v
    · rw [if_pos h1]
      exact ih a (b + 1) n ha h1 (by omega) (by omega)
    · have hb1 : b + 1 = v := by omega
      have ha1 : a + 1 < w := by
        rcases Nat.lt_or_ge (a + 1) w with h2 | h2
        · exact h2
        · have : w = a + 1 := by omega
          subst this
          rw [Nat.add_mul, Nat.one_mul] at hr
          omega
      rw [if_neg h1, if_pos ha1, hb1, show a * v + v = (a + 1) * v + 0 by rw [Nat.add_mul, Nat.one_mul, Nat.add_zero]]
      exact ih (a + 1) 0 n ha1 (by omega) (by rw [Nat.add_mul, Nat.one_mul]; omega) (by omega)
theorem runC_kw {E : Env} (hE : E.Good) {fn : Func} {depth : Nat} {live : List (Nat × List Nat)} {args : List AV} {hs hs' : LHp} {ae : AEnd} (h : runC E fn depth live args hs ah = some (ae, hs')) {R : Type} (k : AEnd → LHp → Option R) : runC E fn depth live args hs k = k ae hs' := by
  rw [runC_eq hE] at h ⊢
  cases hx : execB E fn depth live args hs with
  | none => rw [hx] at h; cases h
  | some p => rw [hx] at h; cases h; rfl
theorem plbE_eqv (args : List AV) (hs : LHp) {R : Type} (k : AEnd → LHp → Option R) : y132.run args hs k = runC g163 Tryz.f132 6 [(2, [0, 1, 3, 4]), (4, [0, 1, 3, 4, 5])] args hs k := rfl
theorem gVb_good : (gVb y132).Good := g184_good.add y132_ok
theorem plb2_run {o w v s u : Nat} {l : List Int} (ho : o ≤ 65536) (hs : s ≤ 65536) (hu : u ≤ 65536) (hwv : w * v ≤ 65536) (hw1 : 1 ≤ w) (hv1 : 1 ≤ v) (hp : o + (w - 1) * s + (v - 1) * u < l.length) :
    runC g163 Tryz.f132 6 [(2, [0, 1, 3, 4]), (4, [0, 1, 3, 4, 5])] [.ref 8, .op 0 [] 0] (hpYb o [(w : Int), (v : Int)] [(s : Int), (u : Int)] l .nils) ah = some (.ret [], hpYbW o [(w : Int), (v : Int)] [(s : Int), (u : Int)] l (tab (w * v) (f2V l o v s u))) := by
  have hfu : fu = 18446744073709551616 := rfl
  have key : runC g163 Tryz.f132 6 [(2, [0, 1, 3, 4]), (4, [0, 1, 3, 4, 5])] [.ref 8, .op 0 [] 0] (hpYb o [(w : Int), (v : Int)] [(s : Int), (u : Int)] l .nils) ah = lp g163 cf_plb (cL (cL (cR (cR C_plb)))) fu (stVb0 o [(w : Int), (v : Int)] [(s : Int), (u : Int)] l [0, 0] o) WKb := (plb_eq2 o w v s u l).trans (by kernel_rfl)
  have hb : 1 ≤ w * v := Nat.mul_pos hw1 hv1
  have h := b2_all ho hs hu hwv hp (w * v - 1) 0 0 fu hw1 hv1 (by omega) (by omega)
  rw [Nat.zero_mul, Nat.zero_mul, Nat.zero_mul, Nat.add_zero, Nat.add_zero] at h
  have e : stVm o [(w : Int), (v : Int)] [(s : Int), (u : Int)] l [((0 : Nat) : Int), ((0 : Nat) : Int)] (o : Int) (tab 0 (f2V l o v s u)) = stVb0 o [(w : Int), (v : Int)] [(s : Int), (u : Int)] l [0, 0] o := rfl
  rw [e] at h
  exact key.trans h
theorem reb_go (F : FnE) (off : Int) (ds ss l out : List Int) (h : ∀ (k : AEnd → LHp → Option (AEnd × LHp)), F.run [.ref 8, .op 0 [] 0] (hpYb off ds ss l .nils) k = k (.ret []) (hpYbW off ds ss l out)) :
    exC (gVb F) cf_reb (cL (cR (cL (cR (cR (cR C_reb)))))) ⟨frVb off l, hpVb off ds ss l, 12⟩ (RKb F) = some (.ret [.os 2 0, I 0], [(0, .arr 3 i64T 0 false ss), (1, .arr 3 i64T 0 false ds), (2, .arr 2 i64T 0 false out)]) := by
  rw [reb_rf, h, reb_fin]
theorem reb2_run {o w v s u : Nat} {l : List Int} (ho : o < 65536) (hs : s ≤ 65536) (hu : u ≤ 65536) (hwv : w * v ≤ 65536) (hc : countE [(w : Int), (v : Int)] = 0) (hp : o + (w - 1) * s + (v - 1) * u < l.length) :
    runC (gVb y132) Tryz.f79 5 [(5, [0, 1, 2, 3, 4, 5, 6, 14, 15, 16, 17, 18, 19, 20, 21, 22, 23, 24])] [vwB o 1 0, .d (.slice i64T) l] (hpW2 w v s u) ah = some (.ret [.os 2 0, I 0], [(0, .arr 3 i64T 0 false [(s : Int), (u : Int)]), (1, .arr 3 i64T 0 false [(w : Int), (v : Int)]), (2, .arr 2 i64T 0 false (tab (w * v) (f2V l o v s u)))]) := by
  have hw1 : 1 ≤ w := by
    have := (count_ok hc).1 (w : Int) (by simp)
    omega
  have hv1 : 1 ≤ v := by
    have := (count_ok hc).1 (v : Int) (by simp)
    omega
  have key : runC (gVb y132) Tryz.f79 5 [(5, [0, 1, 2, 3, 4, 5, 6, 14, 15, 16, 17, 18, 19, 20, 21, 22, 23, 24])] [vwB o 1 0, .d (.slice i64T) l] (hpW2 w v s u) ah = exC (gVb y132) cf_reb (cL (cR (cL (cR (cR (cR C_reb)))))) ⟨frVb o l, hpVb o [(w : Int), (v : Int)] [(s : Int), (u : Int)] l, 12⟩ (RKb y132) := (reb_eq y132 o w v s u l).trans (by
    rw [hc, decide_eq_true (show (o : Int) ≥ 0 by omega), decide_eq_true (show (o : Int) < 65536 by omega), decide_eq_false (show ¬ ((s : Int) < 0) by omega), decide_eq_false (show ¬ ((s : Int) > 65536) by omega), decide_eq_false (show ¬ ((u : Int) < 0) by omega), decide_eq_false (show ¬ ((u : Int) > 65536) by omega), beq_self_eq_true, cond_true, cond_true, cond_true, cond_false, cond_false, cond_false, cond_false]
    show _ = _
    kernel_rfl)
  exact key.trans (reb_go _ _ _ _ _ _ fun k => (plbE_eqv _ _ k).trans (runC_kw g163_good (plb2_run (by omega) hs hu hwv hw1 hv1 hp) k))
def okR2 (off s u w v : Int) (l : List Int) : Bool := decide ((0 ≤ off ∧ off < 65536 ∧ 0 ≤ s ∧ s ≤ 65536 ∧ 0 ≤ u ∧ u ≤ 65536) ∧ (1 ≤ w ∧ 1 ≤ v ∧ w.toNat * v.toNat ≤ 65536 ∧ countE [w, v] = 0) ∧ off.toNat + (w.toNat - 1) * s.toNat + (v.toNat - 1) * u.toNat < l.length)
def rd2 (off s u w v : Int) (l : List Int) : List Int := tab (w.toNat * v.toNat) (f2V l off.toNat v.toNat s.toNat u.toNat)
def reaT2 : List AV → LHp → Tq
  | [.pr (.d (.int .i64) off) (.pr (.os 1 0) (.pr (.os 0 0) (.d .unit ()))), .d (.slice (.int .i64)) l], [(0, .arr 3 (.int .i64) 0 false [s, u]), (1, .arr 3 (.int .i64) 0 false [w, v])] =>
    .br (okR2 off s u w v l) (.leaf (.ret [.os 2 0, I 0]) [(0, .arr 3 i64T 0 false [s, u]), (1, .arr 3 i64T 0 false [w, v]), (2, .arr 2 i64T 0 false (rd2 off s u w v l))]) .no
  | _, _ => .no
theorem reaT2_ok : FnE.OK e0.P e0.gam 79 (treeE reaT2) := by
  have h1 : FnE.OK e0.P e0.gam 79 (execFnC (gVb y132) Tryz.f79 5 [(5, [0, 1, 2, 3, 4, 5, 6, 14, 15, 16, 17, 18, 19, 20, 21, 22, 23, 24])]) := execFnC_ok gVb_good hmix Tryz.func79 Tryz.call79 (by decide +kernel) rfl
  refine ⟨fun _ _ _ => Tq.eq _ _, fun args hs ae hs' h => ?_⟩
  have h' : (reaT2 args hs).run ah = some (ae, hs') := h
  clear h
  unfold reaT2 at h'
  split at h'
  · rename_i off l s u w v
    obtain ⟨hb, h2⟩ := Tq.br_no h'
    obtain ⟨⟨c1, c2, c3, c4, c5, c6⟩, ⟨c7, c8, c9, c10⟩, c11⟩ := of_decide_eq_true hb
    obtain ⟨o, rfl⟩ := Int.eq_ofNat_of_zero_le c1
    obtain ⟨s, rfl⟩ := Int.eq_ofNat_of_zero_le c3
    obtain ⟨u, rfl⟩ := Int.eq_ofNat_of_zero_le c5
    obtain ⟨w, rfl⟩ := Int.eq_ofNat_of_zero_le (show (0 : Int) ≤ w by omega)
    obtain ⟨v, rfl⟩ := Int.eq_ofNat_of_zero_le (show (0 : Int) ≤ v by omega)
    unfold rd2 at h2
    simp only [Int.toNat_natCast] at c9 c11 h2
    have d2 : (o : Int) < 65536 := c2
    have d4 : (s : Int) ≤ 65536 := c4
    have d6 : (u : Int) ≤ 65536 := c6
    cases h2
    exact h1.okC (reb2_run (by omega) (by omega) (by omega) c9 c10 c11)
  · cases h'
end Go.Proofs.XGT
