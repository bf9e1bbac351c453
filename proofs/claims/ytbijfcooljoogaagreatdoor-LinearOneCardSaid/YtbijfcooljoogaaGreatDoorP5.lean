/- CopyTensor of a matrix. -/
import Derived.Test.YtbijfcooljoogaaGreatDoorP3

namespace Go.Proofs.XGT
open Go.Vm Go
set_option maxRecDepth 100000
set_option maxHeartbeats 4000000
noncomputable def C_cpt : Code := codeOf Tryz.f22
noncomputable def cf_cpt : Cfg := ⟨17, 5, 0, [], true⟩
theorem cpt_eq (t a b x0 : Int) (x : List Int) : runC g206 Tryz.f22 5 [] [.d (Y0) (t, [a, b], x0 :: x, ())] [] ah =
  (app [] (x0 :: x)).bind fun v0 =>
    some (AEnd.ret [(I t).pr ((AV.os 0 0).pr ((AV.os 1 0).pr (AV.d Ty.unit PUnit.unit)))], [(0, AObj.arr 3 (i64T) 0 false [a, b]), (1, AObj.arr 2 (i64T) 0 false v0)]) := by kernel_rfl
theorem cpt_nil (t a b : Int) : runC g206 Tryz.f22 5 [] [.d (Y0) (t, [a, b], [], ())] [] ah =
  some (AEnd.ret [(I t).pr ((AV.os 0 0).pr ((AV.os 1 0).pr (AV.d Ty.unit PUnit.unit)))], [(0, AObj.arr 3 (i64T) 0 false [a, b]), (1, AObj.arr 2 (i64T) 0 false [])]) := by kernel_rfl
theorem cpt_run (t a b : Int) (x : List Int) (h : x.length ≤ 65536) : runC g206 Tryz.f22 5 [] [.d (Y0) (t, [a, b], x, ())] [] ah = some (.ret [(I t).pr ((AV.os 0 0).pr ((AV.os 1 0).pr (AV.d Ty.unit PUnit.unit)))], [(0, .arr 3 i64T 0 false [a, b]), (1, .arr 2 i64T 0 false x)]) := by
  cases x with
  | nil => exact cpt_nil t a b
  | cons x0 x =>
    refine (cpt_eq t a b x0 x).trans ?_
    have : app ([] : List Int) (x0 :: x) = some (x0 :: x) := by
      unfold app
      rw [if_pos (by unfold lim; simp only [List.length_nil, List.length_cons] at *; omega)]
      rfl
    rw [this]
    rfl
def cptT : List AV → LHp → Tq
  | [.d ((.pair (.int .i64) (.pair (.slice (.int .i64)) (.pair (.slice (.int .i64)) .unit)))) (t, xd, x, ())], [] => .opt (two2 xd) fun p => .br (decide (x.length ≤ 65536)) (.leaf (.ret [(I t).pr ((AV.os 0 0).pr ((AV.os 1 0).pr (AV.d Ty.unit PUnit.unit)))]) [(0, .arr 3 i64T 0 false [p.1, p.2]), (1, .arr 2 i64T 0 false x)]) .no
  | _, _ => .no
theorem cptT_ok : FnE.OK e0.P e0.gam 22 (treeE cptT) := by
  have h1 : FnE.OK e0.P e0.gam 22 (execFnC g206 Tryz.f22 5 []) := y22_ok
  refine ⟨fun _ _ _ => Tq.eq _ _, fun args hs ae hs' h => ?_⟩
  have h' : (cptT args hs).run ah = some (ae, hs') := h
  clear h
  unfold cptT at h'
  split at h'
  · simp only [Tq.run] at h'
    obtain ⟨p, hp, h2⟩ := bind_some h'
    clear h'
    rw [two2_some hp]
    obtain ⟨hb, h3⟩ := Tq.br_no (t := .leaf _ _) (show (Tq.br (decide _) (.leaf _ _) .no).run ah = some (ae, hs') from h2)
    cases h3
    exact h1.okC (cpt_run _ _ _ _ (of_decide_eq_true hb))
  · cases h'
end Go.Proofs.XGT
/- The law LinearOne: its code, run. -/
namespace Go.Proofs.XGT
open Go.Vm Go
set_option maxRecDepth 100000
set_option maxHeartbeats 4000000
noncomputable def C_lon : Code := codeOf Tryz.f6
noncomputable def cf_lon : Cfg := ⟨105, 7, 0, [(6, [1, 3, 4, 5]), (14, [1, 3, 4, 6, 7])], true⟩
noncomputable def gLo : Env := (((g207.add 23 (treeE ldoF)).add 18 (treeElse smotF y18)).add 21 (fnE livlF)).add 22 (treeE cptT)
theorem gLo_good : gLo.Good := (((g207_good.add ldoF_ok).add (treeElse_ok smotE_ok y18_ok)).add livlE_ok).add cptT_ok
theorem lon_eqH (hl : Hl) (t : Int) (xd x : List Int) : runH gLo Tryz.f6 7 [(6, [1, 3, 4, 5]), (14, [1, 3, 4, 6, 7])] [6, 14] hl [.d (Y0) (t, xd, x, ())] [] ah =
  bif decide (Int.ofNat x.length > 600) then some (AEnd.ret [B true], [])
  else 
    bif Int.ofNat xd.length != 2 then some (AEnd.ret [B true], [])
    else (idx xd 1).bind fun v2 =>
        bif decide (v2 < 1) then some (AEnd.ret [B true], [])
        else (idx xd 1).bind fun v4 =>
            bif decide (v4 > 24) then some (AEnd.ret [B true], [])
            else (idx xd 1).bind fun v6 =>
                (two2 xd).bind fun v7 =>
                  bif decide (x.length ≤ 65536) then hl (cL (cL (cR (cL (cR (cR (cR (cR C_lon)))))))) _ { fr := mkFr 7 [(1, AV.op 0 [] 0), (3, I v6), (4, AV.op 1 [] 0), (5, I 0)], hp := [(0, AObj.box (AV.d ((i64T).pair ((i64T).slice.pair ((i64T).slice.pair Ty.unit))) (t, xd, x, PUnit.unit))), (1, AObj.box ((I t).pr ((AV.os 2 0).pr ((AV.os 3 0).pr (AV.d Ty.unit PUnit.unit))))), (2, AObj.arr 3 (i64T) 0 false [v7.1, v7.2]), (3, AObj.arr 2 (i64T) 0 false x)], nx := 4 } (blkK 0 (seqH gLo cf_lon [6, 14] hl (cR (cR (cR (cR (cR C_lon))))) (endC Tryz.prog 0 Tryz.f6.results.toList ah)))
                  else none := by kernel_rfl
theorem lon_eq (t : Int) (xd x : List Int) : runC gLo Tryz.f6 7 [(6, [1, 3, 4, 5]), (14, [1, 3, 4, 6, 7])] [.d (Y0) (t, xd, x, ())] [] ah =
  bif decide (Int.ofNat x.length > 600) then some (AEnd.ret [B true], [])
  else 
    bif Int.ofNat xd.length != 2 then some (AEnd.ret [B true], [])
    else (idx xd 1).bind fun v2 =>
        bif decide (v2 < 1) then some (AEnd.ret [B true], [])
        else (idx xd 1).bind fun v4 =>
            bif decide (v4 > 24) then some (AEnd.ret [B true], [])
            else (idx xd 1).bind fun v6 =>
                (two2 xd).bind fun v7 =>
                  bif decide (x.length ≤ 65536) then (hlp gLo cf_lon) (cL (cL (cR (cL (cR (cR (cR (cR C_lon)))))))) _ { fr := mkFr 7 [(1, AV.op 0 [] 0), (3, I v6), (4, AV.op 1 [] 0), (5, I 0)], hp := [(0, AObj.box (AV.d ((i64T).pair ((i64T).slice.pair ((i64T).slice.pair Ty.unit))) (t, xd, x, PUnit.unit))), (1, AObj.box ((I t).pr ((AV.os 2 0).pr ((AV.os 3 0).pr (AV.d Ty.unit PUnit.unit))))), (2, AObj.arr 3 (i64T) 0 false [v7.1, v7.2]), (3, AObj.arr 2 (i64T) 0 false x)], nx := 4 } (blkK 0 (seqH gLo cf_lon [6, 14] (hlp gLo cf_lon) (cR (cR (cR (cR (cR C_lon))))) (endC Tryz.prog 0 Tryz.f6.results.toList ah)))
                  else none := runH_runC.trans (lon_eqH (hlp gLo cf_lon) t xd x)
def hpLo (t a d : Int) (x L : List Int) : LHp := [(0, .box (.d (Y0) (t, [a, d], x, ()))), (1, .box ((I t).pr ((AV.os 2 0).pr ((AV.os 3 0).pr (AV.d Ty.unit PUnit.unit))))), (2, .arr 3 i64T 0 false [a, d]), (3, .arr 2 i64T 0 false L)]
def stLo (t a d : Int) (x L : List Int) (i : Int) : LSt := ⟨mkFr 7 [(1, AV.op 0 [] 0), (3, I d), (4, AV.op 1 [] 0), (5, I i)], hpLo t a d x L, 4⟩
theorem lo_st0H (hl : Hl) (t a d : Int) (x L : List Int) (i : Int) (n : Nat) {R : Type} (k : AEx → LSt → Option R) : lpH gLo cf_lon [6, 14] hl (cL (cL (cR (cL (cR (cR (cR (cR C_lon)))))))) (n + 1) (stLo t a d x L i) k =
  bif decide (i < Int.ofNat x.length) then (idx x i).bind fun v1 =>
      bif IntKind.i64.wrap (Int.ofNat (BitVec.ofInt 64 v1 &&& 2139095040#64).toNat) == 2139095040 then k AEx.ret { fr := mkFr 7 [(1, AV.op 0 [] 0), (2, B true), (3, I d), (4, AV.op 1 [] 0), (5, I i), (41, I i), (42, AV.op 0 [2] 2), (43, AV.d (i64T).slice x), (44, I (Int.ofNat x.length)), (45, B true), (48, AV.op 0 [2] 2), (49, AV.d (i64T).slice x), (50, I i), (51, AV.ip (i64T) v1), (52, I v1), (53, I (IntKind.i64.wrap (Int.ofNat (BitVec.ofInt 64 v1 &&& 2139095040#64).toNat))), (54, B true), (55, B true)], hp := [(0, AObj.box (AV.d ((i64T).pair ((i64T).slice.pair ((i64T).slice.pair Ty.unit))) (t, [a, d], x, PUnit.unit))), (1, AObj.box ((I t).pr ((AV.os 2 0).pr ((AV.os 3 0).pr (AV.d Ty.unit PUnit.unit))))), (2, AObj.arr 3 (i64T) 0 false [a, d]), (3, AObj.arr 2 (i64T) 0 false L)], nx := 4 }
      else (idx x i).bind fun v3 =>
          bif v3 == 2147483648 then (idx L i).bind fun v5 =>
              (setN L i.toNat 0).bind fun v6 =>
                lpH gLo cf_lon [6, 14] hl (cL (cL (cR (cL (cR (cR (cR (cR C_lon)))))))) n { fr := mkFr 7 [(1, AV.op 0 [] 0), (3, I d), (4, AV.op 1 [] 0), (5, I (IntKind.i64.wrap (i + 1)))], hp := [(0, AObj.box (AV.d ((i64T).pair ((i64T).slice.pair ((i64T).slice.pair Ty.unit))) (t, [a, d], x, PUnit.unit))), (1, AObj.box ((I t).pr ((AV.os 2 0).pr ((AV.os 3 0).pr (AV.d Ty.unit PUnit.unit))))), (2, AObj.arr 3 (i64T) 0 false [a, d]), (3, AObj.arr 2 (i64T) 0 false v6)], nx := 4 } k
          else lpH gLo cf_lon [6, 14] hl (cL (cL (cR (cL (cR (cR (cR (cR C_lon)))))))) n { fr := mkFr 7 [(1, AV.op 0 [] 0), (3, I d), (4, AV.op 1 [] 0), (5, I (IntKind.i64.wrap (i + 1)))], hp := [(0, AObj.box (AV.d ((i64T).pair ((i64T).slice.pair ((i64T).slice.pair Ty.unit))) (t, [a, d], x, PUnit.unit))), (1, AObj.box ((I t).pr ((AV.os 2 0).pr ((AV.os 3 0).pr (AV.d Ty.unit PUnit.unit))))), (2, AObj.arr 3 (i64T) 0 false [a, d]), (3, AObj.arr 2 (i64T) 0 false L)], nx := 4 } k
  else k (AEx.exit 0) { fr := mkFr 7 [(1, AV.op 0 [] 0), (3, I d), (4, AV.op 1 [] 0), (5, I i), (41, I i), (42, AV.op 0 [2] 2), (43, AV.d (i64T).slice x), (44, I (Int.ofNat x.length)), (45, B false)], hp := [(0, AObj.box (AV.d ((i64T).pair ((i64T).slice.pair ((i64T).slice.pair Ty.unit))) (t, [a, d], x, PUnit.unit))), (1, AObj.box ((I t).pr ((AV.os 2 0).pr ((AV.os 3 0).pr (AV.d Ty.unit PUnit.unit))))), (2, AObj.arr 3 (i64T) 0 false [a, d]), (3, AObj.arr 2 (i64T) 0 false L)], nx := 4 } := by kernel_rfl
theorem lo_st0 (t a d : Int) (x L : List Int) (i : Int) (n : Nat) {R : Type} (k : AEx → LSt → Option R) : lp gLo cf_lon (cL (cL (cR (cL (cR (cR (cR (cR C_lon)))))))) (n + 1) (stLo t a d x L i) k =
  bif decide (i < Int.ofNat x.length) then (idx x i).bind fun v1 =>
      bif IntKind.i64.wrap (Int.ofNat (BitVec.ofInt 64 v1 &&& 2139095040#64).toNat) == 2139095040 then k AEx.ret { fr := mkFr 7 [(1, AV.op 0 [] 0), (2, B true), (3, I d), (4, AV.op 1 [] 0), (5, I i), (41, I i), (42, AV.op 0 [2] 2), (43, AV.d (i64T).slice x), (44, I (Int.ofNat x.length)), (45, B true), (48, AV.op 0 [2] 2), (49, AV.d (i64T).slice x), (50, I i), (51, AV.ip (i64T) v1), (52, I v1), (53, I (IntKind.i64.wrap (Int.ofNat (BitVec.ofInt 64 v1 &&& 2139095040#64).toNat))), (54, B true), (55, B true)], hp := [(0, AObj.box (AV.d ((i64T).pair ((i64T).slice.pair ((i64T).slice.pair Ty.unit))) (t, [a, d], x, PUnit.unit))), (1, AObj.box ((I t).pr ((AV.os 2 0).pr ((AV.os 3 0).pr (AV.d Ty.unit PUnit.unit))))), (2, AObj.arr 3 (i64T) 0 false [a, d]), (3, AObj.arr 2 (i64T) 0 false L)], nx := 4 }
      else (idx x i).bind fun v3 =>
          bif v3 == 2147483648 then (idx L i).bind fun v5 =>
              (setN L i.toNat 0).bind fun v6 =>
                lp gLo cf_lon (cL (cL (cR (cL (cR (cR (cR (cR C_lon)))))))) n { fr := mkFr 7 [(1, AV.op 0 [] 0), (3, I d), (4, AV.op 1 [] 0), (5, I (IntKind.i64.wrap (i + 1)))], hp := [(0, AObj.box (AV.d ((i64T).pair ((i64T).slice.pair ((i64T).slice.pair Ty.unit))) (t, [a, d], x, PUnit.unit))), (1, AObj.box ((I t).pr ((AV.os 2 0).pr ((AV.os 3 0).pr (AV.d Ty.unit PUnit.unit))))), (2, AObj.arr 3 (i64T) 0 false [a, d]), (3, AObj.arr 2 (i64T) 0 false v6)], nx := 4 } k
          else lp gLo cf_lon (cL (cL (cR (cL (cR (cR (cR (cR C_lon)))))))) n { fr := mkFr 7 [(1, AV.op 0 [] 0), (3, I d), (4, AV.op 1 [] 0), (5, I (IntKind.i64.wrap (i + 1)))], hp := [(0, AObj.box (AV.d ((i64T).pair ((i64T).slice.pair ((i64T).slice.pair Ty.unit))) (t, [a, d], x, PUnit.unit))), (1, AObj.box ((I t).pr ((AV.os 2 0).pr ((AV.os 3 0).pr (AV.d Ty.unit PUnit.unit))))), (2, AObj.arr 3 (i64T) 0 false [a, d]), (3, AObj.arr 2 (i64T) 0 false L)], nx := 4 } k
  else k (AEx.exit 0) { fr := mkFr 7 [(1, AV.op 0 [] 0), (3, I d), (4, AV.op 1 [] 0), (5, I i), (41, I i), (42, AV.op 0 [2] 2), (43, AV.d (i64T).slice x), (44, I (Int.ofNat x.length)), (45, B false)], hp := [(0, AObj.box (AV.d ((i64T).pair ((i64T).slice.pair ((i64T).slice.pair Ty.unit))) (t, [a, d], x, PUnit.unit))), (1, AObj.box ((I t).pr ((AV.os 2 0).pr ((AV.os 3 0).pr (AV.d Ty.unit PUnit.unit))))), (2, AObj.arr 3 (i64T) 0 false [a, d]), (3, AObj.arr 2 (i64T) 0 false L)], nx := 4 } := by
  have h := lo_st0H (hlp gLo cf_lon) t a d x L i n k
  simp only [lpH_lp] at h
  exact h
noncomputable def LoK0 (hl : Hl) : AEx → LSt → Option (AEnd × LHp) := blkK 0 (seqH gLo cf_lon [6, 14] hl (cR (cR (cR (cR (cR C_lon))))) (endC Tryz.prog 0 Tryz.f6.results.toList ah))
def stLoE (t a d : Int) (x L : List Int) (i : Int) : LSt := ⟨mkFr 7 [(1, AV.op 0 [] 0), (3, I d), (4, AV.op 1 [] 0), (5, I i), (41, I i), (42, AV.op 0 [2] 2), (43, AV.d (.slice i64T) x), (44, I (Int.ofNat x.length)), (45, B false)], hpLo t a d x L, 4⟩
theorem lo_x0 (hl : Hl) (t a d : Int) (x L : List Int) (i : Int) : LoK0 hl (.exit 0) (stLoE t a d x L i) =
  (if 0 ≤ IntKind.i64.wrap (d * d) ∧ IntKind.i64.wrap (d * d) ≤ 4294967296 then some (List.replicate (IntKind.i64.wrap (d * d)).toNat 0) else none).bind fun v0 =>
    hl (cL (cL (cR (cL (cR (cR (cR (cR (cR (cR C_lon)))))))))) _ { fr := mkFr 7 [(1, AV.op 0 [] 0), (3, I d), (4, AV.op 1 [] 0), (6, AV.op 4 [] 0), (7, I 0)], hp := [(0, AObj.box (AV.d ((i64T).pair ((i64T).slice.pair ((i64T).slice.pair Ty.unit))) (t, [a, d], x, PUnit.unit))), (1, AObj.box ((I t).pr ((AV.os 2 0).pr ((AV.os 3 0).pr (AV.d Ty.unit PUnit.unit))))), (2, AObj.arr 3 (i64T) 0 false [a, d]), (3, AObj.arr 2 (i64T) 0 false L), (4, AObj.box ((I 1).pr ((AV.os 5 0).pr ((AV.os 6 0).pr (AV.d Ty.unit PUnit.unit))))), (5, AObj.arr 3 (i64T) 0 false [d, d]), (6, AObj.arr 2 (i64T) 0 false v0)], nx := 7 } (blkK 2 (seqH gLo cf_lon [6, 14] hl (cR (cR (cR (cR (cR (cR (cR C_lon))))))) (endC Tryz.prog 0 Tryz.f6.results.toList ah))) := by kernel_rfl
def stLoR (t a d : Int) (x L : List Int) (i v w : Int) : LSt := ⟨mkFr 7 [(1, AV.op 0 [] 0), (2, B true), (3, I d), (4, AV.op 1 [] 0), (5, I i), (41, I i), (42, AV.op 0 [2] 2), (43, AV.d (i64T).slice x), (44, I (Int.ofNat x.length)), (45, B true), (48, AV.op 0 [2] 2), (49, AV.d (i64T).slice x), (50, I i), (51, AV.ip (i64T) v), (52, I v), (53, I w), (54, B true), (55, B true)], hpLo t a d x L, 4⟩
theorem lo_ret (hl : Hl) (t a d : Int) (x L : List Int) (i v w : Int) : LoK0 hl .ret (stLoR t a d x L i v w) = some (.ret [B true], []) := by kernel_rfl
def stL1 (t a d : Int) (x L O : List Int) (i : Int) : LSt := ⟨mkFr 7 [(1, AV.op 0 [] 0), (3, I d), (4, AV.op 1 [] 0), (6, AV.op 4 [] 0), (7, I i)], hpLo t a d x L ++ [(4, .box ((I 1).pr ((AV.os 5 0).pr ((AV.os 6 0).pr (AV.d Ty.unit PUnit.unit))))), (5, .arr 3 i64T 0 false [d, d]), (6, .arr 2 i64T 0 false O)], 7⟩
theorem lo_st1H (hl : Hl) (t a d : Int) (x L O : List Int) (i : Int) (n : Nat) {R : Type} (k : AEx → LSt → Option R) : lpH gLo cf_lon [6, 14] hl (cL (cL (cR (cL (cR (cR (cR (cR (cR (cR C_lon)))))))))) (n + 1) (stL1 t a d x L O i) k =
  bif decide (i < d) then (idx O (IntKind.i64.wrap (IntKind.i64.wrap (i * d) + i))).bind fun v1 =>
      (setN O (IntKind.i64.wrap (IntKind.i64.wrap (i * d) + i)).toNat 1065353216).bind fun v2 =>
        lpH gLo cf_lon [6, 14] hl (cL (cL (cR (cL (cR (cR (cR (cR (cR (cR C_lon)))))))))) n { fr := mkFr 7 [(1, AV.op 0 [] 0), (3, I d), (4, AV.op 1 [] 0), (6, AV.op 4 [] 0), (7, I (IntKind.i64.wrap (i + 1)))], hp := [(0, AObj.box (AV.d ((i64T).pair ((i64T).slice.pair ((i64T).slice.pair Ty.unit))) (t, [a, d], x, PUnit.unit))), (1, AObj.box ((I t).pr ((AV.os 2 0).pr ((AV.os 3 0).pr (AV.d Ty.unit PUnit.unit))))), (2, AObj.arr 3 (i64T) 0 false [a, d]), (3, AObj.arr 2 (i64T) 0 false L), (4, AObj.box ((I 1).pr ((AV.os 5 0).pr ((AV.os 6 0).pr (AV.d Ty.unit PUnit.unit))))), (5, AObj.arr 3 (i64T) 0 false [d, d]), (6, AObj.arr 2 (i64T) 0 false v2)], nx := 7 } k
  else k (AEx.exit 2) { fr := mkFr 7 [(1, AV.op 0 [] 0), (3, I d), (4, AV.op 1 [] 0), (6, AV.op 4 [] 0), (7, I i), (74, I i), (75, I d), (76, B false)], hp := [(0, AObj.box (AV.d ((i64T).pair ((i64T).slice.pair ((i64T).slice.pair Ty.unit))) (t, [a, d], x, PUnit.unit))), (1, AObj.box ((I t).pr ((AV.os 2 0).pr ((AV.os 3 0).pr (AV.d Ty.unit PUnit.unit))))), (2, AObj.arr 3 (i64T) 0 false [a, d]), (3, AObj.arr 2 (i64T) 0 false L), (4, AObj.box ((I 1).pr ((AV.os 5 0).pr ((AV.os 6 0).pr (AV.d Ty.unit PUnit.unit))))), (5, AObj.arr 3 (i64T) 0 false [d, d]), (6, AObj.arr 2 (i64T) 0 false O)], nx := 7 } := by kernel_rfl
theorem lo_st1 (t a d : Int) (x L O : List Int) (i : Int) (n : Nat) {R : Type} (k : AEx → LSt → Option R) : lp gLo cf_lon (cL (cL (cR (cL (cR (cR (cR (cR (cR (cR C_lon)))))))))) (n + 1) (stL1 t a d x L O i) k =
  bif decide (i < d) then (idx O (IntKind.i64.wrap (IntKind.i64.wrap (i * d) + i))).bind fun v1 =>
      (setN O (IntKind.i64.wrap (IntKind.i64.wrap (i * d) + i)).toNat 1065353216).bind fun v2 =>
        lp gLo cf_lon (cL (cL (cR (cL (cR (cR (cR (cR (cR (cR C_lon)))))))))) n { fr := mkFr 7 [(1, AV.op 0 [] 0), (3, I d), (4, AV.op 1 [] 0), (6, AV.op 4 [] 0), (7, I (IntKind.i64.wrap (i + 1)))], hp := [(0, AObj.box (AV.d ((i64T).pair ((i64T).slice.pair ((i64T).slice.pair Ty.unit))) (t, [a, d], x, PUnit.unit))), (1, AObj.box ((I t).pr ((AV.os 2 0).pr ((AV.os 3 0).pr (AV.d Ty.unit PUnit.unit))))), (2, AObj.arr 3 (i64T) 0 false [a, d]), (3, AObj.arr 2 (i64T) 0 false L), (4, AObj.box ((I 1).pr ((AV.os 5 0).pr ((AV.os 6 0).pr (AV.d Ty.unit PUnit.unit))))), (5, AObj.arr 3 (i64T) 0 false [d, d]), (6, AObj.arr 2 (i64T) 0 false v2)], nx := 7 } k
  else k (AEx.exit 2) { fr := mkFr 7 [(1, AV.op 0 [] 0), (3, I d), (4, AV.op 1 [] 0), (6, AV.op 4 [] 0), (7, I i), (74, I i), (75, I d), (76, B false)], hp := [(0, AObj.box (AV.d ((i64T).pair ((i64T).slice.pair ((i64T).slice.pair Ty.unit))) (t, [a, d], x, PUnit.unit))), (1, AObj.box ((I t).pr ((AV.os 2 0).pr ((AV.os 3 0).pr (AV.d Ty.unit PUnit.unit))))), (2, AObj.arr 3 (i64T) 0 false [a, d]), (3, AObj.arr 2 (i64T) 0 false L), (4, AObj.box ((I 1).pr ((AV.os 5 0).pr ((AV.os 6 0).pr (AV.d Ty.unit PUnit.unit))))), (5, AObj.arr 3 (i64T) 0 false [d, d]), (6, AObj.arr 2 (i64T) 0 false O)], nx := 7 } := by
  have h := lo_st1H (hlp gLo cf_lon) t a d x L O i n k
  simp only [lpH_lp] at h
  exact h
noncomputable def LoK1 (hl : Hl) : AEx → LSt → Option (AEnd × LHp) := blkK 2 (seqH gLo cf_lon [6, 14] hl (cR (cR (cR (cR (cR (cR (cR C_lon))))))) (endC Tryz.prog 0 Tryz.f6.results.toList ah))
def stL1E (t a d : Int) (x L O : List Int) (i : Int) : LSt := ⟨mkFr 7 [(1, AV.op 0 [] 0), (3, I d), (4, AV.op 1 [] 0), (6, AV.op 4 [] 0), (7, I i), (74, I i), (75, I d), (76, B false)], hpLo t a d x L ++ [(4, .box ((I 1).pr ((AV.os 5 0).pr ((AV.os 6 0).pr (AV.d Ty.unit PUnit.unit))))), (5, .arr 3 i64T 0 false [d, d]), (6, .arr 2 i64T 0 false O)], 7⟩
theorem lo_x1 (t a d : Int) (x L O : List Int) (i : Int) : LoK1 (hlp gLo cf_lon) (.exit 2) (stL1E t a d x L O i) =
  bif decide (x.length ≤ 9223372036854775807 ∧ O.length ≤ 9223372036854775807) then 
    bif bgnE t a d x 1 d d O != 0 then 
      bif bgnE t a d x 1 d d O != 0 then some (AEnd.ret [B true], [])
      else 
        bif 0 != t then some (AEnd.ret [B false], [])
        else some (AEnd.ret [B false], [])
    else 
      bif decide (2 ≤ 9223372036854775807 ∧ (fMM a d d x O).length ≤ 9223372036854775807 ∧ t = t ∧ [a, d] = [a, d] ∧ fMM a d d x O = L) then some (AEnd.ret [B true], [])
      else none
  else none := by kernel_rfl
end Go.Proofs.XGT
/- The law LinearOne answers true, whatever the tensor. -/
namespace Go.Proofs.XGT
open Go.Vm Go
set_option maxRecDepth 100000
set_option maxHeartbeats 1000000
def infB (v : Int) : Bool := IntKind.i64.wrap (Int.ofNat (BitVec.ofInt 64 v &&& 2139095040#64).toNat) == 2139095040
def zW (v : Int) : Int := bif v == 2147483648 then 0 else v
theorem fin_nat {v : Int} (h : numOk 1 v = true) (hf : infB v = false) : ∃ n : Nat, v = n ∧ n < 4294967296 ∧ rungW n < 2139095040 := by
  rcases gw_of h with rfl | ⟨n, rfl, h1, h2⟩
  · exact absurd hf (by decide)
  · refine ⟨n, rfl, h1, ?_⟩
    unfold infB at hf
    rw [show (2139095040#64) = BitVec.ofNat 64 2139095040 from rfl, bv_and n 2139095040 h1 (by decide), and_hi, beq_eq_false_iff_ne] at hf
    unfold rungW at h2 ⊢
    have : n / 8388608 % 256 ≠ 255 := by
      intro he
      rw [he] at hf
      exact hf rfl
    omega
theorem zW_nat {n : Nat} (h1 : n < 4294967296) : ∃ m : Nat, zW n = m ∧ m < 4294967296 ∧ (m = 0 ∨ rungW m ≠ 0) ∧ (rungW n < 2139095040 → rungW m < 2139095040) ∧ (if rungW n = 0 then (0 : Int) else n) = m := by
  unfold zW
  by_cases h : n = 2147483648
  · subst h
    exact ⟨0, rfl, by decide, .inl rfl, fun _ => by decide, rfl⟩
  · have : ((n : Int) == 2147483648) = false := by rw [beq_eq_false_iff_ne]; omega
    rw [this, cond_false]
    refine ⟨n, rfl, h1, ?_, fun h => h, ?_⟩
    · unfold rungW
      omega
    · split
      · rename_i h0
        unfold rungW at h0
        omega
      · rfl
def oneP (K i : Nat) : List Int := tab (K * K) fun p => if p / K = p % K ∧ p / K < i then 1065353216 else 0
theorem oneP_get {K n c : Nat} (hn : n < K) (hc : c < K) : (oneP K K).getD (n * K + c) 0 = if n = c then 1065353216 else 0 := by
  have hb := row_le (C := K) hn
  have e1 := (place_iff (i := n) (p := n * K + c) (j := c) hc).mp rfl
  unfold oneP
  rw [List.getD_eq_getElem?_getD, tab_get (by omega), e1.1, e1.2]
  by_cases h : n = c
  · rw [if_pos ⟨h, hn⟩, if_pos h]
    rfl
  · rw [if_neg (fun h2 => h h2.1), if_neg h]
    rfl
theorem cell_one {K r c : Nat} {x : List Int} (hc : c < K) (hx : ∀ n, n < K → ∃ m : Nat, x.getD (r * K + n) 0 = m ∧ m < 4294967296 ∧ rungW m < 2139095040) : ∀ n, n ≤ K → cellP 0 K K x (oneP K K) r c n = if c < n then zW (x.getD (r * K + c) 0) else 0
  | 0, _ => by rw [if_neg (by omega)]; rfl
  | n + 1, hn => by
    simp only [cellP]
    rw [cell_one hc hx n (by omega), oneP_get (by omega) hc]
    obtain ⟨m, e, h1, h2⟩ := hx n (by omega)
    rw [e]
    by_cases hnc : n = c
    · subst hnc
      rw [if_neg (by omega), if_pos rfl, if_pos (by omega), mul1_r h1 h2, add0_l h1 h2, e]
      obtain ⟨k, k1, _, _, _, k5⟩ := zW_nat h1
      rw [k5, k1]
    · rw [if_neg hnc]
      have hz := mul0_r h1 h2
      by_cases hlt : c < n
      · rw [if_pos hlt, if_pos (by omega)]
        obtain ⟨mc, ec, c1, c2⟩ := hx c hc
        rw [ec]
        obtain ⟨k, k1, k2, k3, k4, _⟩ := zW_nat c1
        rw [k1]
        exact add0_r k2 (k4 c2) k3 hz
      · rw [if_neg hlt, if_neg (by omega)]
        exact add0_r (n := 0) (by decide) (by decide) (.inl rfl) hz
theorem one_true {t1 t2 : Int} {M K : Nat} {x : List Int} (h : Ok2 t1 t2 M K K x (oneP K K)) (hf : ∀ v ∈ x, infB v = false) : fMM M K K x (oneP K K) = x.map zW := by
  unfold fMM
  simp only [Int.toNat_natCast]
  apply List.ext_getElem?
  intro q
  unfold prodL mT
  by_cases hq : q < M * K
  · have hlt : q < x.length := by rw [h.lx]; exact hq
    rw [tab_get hq, List.getElem?_map, List.getElem?_eq_getElem hlt]
    have h1 := div_lt hq
    have h2 : q % K < K := Nat.mod_lt _ h.k1
    have hd := Nat.div_add_mod q K
    have hb := row_le (C := K) h1
    rw [cell_one h2 (fun n hn => by
      have hlt2 : q / K * K + n < x.length := by rw [h.lx]; omega
      have hm := List.getElem_mem hlt2
      obtain ⟨m, e, g1, g2⟩ := fin_nat (h.nx _ hm) (hf _ hm)
      exact ⟨m, by rw [List.getD_eq_getElem?_getD, List.getElem?_eq_getElem hlt2]; exact e, g1, g2⟩) K (Nat.le_refl _), if_pos h2, show q / K * K + q % K = q by rw [Nat.mul_comm]; exact hd, List.getD_eq_getElem?_getD, List.getElem?_eq_getElem hlt]
    rfl
  · rw [List.getElem?_eq_none (by rw [tab_length]; omega), List.getElem?_eq_none (by rw [List.length_map, h.lx]; omega)]
def mixG (f : Int → Int) (L : List Int) (i : Nat) : List Int := (L.map f).take i ++ L.drop i
theorem mixG_len {f : Int → Int} {L : List Int} {i : Nat} : (mixG f L i).length = L.length := by unfold mixG; rw [List.length_append, List.length_take, List.length_drop, List.length_map]; omega
theorem mixG_get {f : Int → Int} {L : List Int} {i : Nat} (h : i < L.length) : (mixG f L i)[i]? = L[i]? := by
  have hl : ((L.map f).take i).length = i := by simp; omega
  unfold mixG
  rw [List.getElem?_append_right (by omega), hl, Nat.sub_self, List.getElem?_drop, Nat.add_zero]
theorem mixG_next {f : Int → Int} {L : List Int} {i : Nat} (h : i < L.length) : (mixG f L i).set i (f L[i]) = mixG f L (i + 1) := by
  have hl : ((L.map f).take i).length = i := by simp; omega
  unfold mixG
  rw [List.set_append_right _ _ (by omega), hl, Nat.sub_self, List.drop_eq_getElem_cons h, List.set_cons_zero]
  have h2 : i < (L.map f).length := by rw [List.length_map]; exact h
  rw [← List.take_append_getElem h2, List.append_assoc]
  simp
theorem mixG_set {f : Int → Int} {L : List Int} {i : Nat} (h : i < L.length) : setN (mixG f L i) i (f L[i]) = some (mixG f L (i + 1)) := by
  unfold setN
  rw [mixG_len, show Nat.blt i L.length = true from Nat.ble_eq_true_of_le h, cond_true, mixG_next h]
theorem mixG_skip {f : Int → Int} {L : List Int} {i : Nat} (h : i < L.length) (he : f L[i] = L[i]) : mixG f L (i + 1) = mixG f L i := by
  rw [← mixG_next h, he]
  apply List.ext_getElem?
  intro q
  by_cases hq : q = i
  · subst hq
    rw [List.getElem?_set_self (by rw [mixG_len]; exact h), mixG_get h, List.getElem?_eq_getElem h]
  · rw [List.getElem?_set_ne (Ne.symm hq)]
theorem lo_end {t a : Int} {K : Nat} {x L O : List Int} (hx : x.length ≤ 600) (hL : L = x.map zW) (hO : O = oneP K K) (hK : K ≤ 24) (hf : ∀ v ∈ x, infB v = false) (i : Int) : LoK1 (hlp gLo cf_lon) (.exit 2) (stL1E t a K x L O i) = some (.ret [B true], []) := by
  have hO2 : O.length ≤ 576 := by
    rw [hO]
    unfold oneP
    rw [tab_length]
    exact Nat.mul_le_mul hK hK
  rw [lo_x1, decide_eq_true (show x.length ≤ 9223372036854775807 ∧ O.length ≤ 9223372036854775807 from ⟨by omega, by omega⟩), cond_true]
  cases hb : bgnE t a K x 1 K K O != 0 with
  | true => rfl
  | false =>
    have h0 : bgnE t a K x 1 K K O = 0 := by simpa using hb
    obtain ⟨M, K', N, rfl, hk, _, hn, hok⟩ := ok2_of h0
    obtain rfl : K = K' := by omega
    obtain rfl : K = N := by omega
    subst hO
    have key := one_true hok hf
    have hlen : (fMM (M : Int) K K x (oneP K K)).length ≤ 600 := by rw [key, List.length_map]; exact hx
    rw [decide_eq_true (show 2 ≤ 9223372036854775807 ∧ (fMM (M : Int) K K x (oneP K K)).length ≤ 9223372036854775807 ∧ t = t ∧ [(M : Int), (K : Int)] = [(M : Int), (K : Int)] ∧ fMM (M : Int) K K x (oneP K K) = L from ⟨by decide, by omega, rfl, rfl, by rw [key, hL]⟩)]
    rfl
theorem lo_loop1 {t a : Int} {K : Nat} {x L : List Int} (hx : x.length ≤ 600) (hL : L = x.map zW) (hK : K ≤ 24) (hf : ∀ v ∈ x, infB v = false) : lp gLo cf_lon (cL (cL (cR (cL (cR (cR (cR (cR (cR (cR C_lon)))))))))) fu (stL1 t a K x L (oneP K 0) 0) (LoK1 (hlp gLo cf_lon)) = some (.ret [B true], []) := by
  have hfu : fu = 18446744073709551616 := rfl
  have hKK : K * K ≤ 576 := Nat.mul_le_mul hK hK
  have key := lp_to (T := fun m s => lp gLo cf_lon (cL (cL (cR (cL (cR (cR (cR (cR (cR (cR C_lon)))))))))) m s (LoK1 (hlp gLo cf_lon))) (f := fun i : Nat => stL1 t a K x L (oneP K i) i) K fu (by omega) (fun i hi n => by
    have hb := row_le (C := K) hi
    have e0 : IntKind.i64.wrap ((i : Int) + 1) = ((i + 1 : Nat) : Int) := by rw [wrap64 (by omega) (by omega)]; omega
    have e1 : IntKind.i64.wrap ((i : Int) * K) = ((i * K : Nat) : Int) := by rw [← Int.natCast_mul]; exact wrap64 (by omega) (by omega)
    have e2 : IntKind.i64.wrap (((i * K : Nat) : Int) + i) = ((i * K + i : Nat) : Int) := by rw [← Int.natCast_add]; exact wrap64 (by omega) (by omega)
    have hg : (oneP K i)[i * K + i]? = some ((oneP K i).getD (i * K + i) 0) := by
      rw [List.getD_eq_getElem?_getD, List.getElem?_eq_getElem (by unfold oneP; rw [tab_length]; omega)]
      rfl
    have hidx : idx (oneP K i) ((i * K + i : Nat) : Int) = some ((oneP K i).getD (i * K + i) 0) := by unfold idx; rw [if_pos (by omega), Int.toNat_natCast, hg]
    have hs : setN (oneP K i) (i * K + i) 1065353216 = some (oneP K (i + 1)) := by
      unfold oneP
      rw [tab_set (by omega)]
      congr 1
      apply tab_congr
      intro p _
      have hp := place_iff (i := i) (p := p) hi
      by_cases h1 : p = i * K + i
      · rw [if_pos h1, if_pos ⟨by rw [(hp.mp h1).1, (hp.mp h1).2], by rw [(hp.mp h1).1]; omega⟩]
      · rw [if_neg h1]
        by_cases h2 : p / K = p % K ∧ p / K < i
        · rw [if_pos h2, if_pos ⟨h2.1, by omega⟩]
        · rw [if_neg h2, if_neg (fun h3 => by
            by_cases h4 : p / K = i
            · exact h1 (hp.mpr ⟨h4, by rw [← h3.1]; exact h4⟩)
            · exact h2 ⟨h3.1, by omega⟩)]
    show lp gLo cf_lon (cL (cL (cR (cL (cR (cR (cR (cR (cR (cR C_lon)))))))))) (n + 1) (stL1 t a K x L (oneP K i) i) (LoK1 (hlp gLo cf_lon)) = _
    rw [lo_st1, decide_eq_true (show (i : Int) < (K : Int) by omega), e1, e2, cond_true, hidx, Option.bind_some, Int.toNat_natCast, hs, Option.bind_some, e0]
    rfl)
  refine Eq.trans key ?_
  obtain ⟨m', hm'⟩ : ∃ m', fu - K = m' + 1 := ⟨fu - K - 1, by omega⟩
  rw [hm', lo_st1, decide_eq_false (Int.lt_irrefl _), cond_false]
  exact lo_end hx hL rfl hK hf _
theorem oneP_zero (K : Nat) : List.replicate (K * K) (0 : Int) = oneP K 0 := by
  apply List.ext_getElem?
  intro q
  unfold oneP
  by_cases hq : q < K * K
  · rw [tab_get hq, List.getElem?_replicate, if_pos hq, if_neg (by omega)]
  · rw [List.getElem?_eq_none (by rw [List.length_replicate]; omega), List.getElem?_eq_none (by rw [tab_length]; omega)]
theorem lo_mid {t a : Int} {K : Nat} {x L : List Int} (hx : x.length ≤ 600) (hL : L = x.map zW) (hK : K ≤ 24) (hf : ∀ v ∈ x, infB v = false) (i : Int) : LoK0 (hlp gLo cf_lon) (.exit 0) (stLoE t a K x L i) = some (.ret [B true], []) := by
  have hKK : K * K ≤ 576 := Nat.mul_le_mul hK hK
  have w : IntKind.i64.wrap ((K : Int) * K) = ((K * K : Nat) : Int) := by rw [← Int.natCast_mul]; exact wrap64 (by omega) (by omega)
  have key : LoK0 (hlp gLo cf_lon) (.exit 0) (stLoE t a K x L i) = lp gLo cf_lon (cL (cL (cR (cL (cR (cR (cR (cR (cR (cR C_lon)))))))))) fu (stL1 t a K x L (oneP K 0) 0) (LoK1 (hlp gLo cf_lon)) := (lo_x0 (hlp gLo cf_lon) t a K x L i).trans (by
    rw [w, if_pos ⟨by omega, by omega⟩, Option.bind_some, Int.toNat_natCast, oneP_zero]
    kernel_rfl)
  exact key.trans (lo_loop1 hx hL hK hf)
theorem lo_loop0 {t a : Int} {K : Nat} {x : List Int} (hx : x.length ≤ 600) (hK : K ≤ 24) : ∀ (r i n : Nat), i + r = x.length → r < n → (∀ j (_ : j < i) (h : j < x.length), infB x[j] = false) →
    lp gLo cf_lon (cL (cL (cR (cL (cR (cR (cR (cR C_lon)))))))) n (stLo t a K x (mixG zW x i) i) (LoK0 (hlp gLo cf_lon)) = some (.ret [B true], []) := by
  intro r
  induction r with
  | zero =>
    intro i n hi hn hf
    obtain ⟨n, rfl⟩ : ∃ m', n = m' + 1 := ⟨n - 1, by omega⟩
    rw [lo_st0, decide_eq_false (show ¬ ((i : Int) < Int.ofNat x.length) by simp only [Int.ofNat_eq_natCast]; omega), cond_false]
    have hi' : i = x.length := by omega
    refine lo_mid hx ?_ hK (fun v hv => ?_) i
    · unfold mixG
      rw [List.take_of_length_le (by rw [List.length_map]; omega), List.drop_eq_nil_of_le (by omega), List.append_nil]
    · obtain ⟨j, hj, rfl⟩ := List.getElem_of_mem hv
      exact hf j (by omega) hj
  | succ r ih =>
    intro i n hi hn hf
    obtain ⟨n, rfl⟩ : ∃ m', n = m' + 1 := ⟨n - 1, by omega⟩
    have hlt : i < x.length := by omega
    have e0 : IntKind.i64.wrap ((i : Int) + 1) = ((i + 1 : Nat) : Int) := by rw [wrap64 (by omega) (by omega)]; omega
    have hidx : idx x (i : Int) = some x[i] := by unfold idx; rw [if_pos (by omega), Int.toNat_natCast, List.getElem?_eq_getElem hlt]
    have hidx2 : idx (mixG zW x i) (i : Int) = some x[i] := by unfold idx; rw [if_pos (by omega), Int.toNat_natCast, mixG_get hlt, List.getElem?_eq_getElem hlt]
    have hnext : ∀ j (_ : j < i + 1) (h : j < x.length), infB x[i] = false → infB x[j] = false := fun j hj h h2 => by
      by_cases h3 : j = i
      · subst h3
        exact h2
      · exact hf j (by omega) h
    rw [lo_st0, decide_eq_true (show (i : Int) < Int.ofNat x.length by simp only [Int.ofNat_eq_natCast]; omega), cond_true, hidx, Option.bind_some]
    cases hinf : infB x[i] with
    | true =>
      have hinf' := hinf
      unfold infB at hinf'
      rw [hinf', cond_true]
      exact lo_ret (hlp gLo cf_lon) t a K x _ i _ _
    | false =>
      have hinf' := hinf
      unfold infB at hinf'
      rw [hinf', cond_false, Option.bind_some]
      have nx := ih (i + 1) n (by omega) (by omega) (fun j hj h => hnext j hj h hinf)
      cases hz : x[i] == 2147483648 with
      | true =>
        have hset := mixG_set (f := zW) hlt
        have hzv : zW x[i] = 0 := by unfold zW; rw [hz]; rfl
        rw [hzv] at hset
        rw [cond_true, hidx2, Option.bind_some, Int.toNat_natCast, hset, Option.bind_some, e0]
        exact nx
      | false =>
        have hzv : zW x[i] = x[i] := by unfold zW; rw [hz]; rfl
        rw [mixG_skip hlt hzv] at nx
        rw [cond_false, e0]
        exact nx
theorem lon_true (t : Int) (xd x : List Int) : runC gLo Tryz.f6 7 [(6, [1, 3, 4, 5]), (14, [1, 3, 4, 6, 7])] [.d (Y0) (t, xd, x, ())] [] ah = some (.ret [B true], []) := by
  by_cases h6 : Int.ofNat x.length > 600
  · rw [lon_eq, decide_eq_true h6]
    rfl
  · by_cases hx : xd.length = 2
    · obtain ⟨a, d, rfl⟩ := two2_len hx
      have e1 : (Int.ofNat [a, d].length != 2) = false := rfl
      have t2a : two2 [a, d] = some (a, d) := rfl
      have i1 : idx [a, d] 1 = some d := rfl
      by_cases c1 : d < 1
      · rw [lon_eq, decide_eq_false h6, cond_false, e1, cond_false, i1, Option.bind_some, decide_eq_true c1]
        rfl
      · by_cases c2 : d > 24
        · rw [lon_eq, decide_eq_false h6, cond_false, e1, cond_false, i1, Option.bind_some, decide_eq_false c1, cond_false, Option.bind_some, decide_eq_true c2]
          rfl
        · have hlen : x.length ≤ 600 := by simp only [Int.ofNat_eq_natCast] at h6; omega
          obtain ⟨K, rfl⟩ := Int.eq_ofNat_of_zero_le (show 0 ≤ d by omega)
          have key : runC gLo Tryz.f6 7 [(6, [1, 3, 4, 5]), (14, [1, 3, 4, 6, 7])] [.d (Y0) (t, [a, (K : Int)], x, ())] [] ah = lp gLo cf_lon (cL (cL (cR (cL (cR (cR (cR (cR C_lon)))))))) fu (stLo t a K x x 0) (LoK0 (hlp gLo cf_lon)) := (lon_eq t [a, K] x).trans (by
            rw [decide_eq_false h6, cond_false, e1, cond_false, i1, Option.bind_some, decide_eq_false c1, cond_false, Option.bind_some, decide_eq_false c2, cond_false, Option.bind_some, t2a, Option.bind_some, decide_eq_true (show x.length ≤ 65536 by omega), cond_true]
            kernel_rfl)
          have hm : mixG zW x 0 = x := by simp [mixG]
          have := lo_loop0 (t := t) (a := a) hlen (show K ≤ 24 by omega) x.length 0 fu (by omega) (by have : fu = 18446744073709551616 := rfl; omega) (fun j hj _ => by omega)
          rw [hm] at this
          exact key.trans this
    · have e1 : (Int.ofNat xd.length != 2) = true := by rw [bne_iff_ne]; simp only [Int.ofNat_eq_natCast]; omega
      rw [lon_eq, decide_eq_false h6, cond_false, e1]
      rfl
theorem lon_call (t : Int) (xd x : List Int) (_ : xd.length ≤ maxLen) (_ : x.length ≤ maxLen) : FnH Tryz.prog (Env.gam e0) 6 [.d (Y0) (t, xd, x, ())] (hget []) (fun ae h1 => ae = .ret [B true] ∧ h1 = hget []) :=
  runC_call gLo_good hmix Tryz.func6 Tryz.call6 (by decide +kernel) rfl (lon_true t xd x)
end Go.Proofs.XGT
