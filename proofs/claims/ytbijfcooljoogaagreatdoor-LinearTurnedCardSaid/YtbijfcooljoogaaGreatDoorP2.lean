/- linear.matrices of one matrix: run. -/
import Derived.Test.YtbijfcooljoogaaGreatDoorP1
import Derived.Test.YtbijfcooljoogaaGreatDoorWH

namespace Go.Proofs.XGT
open Go.Vm Go
set_option maxRecDepth 100000
set_option maxHeartbeats 4000000
noncomputable def C_mcs : Code := codeOf Tryz.f68
noncomputable def cf_mcs : Cfg := ⟨97, 7, 0, [(7, [2, 6, 7, 8, 10, 56, 57]), (14, [2, 6, 7, 14, 71, 72, 73])], true⟩
theorem mcs_eqH (hl : Hl) (t a b : Int) (x : List Int) : runH g185 Tryz.f68 7 [(7, [2, 6, 7, 8, 10, 56, 57]), (14, [2, 6, 7, 14, 71, 72, 73])] [7] hl [.d (Y0) (t, [a, b], x, ()), .d (.slice i64T) []] [] ah =
  (if IntKind.i64.wrap (a * b) = 0 then none else some (IntKind.i64.wrap ((Int.ofNat x.length).tdiv (IntKind.i64.wrap (a * b))))).bind fun v0 =>
    (if 0 ≤ v0 ∧ v0 ≤ 4294967296 then some (List.replicate v0.toNat 0) else none).bind fun v1 =>
      hl (cL (cL (cR (cL (cR (cR (cR (cR (cR (cR C_mcs)))))))))) _ { fr := mkFr 7 [(2, AV.op 0 [] 0), (6, I a), (7, I b), (8, AV.op 1 [] 0), (10, AV.os 3 0), (56, I (Int.ofNat v1.length)), (57, I 0)], hp := [(0, AObj.box (AV.d ((i64T).pair ((i64T).slice.pair ((i64T).slice.pair Ty.unit))) (t, [a, b], x, PUnit.unit))), (1, AObj.box ((I 0).pr (AV.emp.pr ((AV.os 2 0).pr (AV.d Ty.unit PUnit.unit))))), (2, AObj.arr 3 (i64T) 0 false []), (3, AObj.arr 2 (i64T) 0 false v1)], nx := 4 } (blkK 0 (seqH g185 cf_mcs [7] hl (cR (cR (cR (cR (cR (cR (cR C_mcs))))))) (endC Tryz.prog 0 Tryz.f68.results.toList ah))) := by kernel_rfl
theorem mcs_eq (t a b : Int) (x : List Int) : runC g185 Tryz.f68 7 [(7, [2, 6, 7, 8, 10, 56, 57]), (14, [2, 6, 7, 14, 71, 72, 73])] [.d (Y0) (t, [a, b], x, ()), .d (.slice i64T) []] [] ah =
  (if IntKind.i64.wrap (a * b) = 0 then none else some (IntKind.i64.wrap ((Int.ofNat x.length).tdiv (IntKind.i64.wrap (a * b))))).bind fun v0 =>
    (if 0 ≤ v0 ∧ v0 ≤ 4294967296 then some (List.replicate v0.toNat 0) else none).bind fun v1 =>
      (hlp g185 cf_mcs) (cL (cL (cR (cL (cR (cR (cR (cR (cR (cR C_mcs)))))))))) _ { fr := mkFr 7 [(2, AV.op 0 [] 0), (6, I a), (7, I b), (8, AV.op 1 [] 0), (10, AV.os 3 0), (56, I (Int.ofNat v1.length)), (57, I 0)], hp := [(0, AObj.box (AV.d ((i64T).pair ((i64T).slice.pair ((i64T).slice.pair Ty.unit))) (t, [a, b], x, PUnit.unit))), (1, AObj.box ((I 0).pr (AV.emp.pr ((AV.os 2 0).pr (AV.d Ty.unit PUnit.unit))))), (2, AObj.arr 3 (i64T) 0 false []), (3, AObj.arr 2 (i64T) 0 false v1)], nx := 4 } (blkK 0 (seqH g185 cf_mcs [7] (hlp g185 cf_mcs) (cR (cR (cR (cR (cR (cR (cR C_mcs))))))) (endC Tryz.prog 0 Tryz.f68.results.toList ah))) := runH_runC.trans (mcs_eqH (hlp g185 cf_mcs) t a b x)
def stM (t a b : Int) (x l : List Int) : LSt := { fr := mkFr 7 [(2, AV.op 0 [] 0), (6, I a), (7, I b), (8, AV.op 1 [] 0), (10, AV.os 3 0), (56, I (Int.ofNat l.length)), (57, I 0)], hp := [(0, AObj.box (AV.d (Y0) (t, [a, b], x, PUnit.unit))), (1, AObj.box ((I 0).pr (AV.emp.pr ((AV.os 2 0).pr (AV.d Ty.unit PUnit.unit))))), (2, AObj.arr 3 (i64T) 0 false []), (3, AObj.arr 2 (i64T) 0 false l)], nx := 4 }
noncomputable def MK : AEx → LSt → Option (AEnd × LHp) := (blkK 0 (seqH g185 cf_mcs [7] (hlp g185 cf_mcs) (cR (cR (cR (cR (cR (cR (cR C_mcs))))))) (endC Tryz.prog 0 Tryz.f68.results.toList ah)))
theorem mcs_one (t a b : Int) (x : List Int) : lp g185 cf_mcs (cL (cL (cR (cL (cR (cR (cR (cR (cR (cR C_mcs)))))))))) fu (stM t a b x [0]) MK =
  (if 0 ≤ IntKind.i64.wrap (IntKind.i64.wrap (0 * a) * b) ∧ IntKind.i64.wrap (IntKind.i64.wrap (0 * a) * b) ≤ Int.ofNat x.length ∧ Int.ofNat x.length ≤ Int.ofNat x.length then some (List.drop (IntKind.i64.wrap (IntKind.i64.wrap (0 * a) * b)).toNat (List.take (Int.ofNat x.length).toNat x)) else none).bind fun v0 =>
    (if (0 : Int) ≤ 0 ∧ 0 ≤ IntKind.i64.wrap (a * b) ∧ IntKind.i64.wrap (a * b) ≤ Int.ofNat v0.length then some (List.drop 0 (List.take (IntKind.i64.wrap (a * b)).toNat v0)) else none).bind fun v1 =>
      some (AEnd.ret [AV.os 0 0], [(0, AObj.arr 108 ((i64T).pair ((i64T).pair ((i64T).slice.pair Ty.unit))) 0 false [(a, b, v1, PUnit.unit)])]) := by kernel_rfl
end Go.Proofs.XGT
/- linear.matrices of one matrix: what it makes. -/
namespace Go.Proofs.XGT
open Go.Vm Go
set_option maxRecDepth 100000
set_option maxHeartbeats 1000000
theorem mcs_key {a b : Int} {t : Int} {x : List Int} (w1 : IntKind.i64.wrap (a * b) = a * b) (h1 : 1 ≤ a * b) (w2 : IntKind.i64.wrap ((Int.ofNat x.length).tdiv (a * b)) = 1) : runC g185 Tryz.f68 7 [(7, [2, 6, 7, 8, 10, 56, 57]), (14, [2, 6, 7, 14, 71, 72, 73])] [.d (Y0) (t, [a, b], x, ()), .d (.slice i64T) []] [] ah = lp g185 cf_mcs (cL (cL (cR (cL (cR (cR (cR (cR (cR (cR C_mcs)))))))))) fu (stM t a b x [0]) MK := by
  obtain ⟨R, hR⟩ : ∃ R, lp g185 cf_mcs (cL (cL (cR (cL (cR (cR (cR (cR (cR (cR C_mcs)))))))))) fu (stM t a b x [0]) MK = R := ⟨_, rfl⟩
  rw [hR]
  refine (mcs_eq t a b x).trans ?_
  rw [w1, if_neg (by omega), w2]
  rw [Option.bind_some, if_pos (by omega), Option.bind_some, show List.replicate (1 : Int).toNat (0 : Int) = [0] from rfl, ← hR]
  kernel_rfl
theorem mcs_run {a b : Int} {t : Int} {x : List Int} (ha : 1 ≤ a) (hb : 1 ≤ b) (hab : a * b ≤ 65536) (hx : (x.length : Int) = a * b) :
    runC g185 Tryz.f68 7 [(7, [2, 6, 7, 8, 10, 56, 57]), (14, [2, 6, 7, 14, 71, 72, 73])] [.d (Y0) (t, [a, b], x, ()), .d (.slice i64T) []] [] ah = some (.ret [.os 0 0], [(0, .arr 108 (Y6) 0 false [(a, b, x, ())])]) := by
  have h1 : 1 ≤ a * b := by have := Int.mul_le_mul ha hb (by omega) (by omega); omega
  have w1 : IntKind.i64.wrap (a * b) = a * b := wrap64 (by omega) (by omega)
  have w2 : IntKind.i64.wrap ((Int.ofNat x.length).tdiv (a * b)) = 1 := by
    rw [show Int.ofNat x.length = a * b from hx, Int.tdiv_self (by omega)]
    rfl
  have w3 : IntKind.i64.wrap (IntKind.i64.wrap (0 * a) * b) = 0 := by
    rw [Int.zero_mul, show IntKind.i64.wrap 0 = 0 from wrap64 (by omega) (by omega), Int.zero_mul]
    exact wrap64 (by omega) (by omega)
  refine (mcs_key w1 h1 w2).trans ((mcs_one t a b x).trans ?_)
  rw [w3, w1, if_pos ⟨Int.le_refl _, Int.natCast_nonneg _, Int.le_refl _⟩, Option.bind_some, Int.toNat_zero, List.drop_zero, show (Int.ofNat x.length).toNat = x.length from rfl, List.take_length, if_pos ⟨Int.le_refl _, by omega, by rw [show Int.ofNat x.length = a * b from hx]; exact Int.le_refl _⟩, Option.bind_some, ← hx, Int.toNat_natCast, List.take_length]
  rfl
def mcsT1 : List AV → LHp → Tq
  | [.d ((.pair (.int .i64) (.pair (.slice (.int .i64)) (.pair (.slice (.int .i64)) .unit)))) (_, [a, b], x, ()), .d (.slice (.int .i64)) []], [] =>
    .br (decide (1 ≤ a ∧ 1 ≤ b ∧ a * b ≤ 65536 ∧ (x.length : Int) = a * b)) (.leaf (.ret [.os 0 0]) [(0, .arr 108 (Y6) 0 false [(a, b, x, ())])]) .no
  | _, _ => .no
theorem mcsT1_ok : FnE.OK e0.P e0.gam 68 (treeE mcsT1) := by
  have h1 : FnE.OK e0.P e0.gam 68 (execFnC g185 Tryz.f68 7 [(7, [2, 6, 7, 8, 10, 56, 57]), (14, [2, 6, 7, 14, 71, 72, 73])]) := y68_ok
  refine ⟨fun _ _ _ => Tq.eq _ _, fun args hs ae hs' h => ?_⟩
  have h' : (mcsT1 args hs).run ah = some (ae, hs') := h
  clear h
  unfold mcsT1 at h'
  split at h'
  · obtain ⟨hb, h2⟩ := Tq.br_no h'
    obtain ⟨c1, c2, c3, c4⟩ := of_decide_eq_true hb
    cases h2
    exact h1.okC (mcs_run c1 c2 c3 c4)
  · cases h'
end Go.Proofs.XGT
/- linear.begin of a MatMul and of a Gemm over two matrices. -/
namespace Go.Proofs.XGT
open Go.Vm Go
set_option maxRecDepth 100000
set_option maxHeartbeats 4000000
noncomputable def C_bgn : Code := codeOf Tryz.f39
noncomputable def cf_bgn : Cfg := ⟨33, 6, 2, [(3, [2, 4, 6, 9, 10, 11])], true⟩
def hpL (z : Bool) (t1 : Int) (d1 x1 : List Int) (t2 : Int) (d2 x2 : List Int) : LHp := [(0, .arr 25 (Y0) 0 z [(t1, d1, x1, ()), (t2, d2, x2, ())]), (1, .arr 9 .str 0 false [[120], [121]])]
theorem bgm_eq (t1 a b t2 c d : Int) (x y : List Int) : runC g179 Tryz.f39 6 [(3, [2, 4, 6, 9, 10, 11])] [nodeA strMM [] [122] (.os 1 0) .nils, .os 0 0] (hpL false t1 [a, b] x t2 [c, d] y) ah =
  bif decide (2 ≤ 9223372036854775807 ∧ x.length ≤ 9223372036854775807) then 
    bif tenE t1 [a, b] x != 0 then some (AEnd.ret [(AV.d Ty.str []).pr ((I 0).pr (AV.nils.pr (AV.d Ty.unit PUnit.unit))), I 1], [(0, AObj.arr 25 ((i64T).pair ((i64T).slice.pair ((i64T).slice.pair Ty.unit))) 0 false [(t1, [a, b], x, PUnit.unit), (t2, [c, d], y, PUnit.unit)]), (1, AObj.arr 9 Ty.str 0 false [[120], [121]])])
    else 
      bif decide (2 ≤ 9223372036854775807 ∧ y.length ≤ 9223372036854775807) then 
        bif tenE t2 [c, d] y != 0 then some (AEnd.ret [(AV.d Ty.str []).pr ((I 0).pr (AV.nils.pr (AV.d Ty.unit PUnit.unit))), I 1], [(0, AObj.arr 25 ((i64T).pair ((i64T).slice.pair ((i64T).slice.pair Ty.unit))) 0 false [(t1, [a, b], x, PUnit.unit), (t2, [c, d], y, PUnit.unit)]), (1, AObj.arr 9 Ty.str 0 false [[120], [121]])])
        else 
          bif !numOk t1 0 then some (AEnd.ret [(AV.d Ty.str []).pr ((I 0).pr (AV.nils.pr (AV.d Ty.unit PUnit.unit))), I 5], [(0, AObj.arr 25 ((i64T).pair ((i64T).slice.pair ((i64T).slice.pair Ty.unit))) 0 false [(t1, [a, b], x, PUnit.unit), (t2, [c, d], y, PUnit.unit)]), (1, AObj.arr 9 Ty.str 0 false [[120], [121]])])
          else 
            bif countE [a, b] != 0 then some (AEnd.ret [(AV.d Ty.str []).pr ((I 0).pr (AV.nils.pr (AV.d Ty.unit PUnit.unit))), I (countE [a, b])], [(0, AObj.arr 25 ((i64T).pair ((i64T).slice.pair ((i64T).slice.pair Ty.unit))) 0 false [(t1, [a, b], x, PUnit.unit), (t2, [c, d], y, PUnit.unit)]), (1, AObj.arr 9 Ty.str 0 false [[120], [121]])])
            else 
              bif !numOk t2 0 then some (AEnd.ret [(AV.d Ty.str []).pr ((I 0).pr (AV.nils.pr (AV.d Ty.unit PUnit.unit))), I 5], [(0, AObj.arr 25 ((i64T).pair ((i64T).slice.pair ((i64T).slice.pair Ty.unit))) 0 false [(t1, [a, b], x, PUnit.unit), (t2, [c, d], y, PUnit.unit)]), (1, AObj.arr 9 Ty.str 0 false [[120], [121]])])
              else 
                bif countE [c, d] != 0 then some (AEnd.ret [(AV.d Ty.str []).pr ((I 0).pr (AV.nils.pr (AV.d Ty.unit PUnit.unit))), I (countE [c, d])], [(0, AObj.arr 25 ((i64T).pair ((i64T).slice.pair ((i64T).slice.pair Ty.unit))) 0 false [(t1, [a, b], x, PUnit.unit), (t2, [c, d], y, PUnit.unit)]), (1, AObj.arr 9 Ty.str 0 false [[120], [121]])])
                else 
                  bif t1 == 6 then 
                    bif t1 != 1 then some (AEnd.ret [(AV.d Ty.str []).pr ((I 0).pr (AV.nils.pr (AV.d Ty.unit PUnit.unit))), I 4], [(0, AObj.arr 25 ((i64T).pair ((i64T).slice.pair ((i64T).slice.pair Ty.unit))) 0 false [(t1, [a, b], x, PUnit.unit), (t2, [c, d], y, PUnit.unit)]), (1, AObj.arr 9 Ty.str 0 false [[120], [121]])])
                    else 
                      bif t2 != 1 then some (AEnd.ret [(AV.d Ty.str []).pr ((I 0).pr (AV.nils.pr (AV.d Ty.unit PUnit.unit))), I 4], [(0, AObj.arr 25 ((i64T).pair ((i64T).slice.pair ((i64T).slice.pair Ty.unit))) 0 false [(t1, [a, b], x, PUnit.unit), (t2, [c, d], y, PUnit.unit)]), (1, AObj.arr 9 Ty.str 0 false [[120], [121]])])
                      else 
                        bif !b == c then some (AEnd.ret [(AV.d Ty.str []).pr ((I 0).pr (AV.nils.pr (AV.d Ty.unit PUnit.unit))), I 4], [(0, AObj.arr 25 ((i64T).pair ((i64T).slice.pair ((i64T).slice.pair Ty.unit))) 0 false [(t1, [a, b], x, PUnit.unit), (t2, [c, d], y, PUnit.unit)]), (1, AObj.arr 9 Ty.str 0 false [[120], [121]])])
                        else 
                          bif countE [a, d] != 0 then some (AEnd.ret [(AV.d Ty.str []).pr ((I 0).pr (AV.nils.pr (AV.d Ty.unit PUnit.unit))), I (countE [a, d])], [(0, AObj.arr 25 ((i64T).pair ((i64T).slice.pair ((i64T).slice.pair Ty.unit))) 0 false [(t1, [a, b], x, PUnit.unit), (t2, [c, d], y, PUnit.unit)]), (1, AObj.arr 9 Ty.str 0 false [[120], [121]])])
                          else some (AEnd.ret [(AV.d Ty.str [122]).pr ((I t1).pr ((AV.os 2 0).pr (AV.d Ty.unit PUnit.unit))), I 0], [(0, AObj.arr 25 ((i64T).pair ((i64T).slice.pair ((i64T).slice.pair Ty.unit))) 0 false [(t1, [a, b], x, PUnit.unit), (t2, [c, d], y, PUnit.unit)]), (1, AObj.arr 9 Ty.str 0 false [[120], [121]]), (2, AObj.arr 3 (i64T) 0 false [a, d])])
                  else 
                    bif t1 != 1 then some (AEnd.ret [(AV.d Ty.str []).pr ((I 0).pr (AV.nils.pr (AV.d Ty.unit PUnit.unit))), I 4], [(0, AObj.arr 25 ((i64T).pair ((i64T).slice.pair ((i64T).slice.pair Ty.unit))) 0 false [(t1, [a, b], x, PUnit.unit), (t2, [c, d], y, PUnit.unit)]), (1, AObj.arr 9 Ty.str 0 false [[120], [121]])])
                    else 
                      bif t2 != 1 then some (AEnd.ret [(AV.d Ty.str []).pr ((I 0).pr (AV.nils.pr (AV.d Ty.unit PUnit.unit))), I 4], [(0, AObj.arr 25 ((i64T).pair ((i64T).slice.pair ((i64T).slice.pair Ty.unit))) 0 false [(t1, [a, b], x, PUnit.unit), (t2, [c, d], y, PUnit.unit)]), (1, AObj.arr 9 Ty.str 0 false [[120], [121]])])
                      else 
                        bif !b == c then some (AEnd.ret [(AV.d Ty.str []).pr ((I 0).pr (AV.nils.pr (AV.d Ty.unit PUnit.unit))), I 4], [(0, AObj.arr 25 ((i64T).pair ((i64T).slice.pair ((i64T).slice.pair Ty.unit))) 0 false [(t1, [a, b], x, PUnit.unit), (t2, [c, d], y, PUnit.unit)]), (1, AObj.arr 9 Ty.str 0 false [[120], [121]])])
                        else 
                          bif countE [a, d] != 0 then some (AEnd.ret [(AV.d Ty.str []).pr ((I 0).pr (AV.nils.pr (AV.d Ty.unit PUnit.unit))), I (countE [a, d])], [(0, AObj.arr 25 ((i64T).pair ((i64T).slice.pair ((i64T).slice.pair Ty.unit))) 0 false [(t1, [a, b], x, PUnit.unit), (t2, [c, d], y, PUnit.unit)]), (1, AObj.arr 9 Ty.str 0 false [[120], [121]])])
                          else some (AEnd.ret [(AV.d Ty.str [122]).pr ((I t1).pr ((AV.os 2 0).pr (AV.d Ty.unit PUnit.unit))), I 0], [(0, AObj.arr 25 ((i64T).pair ((i64T).slice.pair ((i64T).slice.pair Ty.unit))) 0 false [(t1, [a, b], x, PUnit.unit), (t2, [c, d], y, PUnit.unit)]), (1, AObj.arr 9 Ty.str 0 false [[120], [121]]), (2, AObj.arr 3 (i64T) 0 false [a, d])])
      else none
  else none := by kernel_rfl
theorem bgg_eq (t1 a b t2 c d : Int) (x y : List Int) : runC g179 Tryz.f39 6 [(3, [2, 4, 6, 9, 10, 11])] [nodeA strGM [] [122] (.os 1 0) .nils, .os 0 0] (hpL false t1 [a, b] x t2 [c, d] y) ah =
  bif decide (2 ≤ 9223372036854775807 ∧ x.length ≤ 9223372036854775807) then 
    bif tenE t1 [a, b] x != 0 then some (AEnd.ret [(AV.d Ty.str []).pr ((I 0).pr (AV.nils.pr (AV.d Ty.unit PUnit.unit))), I 1], [(0, AObj.arr 25 ((i64T).pair ((i64T).slice.pair ((i64T).slice.pair Ty.unit))) 0 false [(t1, [a, b], x, PUnit.unit), (t2, [c, d], y, PUnit.unit)]), (1, AObj.arr 9 Ty.str 0 false [[120], [121]])])
    else 
      bif decide (2 ≤ 9223372036854775807 ∧ y.length ≤ 9223372036854775807) then 
        bif tenE t2 [c, d] y != 0 then some (AEnd.ret [(AV.d Ty.str []).pr ((I 0).pr (AV.nils.pr (AV.d Ty.unit PUnit.unit))), I 1], [(0, AObj.arr 25 ((i64T).pair ((i64T).slice.pair ((i64T).slice.pair Ty.unit))) 0 false [(t1, [a, b], x, PUnit.unit), (t2, [c, d], y, PUnit.unit)]), (1, AObj.arr 9 Ty.str 0 false [[120], [121]])])
        else 
          bif !numOk t1 0 then some (AEnd.ret [(AV.d Ty.str []).pr ((I 0).pr (AV.nils.pr (AV.d Ty.unit PUnit.unit))), I 5], [(0, AObj.arr 25 ((i64T).pair ((i64T).slice.pair ((i64T).slice.pair Ty.unit))) 0 false [(t1, [a, b], x, PUnit.unit), (t2, [c, d], y, PUnit.unit)]), (1, AObj.arr 9 Ty.str 0 false [[120], [121]])])
          else 
            bif countE [a, b] != 0 then some (AEnd.ret [(AV.d Ty.str []).pr ((I 0).pr (AV.nils.pr (AV.d Ty.unit PUnit.unit))), I (countE [a, b])], [(0, AObj.arr 25 ((i64T).pair ((i64T).slice.pair ((i64T).slice.pair Ty.unit))) 0 false [(t1, [a, b], x, PUnit.unit), (t2, [c, d], y, PUnit.unit)]), (1, AObj.arr 9 Ty.str 0 false [[120], [121]])])
            else 
              bif !numOk t2 0 then some (AEnd.ret [(AV.d Ty.str []).pr ((I 0).pr (AV.nils.pr (AV.d Ty.unit PUnit.unit))), I 5], [(0, AObj.arr 25 ((i64T).pair ((i64T).slice.pair ((i64T).slice.pair Ty.unit))) 0 false [(t1, [a, b], x, PUnit.unit), (t2, [c, d], y, PUnit.unit)]), (1, AObj.arr 9 Ty.str 0 false [[120], [121]])])
              else 
                bif countE [c, d] != 0 then some (AEnd.ret [(AV.d Ty.str []).pr ((I 0).pr (AV.nils.pr (AV.d Ty.unit PUnit.unit))), I (countE [c, d])], [(0, AObj.arr 25 ((i64T).pair ((i64T).slice.pair ((i64T).slice.pair Ty.unit))) 0 false [(t1, [a, b], x, PUnit.unit), (t2, [c, d], y, PUnit.unit)]), (1, AObj.arr 9 Ty.str 0 false [[120], [121]])])
                else 
                  bif t1 == 6 then 
                    bif t1 != 1 then some (AEnd.ret [(AV.d Ty.str []).pr ((I 0).pr (AV.nils.pr (AV.d Ty.unit PUnit.unit))), I 4], [(0, AObj.arr 25 ((i64T).pair ((i64T).slice.pair ((i64T).slice.pair Ty.unit))) 0 false [(t1, [a, b], x, PUnit.unit), (t2, [c, d], y, PUnit.unit)]), (1, AObj.arr 9 Ty.str 0 false [[120], [121]])])
                    else 
                      bif t2 != 1 then some (AEnd.ret [(AV.d Ty.str []).pr ((I 0).pr (AV.nils.pr (AV.d Ty.unit PUnit.unit))), I 4], [(0, AObj.arr 25 ((i64T).pair ((i64T).slice.pair ((i64T).slice.pair Ty.unit))) 0 false [(t1, [a, b], x, PUnit.unit), (t2, [c, d], y, PUnit.unit)]), (1, AObj.arr 9 Ty.str 0 false [[120], [121]])])
                      else 
                        bif !b == c then some (AEnd.ret [(AV.d Ty.str []).pr ((I 0).pr (AV.nils.pr (AV.d Ty.unit PUnit.unit))), I 4], [(0, AObj.arr 25 ((i64T).pair ((i64T).slice.pair ((i64T).slice.pair Ty.unit))) 0 false [(t1, [a, b], x, PUnit.unit), (t2, [c, d], y, PUnit.unit)]), (1, AObj.arr 9 Ty.str 0 false [[120], [121]])])
                        else 
                          bif countE [a, d] != 0 then some (AEnd.ret [(AV.d Ty.str []).pr ((I 0).pr (AV.nils.pr (AV.d Ty.unit PUnit.unit))), I (countE [a, d])], [(0, AObj.arr 25 ((i64T).pair ((i64T).slice.pair ((i64T).slice.pair Ty.unit))) 0 false [(t1, [a, b], x, PUnit.unit), (t2, [c, d], y, PUnit.unit)]), (1, AObj.arr 9 Ty.str 0 false [[120], [121]])])
                          else some (AEnd.ret [(AV.d Ty.str [122]).pr ((I t1).pr ((AV.os 2 0).pr (AV.d Ty.unit PUnit.unit))), I 0], [(0, AObj.arr 25 ((i64T).pair ((i64T).slice.pair ((i64T).slice.pair Ty.unit))) 0 false [(t1, [a, b], x, PUnit.unit), (t2, [c, d], y, PUnit.unit)]), (1, AObj.arr 9 Ty.str 0 false [[120], [121]]), (2, AObj.arr 3 (i64T) 0 false [a, d])])
                  else 
                    bif t1 != 1 then some (AEnd.ret [(AV.d Ty.str []).pr ((I 0).pr (AV.nils.pr (AV.d Ty.unit PUnit.unit))), I 4], [(0, AObj.arr 25 ((i64T).pair ((i64T).slice.pair ((i64T).slice.pair Ty.unit))) 0 false [(t1, [a, b], x, PUnit.unit), (t2, [c, d], y, PUnit.unit)]), (1, AObj.arr 9 Ty.str 0 false [[120], [121]])])
                    else 
                      bif t2 != 1 then some (AEnd.ret [(AV.d Ty.str []).pr ((I 0).pr (AV.nils.pr (AV.d Ty.unit PUnit.unit))), I 4], [(0, AObj.arr 25 ((i64T).pair ((i64T).slice.pair ((i64T).slice.pair Ty.unit))) 0 false [(t1, [a, b], x, PUnit.unit), (t2, [c, d], y, PUnit.unit)]), (1, AObj.arr 9 Ty.str 0 false [[120], [121]])])
                      else 
                        bif !b == c then some (AEnd.ret [(AV.d Ty.str []).pr ((I 0).pr (AV.nils.pr (AV.d Ty.unit PUnit.unit))), I 4], [(0, AObj.arr 25 ((i64T).pair ((i64T).slice.pair ((i64T).slice.pair Ty.unit))) 0 false [(t1, [a, b], x, PUnit.unit), (t2, [c, d], y, PUnit.unit)]), (1, AObj.arr 9 Ty.str 0 false [[120], [121]])])
                        else 
                          bif countE [a, d] != 0 then some (AEnd.ret [(AV.d Ty.str []).pr ((I 0).pr (AV.nils.pr (AV.d Ty.unit PUnit.unit))), I (countE [a, d])], [(0, AObj.arr 25 ((i64T).pair ((i64T).slice.pair ((i64T).slice.pair Ty.unit))) 0 false [(t1, [a, b], x, PUnit.unit), (t2, [c, d], y, PUnit.unit)]), (1, AObj.arr 9 Ty.str 0 false [[120], [121]])])
                          else some (AEnd.ret [(AV.d Ty.str [122]).pr ((I t1).pr ((AV.os 2 0).pr (AV.d Ty.unit PUnit.unit))), I 0], [(0, AObj.arr 25 ((i64T).pair ((i64T).slice.pair ((i64T).slice.pair Ty.unit))) 0 false [(t1, [a, b], x, PUnit.unit), (t2, [c, d], y, PUnit.unit)]), (1, AObj.arr 9 Ty.str 0 false [[120], [121]]), (2, AObj.arr 3 (i64T) 0 false [a, d])])
      else none
  else none := by kernel_rfl
/-- the error with which a product of two matrices begins -/
def bgnE (t1 a b : Int) (x : List Int) (t2 c d : Int) (y : List Int) : Int := bif tenE t1 [a, b] x != 0 then 1 else bif tenE t2 [c, d] y != 0 then 1 else bif t1 != 1 then 4 else bif t2 != 1 then 4 else bif !b == c then 4 else countE [a, d]
def zeroV : AV := (AV.d Ty.str []).pr ((I 0).pr (AV.nils.pr (AV.d Ty.unit PUnit.unit)))
def bgnR (t1 a b : Int) (x : List Int) (t2 c d : Int) (y : List Int) : Option (AEnd × LHp) := bif bgnE t1 a b x t2 c d y != 0 then some (.ret [zeroV, I (bgnE t1 a b x t2 c d y)], hpL false t1 [a, b] x t2 [c, d] y) else some (.ret [(AV.d Ty.str [122]).pr ((I t1).pr ((AV.os 2 0).pr (AV.d Ty.unit PUnit.unit))), I 0], hpL false t1 [a, b] x t2 [c, d] y ++ [(2, .arr 3 i64T 0 false [a, d])])
theorem bgm_run {t1 a b t2 c d : Int} {x y : List Int} (h1 : x.length ≤ maxLen) (h2 : y.length ≤ maxLen) : runC g179 Tryz.f39 6 [(3, [2, 4, 6, 9, 10, 11])] [nodeA strMM [] [122] (.os 1 0) .nils, .os 0 0] (hpL false t1 [a, b] x t2 [c, d] y) ah = bgnR t1 a b x t2 c d y := by
  rw [bgm_eq, decide_eq_true (show 2 ≤ 9223372036854775807 ∧ x.length ≤ 9223372036854775807 from ⟨by decide, h1⟩), decide_eq_true (show 2 ≤ 9223372036854775807 ∧ y.length ≤ 9223372036854775807 from ⟨by decide, h2⟩)]
  unfold bgnR bgnE
  cases e1 : tenE t1 [a, b] x != 0 with
  | true => rfl
  | false =>
    cases e2 : tenE t2 [c, d] y != 0 with
    | true => rfl
    | false =>
      obtain ⟨n1, n2, _⟩ := ten_ok (show tenE t1 [a, b] x = 0 by simpa using e1)
      obtain ⟨m1, m2, _⟩ := ten_ok (show tenE t2 [c, d] y = 0 by simpa using e2)
      rw [n1, n2, m1, m2]
      cases t1 == 6 <;> cases t1 != 1 <;> cases t2 != 1 <;> cases !b == c <;> first | rfl | (cases h : countE [a, d] != 0 <;> simp only [cond_true, cond_false, Bool.not_true, bne_self_eq_false, h] <;> rfl)
theorem bgg_run {t1 a b t2 c d : Int} {x y : List Int} (h1 : x.length ≤ maxLen) (h2 : y.length ≤ maxLen) : runC g179 Tryz.f39 6 [(3, [2, 4, 6, 9, 10, 11])] [nodeA strGM [] [122] (.os 1 0) .nils, .os 0 0] (hpL false t1 [a, b] x t2 [c, d] y) ah = bgnR t1 a b x t2 c d y := by
  rw [bgg_eq, decide_eq_true (show 2 ≤ 9223372036854775807 ∧ x.length ≤ 9223372036854775807 from ⟨by decide, h1⟩), decide_eq_true (show 2 ≤ 9223372036854775807 ∧ y.length ≤ 9223372036854775807 from ⟨by decide, h2⟩)]
  unfold bgnR bgnE
  cases e1 : tenE t1 [a, b] x != 0 with
  | true => rfl
  | false =>
    cases e2 : tenE t2 [c, d] y != 0 with
    | true => rfl
    | false =>
      obtain ⟨n1, n2, _⟩ := ten_ok (show tenE t1 [a, b] x = 0 by simpa using e1)
      obtain ⟨m1, m2, _⟩ := ten_ok (show tenE t2 [c, d] y = 0 by simpa using e2)
      rw [n1, n2, m1, m2]
      cases t1 == 6 <;> cases t1 != 1 <;> cases t2 != 1 <;> cases !b == c <;> first | rfl | (cases h : countE [a, d] != 0 <;> simp only [cond_true, cond_false, Bool.not_true, bne_self_eq_false, h] <;> rfl)
def bgnT : List AV → LHp → Tq
  | [n, .os 0 0], [(0, .arr 25 ((.pair (.int .i64) (.pair (.slice (.int .i64)) (.pair (.slice (.int .i64)) .unit)))) 0 false [(t1, [a, b], x, ()), (t2, [c, d], y, ())]), (1, .arr 9 .str 0 false ins)] =>
    (match nodeP n with
    | some (op, nm, out, .os 1 0, .nils) => gate ((decide (op = strMM) || decide (op = strGM)) && decide (nm = []) && decide (out = [122]) && decide (ins = [[120], [121]]))
        (.br (decide (x.length ≤ maxLen ∧ y.length ≤ maxLen)) (.br (bgnE t1 a b x t2 c d y != 0) (.leaf (.ret [zeroV, I (bgnE t1 a b x t2 c d y)]) (hpL false t1 [a, b] x t2 [c, d] y)) (.leaf (.ret [(AV.d Ty.str [122]).pr ((I t1).pr ((AV.os 2 0).pr (AV.d Ty.unit PUnit.unit))), I 0]) (hpL false t1 [a, b] x t2 [c, d] y ++ [(2, .arr 3 i64T 0 false [a, d])]))) .no)
    | _ => .no)
  | _, _ => .no
theorem bgnT_ok : FnE.OK e0.P e0.gam 39 (treeE bgnT) := by
  have h1 : FnE.OK e0.P e0.gam 39 (execFnC g179 Tryz.f39 6 [(3, [2, 4, 6, 9, 10, 11])]) := y39_ok
  refine ⟨fun _ _ _ => Tq.eq _ _, fun args hs ae hs' h => ?_⟩
  have h' : (bgnT args hs).run ah = some (ae, hs') := h
  clear h
  unfold bgnT at h'
  split at h'
  · split at h'
    · rename_i hn
      rw [nodeP_some hn]
      obtain ⟨hb, h2⟩ := gate_run h'
      clear h'
      simp only [Bool.and_eq_true, Bool.or_eq_true, decide_eq_true_eq] at hb
      obtain ⟨⟨⟨b1, b2⟩, b3⟩, b4⟩ := hb
      subst b2 b3 b4
      obtain ⟨hl, h3⟩ := Tq.br_no h2
      obtain ⟨l1, l2⟩ := of_decide_eq_true hl
      rcases b1 with b1 | b1
      · subst b1
        exact h1.okC ((bgm_run l1 l2).trans h3)
      · subst b1
        exact h1.okC ((bgg_run l1 l2).trans h3)
    · cases h'
  · cases h'
end Go.Proofs.XGT
/- linear.matmul of two matrices: run. -/
namespace Go.Proofs.XGT
open Go.Vm Go
set_option maxRecDepth 100000
set_option maxHeartbeats 4000000
noncomputable def C_mml : Code := codeOf Tryz.f40
noncomputable def cf_mml : Cfg := ⟨50, 6, 2, [(6, [8, 9, 10, 32, 33])], true⟩
noncomputable def gMm : Env := (g192.add 68 (treeE mcsT1)).add 70 (treeE prdT)
theorem gMm_good : gMm.Good := (g192_good.add mcsT1_ok).add prdT_ok
def hpMm (z : Bool) (t1 : Int) (d1 x1 : List Int) (t2 : Int) (d2 x2 : List Int) (d3 : List Int) : LHp := [(0, .arr 3 i64T 0 z d3), (1, .arr 25 (Y0) 0 z [(t1, d1, x1, ()), (t2, d2, x2, ())])]
theorem mml_eq (t1 a b t2 c d e f : Int) (x y : List Int) : runC gMm Tryz.f40 6 [(6, [8, 9, 10, 32, 33])] [.os 1 0, .os 0 0] (hpMm false t1 [a, b] x t2 [c, d] y [e, f]) ah =
  bif decide (1 ≤ a ∧ 1 ≤ b ∧ a * b ≤ 65536 ∧ Int.ofNat x.length = a * b) then 
    bif decide (1 ≤ c ∧ 1 ≤ d ∧ c * d ≤ 65536 ∧ Int.ofNat y.length = c * d) then 
      bif prdOk a b c d x y then 
        bif decide (IntKind.i64.wrap (Int.ofNat (0 + (prodL a.toNat b.toNat d.toNat x y).length)) < 0) then none
        else 
          bif decide (IntKind.i64.wrap (Int.ofNat (0 + (prodL a.toNat b.toNat d.toNat x y).length)) < 0) then none
          else 
            bif decide (IntKind.i64.wrap (IntKind.i64.wrap (Int.ofNat (0 + (prodL a.toNat b.toNat d.toNat x y).length)) - 0) > 0) then 
              bif decide (0 < IntKind.i64.wrap (IntKind.i64.wrap (Int.ofNat (0 + (prodL a.toNat b.toNat d.toNat x y).length)) - 0)) && decide (IntKind.i64.wrap (IntKind.i64.wrap (Int.ofNat (0 + (prodL a.toNat b.toNat d.toNat x y).length)) - 0) ≤ 4294967296) then (app [] (prodL a.toNat b.toNat d.toNat x y)).bind fun v7 =>
                  some (AEnd.ret [AV.os 2 0], [(0, AObj.arr 3 (i64T) 0 true [e, f]), (1, AObj.arr 25 ((i64T).pair ((i64T).slice.pair ((i64T).slice.pair Ty.unit))) 0 false [(t1, [a, b], x, PUnit.unit), (t2, [c, d], y, PUnit.unit)]), (2, AObj.arr 2 (i64T) 0 false v7)])
              else none
            else (app [] (prodL a.toNat b.toNat d.toNat x y)).bind fun v6 =>
                some (AEnd.ret [AV.os 2 0], [(0, AObj.arr 3 (i64T) 0 true [e, f]), (1, AObj.arr 25 ((i64T).pair ((i64T).slice.pair ((i64T).slice.pair Ty.unit))) 0 false [(t1, [a, b], x, PUnit.unit), (t2, [c, d], y, PUnit.unit)]), (2, AObj.arr 2 (i64T) 0 false v6)])
      else none
    else none
  else none := by kernel_rfl
def mmOk (a b c d : Int) (x y : List Int) : Bool := decide ((1 ≤ a ∧ 1 ≤ b ∧ a * b ≤ 65536 ∧ (x.length : Int) = a * b) ∧ (1 ≤ c ∧ 1 ≤ d ∧ c * d ≤ 65536 ∧ (y.length : Int) = c * d) ∧ c = b ∧ a * d ≤ 65536)
theorem mmOk_prd {a b c d : Int} {x y : List Int} (h : mmOk a b c d x y = true) : prdOk a b c d x y = true := by
  obtain ⟨⟨a1, a2, a3, a4⟩, ⟨b1, b2, b3, b4⟩, c1, c2⟩ := of_decide_eq_true h
  subst c1
  unfold prdOk
  apply decide_eq_true
  obtain ⟨m, rfl⟩ := Int.eq_ofNat_of_zero_le (show 0 ≤ a by omega)
  obtain ⟨k, rfl⟩ := Int.eq_ofNat_of_zero_le (show 0 ≤ c by omega)
  obtain ⟨n, rfl⟩ := Int.eq_ofNat_of_zero_le (show 0 ≤ d by omega)
  rw [← Int.natCast_mul] at a3 a4 b3 b4 c2
  simp only [Int.toNat_natCast]
  have hk : k ≤ m * k := Nat.le_mul_of_pos_left _ (by omega)
  exact ⟨⟨by omega, by omega, trivial, by omega⟩, by omega, by omega, by omega, by omega, by omega, by omega⟩
theorem prodL_length {M K C : Nat} {a b : List Int} : (prodL M K C a b).length = M * C := mT_length _ _ _ _ _ _ _
theorem mml_run {t1 a b t2 c d e f : Int} {x y : List Int} (h : mmOk a b c d x y = true) : runC gMm Tryz.f40 6 [(6, [8, 9, 10, 32, 33])] [.os 1 0, .os 0 0] (hpMm false t1 [a, b] x t2 [c, d] y [e, f]) ah = some (.ret [.os 2 0], [(0, .arr 3 i64T 0 true [e, f]), (1, .arr 25 (Y0) 0 false [(t1, [a, b], x, ()), (t2, [c, d], y, ())]), (2, .arr 2 i64T 0 false (prodL a.toNat b.toNat d.toNat x y))]) := by
  have hp := mmOk_prd h
  obtain ⟨hA, hB, c1, c2⟩ := of_decide_eq_true h
  have hlen : (prodL a.toNat b.toNat d.toNat x y).length ≤ 65536 := by
    obtain ⟨_, _, h3, _⟩ := of_decide_eq_true hp
    rw [prodL_length]
    exact h3
  rw [mml_eq]
  generalize prodL a.toNat b.toNat d.toNat x y = L at *
  have w1 : IntKind.i64.wrap (Int.ofNat (0 + L.length)) = (L.length : Int) := by
    rw [Nat.zero_add]
    exact wrap64 (by simp only [Int.ofNat_eq_natCast]; omega) (by simp only [Int.ofNat_eq_natCast]; omega)
  have w2 : IntKind.i64.wrap ((L.length : Int) - 0) = (L.length : Int) := by
    rw [Int.sub_zero]
    exact wrap64 (by omega) (by omega)
  have ha : app ([] : List Int) L = some L := by
    unfold app
    rw [if_pos (by unfold lim; simp; omega)]
    rfl
  rw [decide_eq_true (show 1 ≤ a ∧ 1 ≤ b ∧ a * b ≤ 65536 ∧ Int.ofNat x.length = a * b from hA), decide_eq_true (show 1 ≤ c ∧ 1 ≤ d ∧ c * d ≤ 65536 ∧ Int.ofNat y.length = c * d from hB), hp, w1, w2, decide_eq_false (show ¬ ((L.length : Int) < 0) by omega), ha]
  simp only [cond_true, cond_false, Option.bind_some]
  by_cases h0 : (L.length : Int) > 0
  · rw [decide_eq_true h0, decide_eq_true (show (L.length : Int) ≤ 4294967296 by omega)]
    rfl
  · rw [decide_eq_false h0]
    rfl
def mmlT : List AV → LHp → Tq
  | [.os 1 0, .os 0 0], [(0, .arr 3 (.int .i64) 0 false [e, f]), (1, .arr 25 ((.pair (.int .i64) (.pair (.slice (.int .i64)) (.pair (.slice (.int .i64)) .unit)))) 0 false [(t1, [a, b], x, ()), (t2, [c, d], y, ())])] =>
    .br (mmOk a b c d x y) (.leaf (.ret [.os 2 0]) [(0, .arr 3 i64T 0 true [e, f]), (1, .arr 25 (Y0) 0 false [(t1, [a, b], x, ()), (t2, [c, d], y, ())]), (2, .arr 2 i64T 0 false (prodL a.toNat b.toNat d.toNat x y))]) .no
  | _, _ => .no
theorem mmlT_ok : FnE.OK e0.P e0.gam 40 (treeE mmlT) := by
  have h1 : FnE.OK e0.P e0.gam 40 (execFnC gMm Tryz.f40 6 [(6, [8, 9, 10, 32, 33])]) := execFnC_ok gMm_good hmix Tryz.func40 Tryz.call40 (by decide +kernel) rfl
  refine ⟨fun _ _ _ => Tq.eq _ _, fun args hs ae hs' h => ?_⟩
  have h' : (mmlT args hs).run ah = some (ae, hs') := h
  clear h
  unfold mmlT at h'
  split at h'
  · obtain ⟨hb, h2⟩ := Tq.br_no h'
    cases h2
    exact h1.okC (mml_run hb)
  · cases h'
end Go.Proofs.XGT
/- linear.gemm of two matrices: its loop's steps. -/
namespace Go.Proofs.XGT
open Go.Vm Go
set_option maxRecDepth 100000
set_option maxHeartbeats 4000000
noncomputable def C_gmm : Code := codeOf Tryz.f41
noncomputable def cf_gmm : Cfg := ⟨78, 7, 3, [(6, [1, 2, 9, 10, 11, 37, 38]), (12, [9, 11, 58, 59, 60])], true⟩
noncomputable def gGm : Env := (g202.add 70 (normE (treeE prdT))).add 73 (fnE ltwF)
theorem gGm_good : gGm.Good := (g202_good.add (normE_ok prdT_ok)).add ltwE_ok
def hpGm (t1 : Int) (d1 x1 : List Int) (t2 : Int) (d2 x2 : List Int) (d3 : List Int) : LHp := [(0, .arr 3 i64T 0 false d3), (1, .arr 25 (Y0) 0 false [(t1, d1, x1, ()), (t2, d2, x2, ())]), (2, .arr 9 .str 0 false [[120], [121]])]
theorem gmm_eqH (hl : Hl) (t1 a b t2 c d e f : Int) (x y : List Int) : runH gGm Tryz.f41 7 [(6, [1, 2, 9, 10, 11, 37, 38]), (12, [9, 11, 58, 59, 60])] [6] hl [nodeA strGM [] [122] (.os 2 0) .nils, .os 1 0, .os 0 0] (hpGm t1 [a, b] x t2 [c, d] y [e, f]) ah =
  bif prdOk a b c d x y then hl (cL (cL (cR (cL (cR (cR (cR (cR (cR C_gmm))))))))) _ { fr := mkFr 7 [(1, AV.os 1 0), (2, AV.os 0 0), (9, AV.os 3 0), (10, I 1065353216), (11, I 1065353216), (37, I (Int.ofNat (prodL a.toNat b.toNat d.toNat x y).length)), (38, I 0)], hp := [(0, AObj.arr 3 (i64T) 0 false [e, f]), (1, AObj.arr 25 ((i64T).pair ((i64T).slice.pair ((i64T).slice.pair Ty.unit))) 0 false [(t1, [a, b], x, PUnit.unit), (t2, [c, d], y, PUnit.unit)]), (2, AObj.arr 9 Ty.str 0 false [[120], [121]]), (3, AObj.arr 2 (i64T) 0 false (prodL a.toNat b.toNat d.toNat x y))], nx := 7 } (blkK 0 (seqH gGm cf_gmm [6] hl (cR (cR (cR (cR (cR (cR C_gmm)))))) (endC Tryz.prog 3 Tryz.f41.results.toList ah)))
  else none := by kernel_rfl
theorem gmm_eq (t1 a b t2 c d e f : Int) (x y : List Int) : runC gGm Tryz.f41 7 [(6, [1, 2, 9, 10, 11, 37, 38]), (12, [9, 11, 58, 59, 60])] [nodeA strGM [] [122] (.os 2 0) .nils, .os 1 0, .os 0 0] (hpGm t1 [a, b] x t2 [c, d] y [e, f]) ah =
  bif prdOk a b c d x y then (hlp gGm cf_gmm) (cL (cL (cR (cL (cR (cR (cR (cR (cR C_gmm))))))))) _ { fr := mkFr 7 [(1, AV.os 1 0), (2, AV.os 0 0), (9, AV.os 3 0), (10, I 1065353216), (11, I 1065353216), (37, I (Int.ofNat (prodL a.toNat b.toNat d.toNat x y).length)), (38, I 0)], hp := [(0, AObj.arr 3 (i64T) 0 false [e, f]), (1, AObj.arr 25 ((i64T).pair ((i64T).slice.pair ((i64T).slice.pair Ty.unit))) 0 false [(t1, [a, b], x, PUnit.unit), (t2, [c, d], y, PUnit.unit)]), (2, AObj.arr 9 Ty.str 0 false [[120], [121]]), (3, AObj.arr 2 (i64T) 0 false (prodL a.toNat b.toNat d.toNat x y))], nx := 7 } (blkK 0 (seqH gGm cf_gmm [6] (hlp gGm cf_gmm) (cR (cR (cR (cR (cR (cR C_gmm)))))) (endC Tryz.prog 3 Tryz.f41.results.toList ah)))
  else none := runH_runC.trans (gmm_eqH (hlp gGm cf_gmm) t1 a b t2 c d e f x y)
def stGm (t1 a b t2 c d e f : Int) (x y : List Int) (n i : Int) (L : List Int) : LSt := { fr := mkFr 7 [(1, AV.os 1 0), (2, AV.os 0 0), (9, AV.os 3 0), (10, I 1065353216), (11, I 1065353216), (37, I n), (38, I i)], hp := hpGm t1 [a, b] x t2 [c, d] y [e, f] ++ [(3, AObj.arr 2 (i64T) 0 false L)], nx := 7 }
theorem gmm_stH (hl : Hl) (t1 a b t2 c d e f : Int) (x y : List Int) (m i : Int) (L : List Int) (n : Nat) {R : Type} (k : AEx → LSt → Option R) : lpH gGm cf_gmm [6] hl (cL (cL (cR (cL (cR (cR (cR (cR (cR C_gmm))))))))) (n + 1) (stGm t1 a b t2 c d e f x y m i L) k =
  bif decide (i < m) then (idx L i).bind fun v1 =>
      (L[i.toNat]?).bind fun v2 =>
        (idx L i).bind fun v3 =>
          (setN L i.toNat (binW BinOp.mul 1065353216 v2)).bind fun v4 =>
            lpH gGm cf_gmm [6] hl (cL (cL (cR (cL (cR (cR (cR (cR (cR C_gmm))))))))) n { fr := mkFr 7 [(1, AV.os 1 0), (2, AV.os 0 0), (9, AV.os 3 0), (10, I 1065353216), (11, I 1065353216), (37, I m), (38, I (IntKind.i64.wrap (i + 1)))], hp := [(0, AObj.arr 3 (i64T) 0 false [e, f]), (1, AObj.arr 25 ((i64T).pair ((i64T).slice.pair ((i64T).slice.pair Ty.unit))) 0 false [(t1, [a, b], x, PUnit.unit), (t2, [c, d], y, PUnit.unit)]), (2, AObj.arr 9 Ty.str 0 false [[120], [121]]), (3, AObj.arr 2 (i64T) 0 false v4)], nx := 7 } k
  else k (AEx.exit 0) { fr := mkFr 7 [(1, AV.os 1 0), (2, AV.os 0 0), (9, AV.os 3 0), (10, I 1065353216), (11, I 1065353216), (37, I m), (38, I i), (39, B false)], hp := [(0, AObj.arr 3 (i64T) 0 false [e, f]), (1, AObj.arr 25 ((i64T).pair ((i64T).slice.pair ((i64T).slice.pair Ty.unit))) 0 false [(t1, [a, b], x, PUnit.unit), (t2, [c, d], y, PUnit.unit)]), (2, AObj.arr 9 Ty.str 0 false [[120], [121]]), (3, AObj.arr 2 (i64T) 0 false L)], nx := 7 } := by kernel_rfl
theorem gmm_st (t1 a b t2 c d e f : Int) (x y : List Int) (m i : Int) (L : List Int) (n : Nat) {R : Type} (k : AEx → LSt → Option R) : lp gGm cf_gmm (cL (cL (cR (cL (cR (cR (cR (cR (cR C_gmm))))))))) (n + 1) (stGm t1 a b t2 c d e f x y m i L) k =
  bif decide (i < m) then (idx L i).bind fun v1 =>
      (L[i.toNat]?).bind fun v2 =>
        (idx L i).bind fun v3 =>
          (setN L i.toNat (binW BinOp.mul 1065353216 v2)).bind fun v4 =>
            lp gGm cf_gmm (cL (cL (cR (cL (cR (cR (cR (cR (cR C_gmm))))))))) n { fr := mkFr 7 [(1, AV.os 1 0), (2, AV.os 0 0), (9, AV.os 3 0), (10, I 1065353216), (11, I 1065353216), (37, I m), (38, I (IntKind.i64.wrap (i + 1)))], hp := [(0, AObj.arr 3 (i64T) 0 false [e, f]), (1, AObj.arr 25 ((i64T).pair ((i64T).slice.pair ((i64T).slice.pair Ty.unit))) 0 false [(t1, [a, b], x, PUnit.unit), (t2, [c, d], y, PUnit.unit)]), (2, AObj.arr 9 Ty.str 0 false [[120], [121]]), (3, AObj.arr 2 (i64T) 0 false v4)], nx := 7 } k
  else k (AEx.exit 0) { fr := mkFr 7 [(1, AV.os 1 0), (2, AV.os 0 0), (9, AV.os 3 0), (10, I 1065353216), (11, I 1065353216), (37, I m), (38, I i), (39, B false)], hp := [(0, AObj.arr 3 (i64T) 0 false [e, f]), (1, AObj.arr 25 ((i64T).pair ((i64T).slice.pair ((i64T).slice.pair Ty.unit))) 0 false [(t1, [a, b], x, PUnit.unit), (t2, [c, d], y, PUnit.unit)]), (2, AObj.arr 9 Ty.str 0 false [[120], [121]]), (3, AObj.arr 2 (i64T) 0 false L)], nx := 7 } := by
  have h := gmm_stH (hlp gGm cf_gmm) t1 a b t2 c d e f x y m i L n k
  simp only [lpH_lp] at h
  exact h
noncomputable def GmK : AEx → LSt → Option (AEnd × LHp) := (blkK 0 (seqH gGm cf_gmm [6] (hlp gGm cf_gmm) (cR (cR (cR (cR (cR (cR C_gmm)))))) (endC Tryz.prog 3 Tryz.f41.results.toList ah)))
def stGmE (t1 a b t2 c d e f : Int) (x y : List Int) (n i : Int) (L : List Int) : LSt := { fr := mkFr 7 [(1, AV.os 1 0), (2, AV.os 0 0), (9, AV.os 3 0), (10, I 1065353216), (11, I 1065353216), (37, I n), (38, I i), (39, B false)], hp := hpGm t1 [a, b] x t2 [c, d] y [e, f] ++ [(3, AObj.arr 2 (i64T) 0 false L)], nx := 7 }
theorem gmm_end (t1 a b t2 c d e f : Int) (x y : List Int) (m i : Int) (L : List Int) : GmK (.exit 0) (stGmE t1 a b t2 c d e f x y m i L) =
  some (AEnd.ret [AV.os 3 0], [(0, AObj.arr 3 (i64T) 0 false [e, f]), (1, AObj.arr 25 ((i64T).pair ((i64T).slice.pair ((i64T).slice.pair Ty.unit))) 0 false [(t1, [a, b], x, PUnit.unit), (t2, [c, d], y, PUnit.unit)]), (2, AObj.arr 9 Ty.str 0 false [[120], [121]]), (3, AObj.arr 2 (i64T) 0 false L)]) := by kernel_rfl
end Go.Proofs.XGT
/- linear.gemm of two matrices: what it makes. -/
namespace Go.Proofs.XGT
open Go.Vm Go
set_option maxRecDepth 100000
set_option maxHeartbeats 1000000
def mulU (L : List Int) : List Int := L.map (binW .mul 1065353216)
def mixU (L : List Int) (i : Nat) : List Int := (mulU L).take i ++ L.drop i
theorem mixU_get {L : List Int} {i : Nat} (h : i < L.length) : (mixU L i)[i]? = L[i]? := by
  have hl : ((mulU L).take i).length = i := by simp [mulU]; omega
  unfold mixU
  rw [List.getElem?_append_right (by omega), hl, Nat.sub_self, List.getElem?_drop, Nat.add_zero]
theorem mixU_set {L : List Int} {i : Nat} (h : i < L.length) : setN (mixU L i) i (binW .mul 1065353216 L[i]) = some (mixU L (i + 1)) := by
  have hl : ((mulU L).take i).length = i := by simp [mulU]; omega
  have hL : (mixU L i).length = L.length := by unfold mixU; rw [List.length_append, hl, List.length_drop]; omega
  have e : (mixU L i).set i (binW .mul 1065353216 L[i]) = mixU L (i + 1) := by
    unfold mixU
    rw [List.set_append_right _ _ (by omega), hl, Nat.sub_self, List.drop_eq_getElem_cons h, List.set_cons_zero]
    have h2 : i < (mulU L).length := by simp [mulU]; exact h
    rw [← List.take_append_getElem h2, List.append_assoc]
    simp [mulU]
  unfold setN
  rw [hL, show Nat.blt i L.length = true from Nat.ble_eq_true_of_le h, cond_true, e]
theorem gmm_loop {t1 a b t2 c d e f : Int} {x y L : List Int} (hl : L.length ≤ 65536) : lp gGm cf_gmm (cL (cL (cR (cL (cR (cR (cR (cR (cR C_gmm))))))))) fu (stGm t1 a b t2 c d e f x y L.length 0 L) GmK = some (.ret [.os 3 0], hpGm t1 [a, b] x t2 [c, d] y [e, f] ++ [(3, .arr 2 i64T 0 false (mulU L))]) := by
  have hf : fu = 18446744073709551616 := rfl
  have key := lp_to (T := fun m s => lp gGm cf_gmm (cL (cL (cR (cL (cR (cR (cR (cR (cR C_gmm))))))))) m s GmK) (f := fun i : Nat => stGm t1 a b t2 c d e f x y L.length i (mixU L i)) L.length fu (by omega) (fun i hi n => by
    have e0 : IntKind.i64.wrap ((i : Int) + 1) = ((i + 1 : Nat) : Int) := by rw [wrap64 (by omega) (by omega)]; omega
    have hx : (mixU L i)[i]? = some L[i] := by rw [mixU_get hi, List.getElem?_eq_getElem hi]
    have hidx : idx (mixU L i) (i : Int) = some L[i] := by unfold idx; rw [if_pos (by omega), Int.toNat_natCast, hx]
    show lp gGm cf_gmm (cL (cL (cR (cL (cR (cR (cR (cR (cR C_gmm))))))))) (n + 1) (stGm t1 a b t2 c d e f x y L.length i (mixU L i)) GmK = _
    rw [gmm_st, decide_eq_true (show (i : Int) < (L.length : Int) by omega), hidx]
    rw [cond_true, Option.bind_some, Int.toNat_natCast, hx, Option.bind_some, Option.bind_some, mixU_set hi, Option.bind_some, e0]
    rfl)
  have e1 : mixU L 0 = L := by simp [mixU]
  have e2 : mixU L L.length = mulU L := by unfold mixU; rw [List.take_of_length_le (by simp [mulU]), List.drop_eq_nil_of_le (Nat.le_refl _), List.append_nil]
  simp only [e1, e2] at key
  refine Eq.trans key ?_
  obtain ⟨m', hm'⟩ : ∃ m', fu - L.length = m' + 1 := ⟨fu - L.length - 1, by omega⟩
  rw [hm', gmm_st, decide_eq_false (Int.lt_irrefl _), cond_false]
  exact gmm_end _ _ _ _ _ _ _ _ _ _ _ _ _
theorem gmm_run {t1 a b t2 c d e f : Int} {x y : List Int} (h : mmOk a b c d x y = true) : runC gGm Tryz.f41 7 [(6, [1, 2, 9, 10, 11, 37, 38]), (12, [9, 11, 58, 59, 60])] [nodeA strGM [] [122] (.os 2 0) .nils, .os 1 0, .os 0 0] (hpGm t1 [a, b] x t2 [c, d] y [e, f]) ah = some (.ret [.os 3 0], hpGm t1 [a, b] x t2 [c, d] y [e, f] ++ [(3, .arr 2 i64T 0 false (mulU (prodL a.toNat b.toNat d.toNat x y)))]) := by
  have hp := mmOk_prd h
  have hlen : (prodL a.toNat b.toNat d.toNat x y).length ≤ 65536 := by
    obtain ⟨_, _, h3, _⟩ := of_decide_eq_true hp
    rw [prodL_length]
    exact h3
  have key : runC gGm Tryz.f41 7 [(6, [1, 2, 9, 10, 11, 37, 38]), (12, [9, 11, 58, 59, 60])] [nodeA strGM [] [122] (.os 2 0) .nils, .os 1 0, .os 0 0] (hpGm t1 [a, b] x t2 [c, d] y [e, f]) ah = lp gGm cf_gmm (cL (cL (cR (cL (cR (cR (cR (cR (cR C_gmm))))))))) fu (stGm t1 a b t2 c d e f x y (prodL a.toNat b.toNat d.toNat x y).length 0 (prodL a.toNat b.toNat d.toNat x y)) GmK := (gmm_eq t1 a b t2 c d e f x y).trans (by
    rw [hp, cond_true]
    kernel_rfl)
  exact key.trans (gmm_loop hlen)
def gmmT : List AV → LHp → Tq
  | [n, .os 1 0, .os 0 0], [(0, .arr 3 (.int .i64) 0 false [e, f]), (1, .arr 25 ((.pair (.int .i64) (.pair (.slice (.int .i64)) (.pair (.slice (.int .i64)) .unit)))) 0 false [(t1, [a, b], x, ()), (t2, [c, d], y, ())]), (2, .arr 9 .str 0 false ins)] =>
    (match nodeP n with
    | some (op, nm, out, .os 2 0, .nils) => gate (decide (op = strGM) && decide (nm = []) && decide (out = [122]) && decide (ins = [[120], [121]]))
        (.br (mmOk a b c d x y) (.leaf (.ret [.os 3 0]) (hpGm t1 [a, b] x t2 [c, d] y [e, f] ++ [(3, .arr 2 i64T 0 false (mulU (prodL a.toNat b.toNat d.toNat x y)))])) .no)
    | _ => .no)
  | _, _ => .no
theorem gmmT_ok : FnE.OK e0.P e0.gam 41 (treeE gmmT) := by
  have h1 : FnE.OK e0.P e0.gam 41 (execFnC gGm Tryz.f41 7 [(6, [1, 2, 9, 10, 11, 37, 38]), (12, [9, 11, 58, 59, 60])]) := execFnC_ok gGm_good hmix Tryz.func41 Tryz.call41 (by decide +kernel) rfl
  refine ⟨fun _ _ _ => Tq.eq _ _, fun args hs ae hs' h => ?_⟩
  have h' : (gmmT args hs).run ah = some (ae, hs') := h
  clear h
  unfold gmmT at h'
  split at h'
  · split at h'
    · rename_i hn
      rw [nodeP_some hn]
      obtain ⟨hb, h2⟩ := gate_run h'
      clear h'
      simp only [Bool.and_eq_true, decide_eq_true_eq] at hb
      obtain ⟨⟨⟨b1, b2⟩, b3⟩, b4⟩ := hb
      subst b1 b2 b3 b4
      obtain ⟨hl, h3⟩ := Tq.br_no h2
      cases h3
      exact h1.okC (gmm_run hl)
    · cases h'
  · cases h'
end Go.Proofs.XGT
/- linear.Do of two matrices. -/
namespace Go.Proofs.XGT
open Go.Vm Go
set_option maxRecDepth 100000
set_option maxHeartbeats 4000000
noncomputable def C_ldo : Code := codeOf Tryz.f23
noncomputable def cf_ldo : Cfg := ⟨43, 6, 2, [], true⟩
noncomputable def gLd : Env := ((g203.add 39 (treeE bgnT)).add 40 (treeE mmlT)).add 41 (treeE gmmT)
theorem gLd_good : gLd.Good := ((g203_good.add bgnT_ok).add mmlT_ok).add gmmT_ok
theorem ldm_eq (t1 a b t2 c d : Int) (x y : List Int) : runC gLd Tryz.f23 6 [] [nodeA strMM [] [122] (.os 1 0) .nils, .os 0 0] (hpL false t1 [a, b] x t2 [c, d] y) ah =
  bif decide (x.length ≤ 9223372036854775807 ∧ y.length ≤ 9223372036854775807) then 
    bif bgnE t1 a b x t2 c d y != 0 then 
      bif bgnE t1 a b x t2 c d y != 0 then some (AEnd.ret [(I 0).pr (AV.nils.pr (AV.nils.pr (AV.d Ty.unit PUnit.unit))), I (bgnE t1 a b x t2 c d y)], [(0, AObj.arr 25 ((i64T).pair ((i64T).slice.pair ((i64T).slice.pair Ty.unit))) 0 false [(t1, [a, b], x, PUnit.unit), (t2, [c, d], y, PUnit.unit)]), (1, AObj.arr 9 Ty.str 0 false [[120], [121]])])
      else none
    else 
      bif mmOk a b c d x y then some (AEnd.ret [(I t1).pr ((AV.os 2 0).pr ((AV.os 3 0).pr (AV.d Ty.unit PUnit.unit))), I 0], [(0, AObj.arr 25 ((i64T).pair ((i64T).slice.pair ((i64T).slice.pair Ty.unit))) 0 false [(t1, [a, b], x, PUnit.unit), (t2, [c, d], y, PUnit.unit)]), (1, AObj.arr 9 Ty.str 0 false [[120], [121]]), (2, AObj.arr 3 (i64T) 0 true [a, d]), (3, AObj.arr 2 (i64T) 0 false (prodL a.toNat b.toNat d.toNat x y))])
      else none
  else none := by kernel_rfl
theorem ldg_eq (t1 a b t2 c d : Int) (x y : List Int) : runC gLd Tryz.f23 6 [] [nodeA strGM [] [122] (.os 1 0) .nils, .os 0 0] (hpL false t1 [a, b] x t2 [c, d] y) ah =
  bif decide (x.length ≤ 9223372036854775807 ∧ y.length ≤ 9223372036854775807) then 
    bif bgnE t1 a b x t2 c d y != 0 then 
      bif bgnE t1 a b x t2 c d y != 0 then some (AEnd.ret [(I 0).pr (AV.nils.pr (AV.nils.pr (AV.d Ty.unit PUnit.unit))), I (bgnE t1 a b x t2 c d y)], [(0, AObj.arr 25 ((i64T).pair ((i64T).slice.pair ((i64T).slice.pair Ty.unit))) 0 false [(t1, [a, b], x, PUnit.unit), (t2, [c, d], y, PUnit.unit)]), (1, AObj.arr 9 Ty.str 0 false [[120], [121]])])
      else none
    else 
      bif mmOk a b c d x y then some (AEnd.ret [(I t1).pr ((AV.os 2 0).pr ((AV.os 3 0).pr (AV.d Ty.unit PUnit.unit))), I 0], [(0, AObj.arr 25 ((i64T).pair ((i64T).slice.pair ((i64T).slice.pair Ty.unit))) 0 false [(t1, [a, b], x, PUnit.unit), (t2, [c, d], y, PUnit.unit)]), (1, AObj.arr 9 Ty.str 0 false [[120], [121]]), (2, AObj.arr 3 (i64T) 0 false [a, d]), (3, AObj.arr 2 (i64T) 0 false (mulU (prodL a.toNat b.toNat d.toNat x y)))])
      else none
  else none := by kernel_rfl
end Go.Proofs.XGT
/- linear.Do of two matrices, told. -/
namespace Go.Proofs.XGT
open Go.Vm Go
set_option maxRecDepth 100000
set_option maxHeartbeats 1000000
def zeroTL : AV := (I 0).pr (AV.nils.pr (AV.nils.pr (AV.d Ty.unit PUnit.unit)))
def okTL (t : Int) : AV := (I t).pr ((AV.os 2 0).pr ((AV.os 3 0).pr (AV.d Ty.unit PUnit.unit)))
theorem bgnE_ok {t1 a b t2 c d : Int} {x y : List Int} (h : bgnE t1 a b x t2 c d y = 0) : mmOk a b c d x y = true ∧ t1 = 1 ∧ t2 = 1 ∧ tenE t1 [a, b] x = 0 ∧ tenE t2 [c, d] y = 0 ∧ countE [a, d] = 0 := by
  unfold bgnE at h
  cases e1 : tenE t1 [a, b] x != 0 with
  | true => rw [e1] at h; exact absurd (show (1 : Int) = 0 from h) (by decide)
  | false =>
    cases e2 : tenE t2 [c, d] y != 0 with
    | true => rw [e1, e2] at h; exact absurd (show (1 : Int) = 0 from h) (by decide)
    | false =>
      cases e3 : t1 != 1 with
      | true => rw [e1, e2, e3] at h; exact absurd (show (4 : Int) = 0 from h) (by decide)
      | false =>
        cases e4 : t2 != 1 with
        | true => rw [e1, e2, e3, e4] at h; exact absurd (show (4 : Int) = 0 from h) (by decide)
        | false =>
          cases e5 : !b == c with
          | true => rw [e1, e2, e3, e4, e5] at h; exact absurd (show (4 : Int) = 0 from h) (by decide)
          | false =>
            rw [e1, e2, e3, e4, e5] at h
            have h : countE [a, d] = 0 := h
            have e1 : tenE t1 [a, b] x = 0 := by simpa using e1
            have e2 : tenE t2 [c, d] y = 0 := by simpa using e2
            obtain ⟨_, n1, n2, _⟩ := ten_ok e1
            obtain ⟨_, m1, m2, _⟩ := ten_ok e2
            obtain ⟨p1, _, p3, p4⟩ := count_ok n1
            obtain ⟨q1, _, q3, q4⟩ := count_ok m1
            obtain ⟨r1, _, r3, r4⟩ := count_ok h
            have ep : ∀ u v : Int, prodI [u, v] = u * v := fun u v => by show 1 * u * v = u * v; rw [Int.one_mul]
            rw [ep] at p3 p4 q3 q4 r3 r4
            have hbc : c = b := by
              simp only [Bool.not_eq_false', beq_iff_eq] at e5
              exact e5.symm
            refine ⟨decide_eq_true ⟨⟨p1 a (by simp), p1 b (by simp), p3, by omega⟩, ⟨q1 c (by simp), q1 d (by simp), q3, by omega⟩, hbc, r3⟩, by simpa using e3, by simpa using e4, e1, e2, h⟩
def two2 : List Int → Option (Int × Int)
  | [a, b] => some (a, b)
  | _ => none
theorem two2_some {xs : List Int} {p : Int × Int} (h : two2 xs = some p) : xs = [p.1, p.2] := by
  unfold two2 at h
  split at h
  · cases h
    rfl
  · cases h
def ldoT (op0 : List UInt8) (z : Bool) (f : Int → Int → Int → List Int → List Int → List Int) : List AV → LHp → Tq
  | [n, .os 0 0], [(0, .arr 25 ((.pair (.int .i64) (.pair (.slice (.int .i64)) (.pair (.slice (.int .i64)) .unit)))) 0 false [(t1, xd, x, ()), (t2, yd, y, ())]), (1, .arr 9 .str 0 false ins)] =>
    (match nodeP n with
    | some (op, nm, out, .os 1 0, .nils) => gate (decide (op = op0) && decide (nm = []) && decide (out = [122]) && decide (ins = [[120], [121]]))
        (.opt (two2 xd) fun p => .opt (two2 yd) fun q => .br (decide (x.length ≤ maxLen ∧ y.length ≤ maxLen)) (.br (bgnE t1 p.1 p.2 x t2 q.1 q.2 y != 0) (.leaf (.ret [zeroTL, I (bgnE t1 p.1 p.2 x t2 q.1 q.2 y)]) (hpL false t1 [p.1, p.2] x t2 [q.1, q.2] y)) (.leaf (.ret [okTL t1, I 0]) (hpL false t1 [p.1, p.2] x t2 [q.1, q.2] y ++ [(2, .arr 3 i64T 0 z [p.1, q.2]), (3, .arr 2 i64T 0 false (f p.1 p.2 q.2 x y))]))) .no)
    | _ => .no)
  | _, _ => .no
def fMM (a b d : Int) (x y : List Int) : List Int := prodL a.toNat b.toNat d.toNat x y
def fGM (a b d : Int) (x y : List Int) : List Int := mulU (prodL a.toNat b.toNat d.toNat x y)
theorem ldoT_ok {op0 : List UInt8} {z : Bool} {f : Int → Int → Int → List Int → List Int → List Int} (hc : ∀ (t1 a b t2 c d : Int) (x y : List Int) (_ : x.length ≤ maxLen ∧ y.length ≤ maxLen), runC gLd Tryz.f23 6 [] [nodeA op0 [] [122] (.os 1 0) .nils, .os 0 0] (hpL false t1 [a, b] x t2 [c, d] y) ah =
    bif bgnE t1 a b x t2 c d y != 0 then some (.ret [zeroTL, I (bgnE t1 a b x t2 c d y)], hpL false t1 [a, b] x t2 [c, d] y) else some (.ret [okTL t1, I 0], hpL false t1 [a, b] x t2 [c, d] y ++ [(2, .arr 3 i64T 0 z [a, d]), (3, .arr 2 i64T 0 false (f a b d x y))])) : FnE.OK e0.P e0.gam 23 (treeE (ldoT op0 z f)) := by
  have h1 : FnE.OK e0.P e0.gam 23 (execFnC gLd Tryz.f23 6 []) := execFnC_ok gLd_good hmix Tryz.func23 Tryz.call23 (by decide +kernel) rfl
  refine ⟨fun _ _ _ => Tq.eq _ _, fun args hs ae hs' h => ?_⟩
  have h' : (ldoT op0 z f args hs).run ah = some (ae, hs') := h
  clear h
  unfold ldoT at h'
  split at h'
  · split at h'
    · rename_i hn
      rw [nodeP_some hn]
      obtain ⟨hb, h2⟩ := gate_run h'
      clear h'
      simp only [Bool.and_eq_true, decide_eq_true_eq] at hb
      obtain ⟨⟨⟨b1, b2⟩, b3⟩, b4⟩ := hb
      subst b1 b2 b3 b4
      simp only [Tq.run] at h2
      obtain ⟨p, hp, h3⟩ := bind_some h2
      obtain ⟨q, hq, h4⟩ := bind_some h3
      clear h2 h3
      rw [two2_some hp, two2_some hq]
      have bif_none' : ∀ {c : Bool} {x : Option (AEnd × LHp)} {r : AEnd × LHp}, (bif c then x else none) = some r → c = true ∧ x = some r := fun {c x r} h => by
        cases c with
        | true => exact ⟨rfl, h⟩
        | false => cases h
      obtain ⟨hl, h5⟩ := bif_none' h4
      exact h1.okC ((hc _ _ _ _ _ _ _ _ (of_decide_eq_true hl)).trans h5)
    · cases h'
  · cases h'
theorem ldmT_ok : FnE.OK e0.P e0.gam 23 (treeE (ldoT strMM true fMM)) := ldoT_ok fun t1 a b t2 c d x y hl => by
  rw [ldm_eq, decide_eq_true (show x.length ≤ 9223372036854775807 ∧ y.length ≤ 9223372036854775807 from hl)]
  cases hb : bgnE t1 a b x t2 c d y != 0 with
  | true => rfl
  | false =>
    rw [(bgnE_ok (show bgnE t1 a b x t2 c d y = 0 by simpa using hb)).1]
    rfl
theorem ldgT_ok : FnE.OK e0.P e0.gam 23 (treeE (ldoT strGM false fGM)) := ldoT_ok fun t1 a b t2 c d x y hl => by
  rw [ldg_eq, decide_eq_true (show x.length ≤ 9223372036854775807 ∧ y.length ≤ 9223372036854775807 from hl)]
  cases hb : bgnE t1 a b x t2 c d y != 0 with
  | true => rfl
  | false =>
    rw [(bgnE_ok (show bgnE t1 a b x t2 c d y = 0 by simpa using hb)).1]
    rfl
def ldoF (a : List AV) (h : LHp) : Tq := orT (ldoT strMM true fMM a h) (ldoT strGM false fGM a h)
theorem ldoF_ok : FnE.OK e0.P e0.gam 23 (treeE ldoF) := treeE_or ldmT_ok ldgT_ok
end Go.Proofs.XGT
