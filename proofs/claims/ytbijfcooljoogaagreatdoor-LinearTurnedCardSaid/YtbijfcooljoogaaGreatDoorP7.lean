/- linear.turned, told; linear.gemm that turns both: its loop's steps. -/
import Derived.Test.YtbijfcooljoogaaGreatDoorP6
import Derived.Test.YtbijfcooljoogaaGreatDoorP2
import Derived.Test.YtbijfcooljoogaaGreatDoorWI
import Derived.Test.YtbijfcooljoogaaGreatDoorP1
import Derived.Test.YtbijfcooljoogaaGreatDoorP3

namespace Go.Proofs.XGT
open Go.Vm Go
set_option maxRecDepth 100000
set_option maxHeartbeats 4000000
noncomputable def C_tnd : Code := codeOf Tryz.f71
noncomputable def cf_tnd : Cfg := ⟨51, 6, 0, [], true⟩
noncomputable def gTn : Env := g199.add 79 (treeE reaT2)
theorem gTn_good : gTn.Good := g199_good.add reaT2_ok
theorem tnd_eq (t a b : Int) (x : List Int) : runC gTn Tryz.f71 6 [] [.d (Y0) (t, [a, b], x, ()), B true] [] ah =
  bif countE [a, b] != 0 then 
    bif countE [a, b] != 0 then none
    else 
      bif countE [a, b] == 0 then none
      else none
  else 
    bif countE [a, b] == 0 then 
      bif decide (IntKind.i64.wrap (1 * b) < 0) then none
      else 
        bif decide (IntKind.i64.wrap (1 * b) > 65536) then none
        else 
          bif okR2 0 1 (IntKind.i64.wrap (1 * b)) b a x then some (AEnd.ret [(I b).pr ((I a).pr ((AV.os 0 0).pr (AV.d Ty.unit PUnit.unit)))], [(0, AObj.arr 2 (i64T) 0 false (rd2 0 1 (IntKind.i64.wrap (1 * b)) b a x))])
          else none
    else none := by kernel_rfl
/-- the numbers of a turned matrix -/
def turnL (a b : Int) (x : List Int) : List Int := rd2 0 1 b b a x
def okTn (a b : Int) (x : List Int) : Bool := decide (countE [a, b] = 0 ∧ 0 ≤ b ∧ b ≤ 65536 ∧ okR2 0 1 b b a x = true)
theorem tnd_run {t a b : Int} {x : List Int} (h : okTn a b x = true) : runC gTn Tryz.f71 6 [] [.d (Y0) (t, [a, b], x, ()), B true] [] ah = some (.ret [(I b).pr ((I a).pr ((AV.os 0 0).pr (AV.d Ty.unit PUnit.unit)))], [(0, .arr 2 i64T 0 false (turnL a b x))]) := by
  obtain ⟨c1, c2, c3, c4⟩ := of_decide_eq_true h
  refine (tnd_eq t a b x).trans ?_
  have w : IntKind.i64.wrap (1 * b) = b := by rw [Int.one_mul]; exact wrap64 (by omega) (by omega)
  rw [w, c1, decide_eq_false (show ¬ b < 0 by omega), decide_eq_false (show ¬ b > 65536 by omega), c4]
  rfl
def tndT : List AV → LHp → Tq
  | [.d ((.pair (.int .i64) (.pair (.slice (.int .i64)) (.pair (.slice (.int .i64)) .unit)))) (_, [a, b], x, ()), .d .bool true], [] =>
    .br (okTn a b x) (.leaf (.ret [(I b).pr ((I a).pr ((AV.os 0 0).pr (AV.d Ty.unit PUnit.unit)))]) [(0, .arr 2 i64T 0 false (turnL a b x))]) .no
  | _, _ => .no
theorem tndT_ok : FnE.OK e0.P e0.gam 71 (treeE tndT) := by
  have h1 : FnE.OK e0.P e0.gam 71 (execFnC gTn Tryz.f71 6 []) := execFnC_ok gTn_good hmix Tryz.func71 Tryz.call71 (by decide +kernel) rfl
  refine ⟨fun _ _ _ => Tq.eq _ _, fun args hs ae hs' h => ?_⟩
  have h' : (tndT args hs).run ah = some (ae, hs') := h
  clear h
  unfold tndT at h'
  split at h'
  · rename_i t a b x
    obtain ⟨hb, h2⟩ := Tq.br_no h'
    cases h2
    exact h1.okC (tnd_run hb)
  · cases h'
noncomputable def C_gmf : Code := codeOf Tryz.f41
noncomputable def cf_gmf : Cfg := ⟨78, 7, 4, [(6, [1, 2, 9, 10, 11, 37, 38]), (12, [9, 11, 58, 59, 60])], true⟩
noncomputable def prE : FnE := dataE (treeE prdT)
theorem prE_ok : FnE.OK e0.P e0.gam 70 prE := dataE_ok prdT_ok
noncomputable def gGf : Env := ((g202.add 70 prE).add 73 (fnE ltwF)).add 71 (treeE tndT)
theorem gGf_good : gGf.Good := ((g202_good.add prE_ok).add ltwE_ok).add tndT_ok
def hpGf (t1 : Int) (d1 x1 : List Int) (t2 : Int) (d2 x2 : List Int) (d3 : List Int) : LHp := [(0, .arr 3 i64T 0 false d3), (1, .arr 25 (Y0) 0 false [(t1, d1, x1, ()), (t2, d2, x2, ())]), (2, .arr 37 (Y1) 0 true flagsAB), (3, .arr 9 .str 0 false [[120], [121]])]
theorem gmf_eqH (hl : Hl) (t1 a b t2 c d e f : Int) (x y : List Int) : runH gGf Tryz.f41 7 [(6, [1, 2, 9, 10, 11, 37, 38]), (12, [9, 11, 58, 59, 60])] [6] hl [nodeA strGM [] [122] (.os 3 0) (.os 2 0), .os 1 0, .os 0 0] (hpGf t1 [a, b] x t2 [c, d] y [e, f]) ah =
  bif okTn a b x then 
    bif okTn c d y then 
      bif prdOk b a d c (turnL a b x) (turnL c d y) then hl (cL (cL (cR (cL (cR (cR (cR (cR (cR C_gmf))))))))) _ { fr := mkFr 7 [(1, AV.os 1 0), (2, AV.os 0 0), (9, AV.os 4 0), (10, I 1065353216), (11, I 1065353216), (37, I (Int.ofNat (prodL b.toNat a.toNat c.toNat (turnL a b x) (turnL c d y)).length)), (38, I 0)], hp := [(0, AObj.arr 3 (i64T) 0 false [e, f]), (1, AObj.arr 25 ((i64T).pair ((i64T).slice.pair ((i64T).slice.pair Ty.unit))) 0 false [(t1, [a, b], x, PUnit.unit), (t2, [c, d], y, PUnit.unit)]), (2, AObj.arr 37 (Ty.str.pair ((i64T).pair ((i64T).pair ((i64T).pair (Ty.str.pair (((i64T).pair ((i64T).slice.pair ((i64T).slice.pair Ty.unit))).pair ((i64T).slice.pair Ty.unit))))))) 0 true [([116, 114, 97, 110, 115, 65], 2, 0, 1, [], (0, [], [], PUnit.unit), [], PUnit.unit), ([116, 114, 97, 110, 115, 66], 2, 0, 1, [], (0, [], [], PUnit.unit), [], PUnit.unit)]), (3, AObj.arr 9 Ty.str 0 false [[120], [121]]), (4, AObj.arr 2 (i64T) 0 false (prodL b.toNat a.toNat c.toNat (turnL a b x) (turnL c d y)))], nx := 9 } (blkK 0 (seqH gGf cf_gmf [6] hl (cR (cR (cR (cR (cR (cR C_gmf)))))) (endC Tryz.prog 4 Tryz.f41.results.toList ah)))
      else none
    else none
  else none := by kernel_rfl
theorem gmf_eq (t1 a b t2 c d e f : Int) (x y : List Int) : runC gGf Tryz.f41 7 [(6, [1, 2, 9, 10, 11, 37, 38]), (12, [9, 11, 58, 59, 60])] [nodeA strGM [] [122] (.os 3 0) (.os 2 0), .os 1 0, .os 0 0] (hpGf t1 [a, b] x t2 [c, d] y [e, f]) ah =
  bif okTn a b x then 
    bif okTn c d y then 
      bif prdOk b a d c (turnL a b x) (turnL c d y) then (hlp gGf cf_gmf) (cL (cL (cR (cL (cR (cR (cR (cR (cR C_gmf))))))))) _ { fr := mkFr 7 [(1, AV.os 1 0), (2, AV.os 0 0), (9, AV.os 4 0), (10, I 1065353216), (11, I 1065353216), (37, I (Int.ofNat (prodL b.toNat a.toNat c.toNat (turnL a b x) (turnL c d y)).length)), (38, I 0)], hp := [(0, AObj.arr 3 (i64T) 0 false [e, f]), (1, AObj.arr 25 ((i64T).pair ((i64T).slice.pair ((i64T).slice.pair Ty.unit))) 0 false [(t1, [a, b], x, PUnit.unit), (t2, [c, d], y, PUnit.unit)]), (2, AObj.arr 37 (Ty.str.pair ((i64T).pair ((i64T).pair ((i64T).pair (Ty.str.pair (((i64T).pair ((i64T).slice.pair ((i64T).slice.pair Ty.unit))).pair ((i64T).slice.pair Ty.unit))))))) 0 true [([116, 114, 97, 110, 115, 65], 2, 0, 1, [], (0, [], [], PUnit.unit), [], PUnit.unit), ([116, 114, 97, 110, 115, 66], 2, 0, 1, [], (0, [], [], PUnit.unit), [], PUnit.unit)]), (3, AObj.arr 9 Ty.str 0 false [[120], [121]]), (4, AObj.arr 2 (i64T) 0 false (prodL b.toNat a.toNat c.toNat (turnL a b x) (turnL c d y)))], nx := 9 } (blkK 0 (seqH gGf cf_gmf [6] (hlp gGf cf_gmf) (cR (cR (cR (cR (cR (cR C_gmf)))))) (endC Tryz.prog 4 Tryz.f41.results.toList ah)))
      else none
    else none
  else none := runH_runC.trans (gmf_eqH (hlp gGf cf_gmf) t1 a b t2 c d e f x y)
def stGf (t1 a b t2 c d e f : Int) (x y : List Int) (n i : Int) (L : List Int) : LSt := { fr := mkFr 7 [(1, AV.os 1 0), (2, AV.os 0 0), (9, AV.os 4 0), (10, I 1065353216), (11, I 1065353216), (37, I n), (38, I i)], hp := hpGf t1 [a, b] x t2 [c, d] y [e, f] ++ [(4, AObj.arr 2 (i64T) 0 false L)], nx := 9 }
theorem gmf_stH (hl : Hl) (t1 a b t2 c d e f : Int) (x y : List Int) (m i : Int) (L : List Int) (n : Nat) {R : Type} (k : AEx → LSt → Option R) : lpH gGf cf_gmf [6] hl (cL (cL (cR (cL (cR (cR (cR (cR (cR C_gmf))))))))) (n + 1) (stGf t1 a b t2 c d e f x y m i L) k =
  bif decide (i < m) then (idx L i).bind fun v1 =>
      (L[i.toNat]?).bind fun v2 =>
        (idx L i).bind fun v3 =>
          (setN L i.toNat (binW BinOp.mul 1065353216 v2)).bind fun v4 =>
            lpH gGf cf_gmf [6] hl (cL (cL (cR (cL (cR (cR (cR (cR (cR C_gmf))))))))) n { fr := mkFr 7 [(1, AV.os 1 0), (2, AV.os 0 0), (9, AV.os 4 0), (10, I 1065353216), (11, I 1065353216), (37, I m), (38, I (IntKind.i64.wrap (i + 1)))], hp := [(0, AObj.arr 3 (i64T) 0 false [e, f]), (1, AObj.arr 25 ((i64T).pair ((i64T).slice.pair ((i64T).slice.pair Ty.unit))) 0 false [(t1, [a, b], x, PUnit.unit), (t2, [c, d], y, PUnit.unit)]), (2, AObj.arr 37 (Ty.str.pair ((i64T).pair ((i64T).pair ((i64T).pair (Ty.str.pair (((i64T).pair ((i64T).slice.pair ((i64T).slice.pair Ty.unit))).pair ((i64T).slice.pair Ty.unit))))))) 0 true [([116, 114, 97, 110, 115, 65], 2, 0, 1, [], (0, [], [], PUnit.unit), [], PUnit.unit), ([116, 114, 97, 110, 115, 66], 2, 0, 1, [], (0, [], [], PUnit.unit), [], PUnit.unit)]), (3, AObj.arr 9 Ty.str 0 false [[120], [121]]), (4, AObj.arr 2 (i64T) 0 false v4)], nx := 9 } k
  else k (AEx.exit 0) { fr := mkFr 7 [(1, AV.os 1 0), (2, AV.os 0 0), (9, AV.os 4 0), (10, I 1065353216), (11, I 1065353216), (37, I m), (38, I i), (39, B false)], hp := [(0, AObj.arr 3 (i64T) 0 false [e, f]), (1, AObj.arr 25 ((i64T).pair ((i64T).slice.pair ((i64T).slice.pair Ty.unit))) 0 false [(t1, [a, b], x, PUnit.unit), (t2, [c, d], y, PUnit.unit)]), (2, AObj.arr 37 (Ty.str.pair ((i64T).pair ((i64T).pair ((i64T).pair (Ty.str.pair (((i64T).pair ((i64T).slice.pair ((i64T).slice.pair Ty.unit))).pair ((i64T).slice.pair Ty.unit))))))) 0 true [([116, 114, 97, 110, 115, 65], 2, 0, 1, [], (0, [], [], PUnit.unit), [], PUnit.unit), ([116, 114, 97, 110, 115, 66], 2, 0, 1, [], (0, [], [], PUnit.unit), [], PUnit.unit)]), (3, AObj.arr 9 Ty.str 0 false [[120], [121]]), (4, AObj.arr 2 (i64T) 0 false L)], nx := 9 } := by kernel_rfl
theorem gmf_st (t1 a b t2 c d e f : Int) (x y : List Int) (m i : Int) (L : List Int) (n : Nat) {R : Type} (k : AEx → LSt → Option R) : lp gGf cf_gmf (cL (cL (cR (cL (cR (cR (cR (cR (cR C_gmf))))))))) (n + 1) (stGf t1 a b t2 c d e f x y m i L) k =
  bif decide (i < m) then (idx L i).bind fun v1 =>
      (L[i.toNat]?).bind fun v2 =>
        (idx L i).bind fun v3 =>
          (setN L i.toNat (binW BinOp.mul 1065353216 v2)).bind fun v4 =>
            lp gGf cf_gmf (cL (cL (cR (cL (cR (cR (cR (cR (cR C_gmf))))))))) n { fr := mkFr 7 [(1, AV.os 1 0), (2, AV.os 0 0), (9, AV.os 4 0), (10, I 1065353216), (11, I 1065353216), (37, I m), (38, I (IntKind.i64.wrap (i + 1)))], hp := [(0, AObj.arr 3 (i64T) 0 false [e, f]), (1, AObj.arr 25 ((i64T).pair ((i64T).slice.pair ((i64T).slice.pair Ty.unit))) 0 false [(t1, [a, b], x, PUnit.unit), (t2, [c, d], y, PUnit.unit)]), (2, AObj.arr 37 (Ty.str.pair ((i64T).pair ((i64T).pair ((i64T).pair (Ty.str.pair (((i64T).pair ((i64T).slice.pair ((i64T).slice.pair Ty.unit))).pair ((i64T).slice.pair Ty.unit))))))) 0 true [([116, 114, 97, 110, 115, 65], 2, 0, 1, [], (0, [], [], PUnit.unit), [], PUnit.unit), ([116, 114, 97, 110, 115, 66], 2, 0, 1, [], (0, [], [], PUnit.unit), [], PUnit.unit)]), (3, AObj.arr 9 Ty.str 0 false [[120], [121]]), (4, AObj.arr 2 (i64T) 0 false v4)], nx := 9 } k
  else k (AEx.exit 0) { fr := mkFr 7 [(1, AV.os 1 0), (2, AV.os 0 0), (9, AV.os 4 0), (10, I 1065353216), (11, I 1065353216), (37, I m), (38, I i), (39, B false)], hp := [(0, AObj.arr 3 (i64T) 0 false [e, f]), (1, AObj.arr 25 ((i64T).pair ((i64T).slice.pair ((i64T).slice.pair Ty.unit))) 0 false [(t1, [a, b], x, PUnit.unit), (t2, [c, d], y, PUnit.unit)]), (2, AObj.arr 37 (Ty.str.pair ((i64T).pair ((i64T).pair ((i64T).pair (Ty.str.pair (((i64T).pair ((i64T).slice.pair ((i64T).slice.pair Ty.unit))).pair ((i64T).slice.pair Ty.unit))))))) 0 true [([116, 114, 97, 110, 115, 65], 2, 0, 1, [], (0, [], [], PUnit.unit), [], PUnit.unit), ([116, 114, 97, 110, 115, 66], 2, 0, 1, [], (0, [], [], PUnit.unit), [], PUnit.unit)]), (3, AObj.arr 9 Ty.str 0 false [[120], [121]]), (4, AObj.arr 2 (i64T) 0 false L)], nx := 9 } := by
  have h := gmf_stH (hlp gGf cf_gmf) t1 a b t2 c d e f x y m i L n k
  simp only [lpH_lp] at h
  exact h
noncomputable def GfK : AEx → LSt → Option (AEnd × LHp) := (blkK 0 (seqH gGf cf_gmf [6] (hlp gGf cf_gmf) (cR (cR (cR (cR (cR (cR C_gmf)))))) (endC Tryz.prog 4 Tryz.f41.results.toList ah)))
def stGfE (t1 a b t2 c d e f : Int) (x y : List Int) (n i : Int) (L : List Int) : LSt := { fr := mkFr 7 [(1, AV.os 1 0), (2, AV.os 0 0), (9, AV.os 4 0), (10, I 1065353216), (11, I 1065353216), (37, I n), (38, I i), (39, B false)], hp := hpGf t1 [a, b] x t2 [c, d] y [e, f] ++ [(4, AObj.arr 2 (i64T) 0 false L)], nx := 9 }
theorem gmf_end (t1 a b t2 c d e f : Int) (x y : List Int) (m i : Int) (L : List Int) : GfK (.exit 0) (stGfE t1 a b t2 c d e f x y m i L) =
  some (AEnd.ret [AV.os 4 0], [(0, AObj.arr 3 (i64T) 0 false [e, f]), (1, AObj.arr 25 ((i64T).pair ((i64T).slice.pair ((i64T).slice.pair Ty.unit))) 0 false [(t1, [a, b], x, PUnit.unit), (t2, [c, d], y, PUnit.unit)]), (2, AObj.arr 37 (Ty.str.pair ((i64T).pair ((i64T).pair ((i64T).pair (Ty.str.pair (((i64T).pair ((i64T).slice.pair ((i64T).slice.pair Ty.unit))).pair ((i64T).slice.pair Ty.unit))))))) 0 true [([116, 114, 97, 110, 115, 65], 2, 0, 1, [], (0, [], [], PUnit.unit), [], PUnit.unit), ([116, 114, 97, 110, 115, 66], 2, 0, 1, [], (0, [], [], PUnit.unit), [], PUnit.unit)]), (3, AObj.arr 9 Ty.str 0 false [[120], [121]]), (4, AObj.arr 2 (i64T) 0 false L)]) := by kernel_rfl
end Go.Proofs.XGT
/- linear.gemm that turns both: what it makes. -/
namespace Go.Proofs.XGT
open Go.Vm Go
set_option maxRecDepth 100000
set_option maxHeartbeats 1000000
theorem gmf_loop {t1 a b t2 c d e f : Int} {x y L : List Int} (hl : L.length ≤ 65536) : lp gGf cf_gmf (cL (cL (cR (cL (cR (cR (cR (cR (cR C_gmf))))))))) fu (stGf t1 a b t2 c d e f x y L.length 0 L) GfK = some (.ret [.os 4 0], hpGf t1 [a, b] x t2 [c, d] y [e, f] ++ [(4, .arr 2 i64T 0 false (mulU L))]) := by
  have hf : fu = 18446744073709551616 := rfl
  have key := lp_to (T := fun m s => lp gGf cf_gmf (cL (cL (cR (cL (cR (cR (cR (cR (cR C_gmf))))))))) m s GfK) (f := fun i : Nat => stGf t1 a b t2 c d e f x y L.length i (mixU L i)) L.length fu (by omega) (fun i hi n => by
    have e0 : IntKind.i64.wrap ((i : Int) + 1) = ((i + 1 : Nat) : Int) := by rw [wrap64 (by omega) (by omega)]; omega
    have hx : (mixU L i)[i]? = some L[i] := by rw [mixU_get hi, List.getElem?_eq_getElem hi]
    have hidx : idx (mixU L i) (i : Int) = some L[i] := by unfold idx; rw [if_pos (by omega), Int.toNat_natCast, hx]
    show lp gGf cf_gmf (cL (cL (cR (cL (cR (cR (cR (cR (cR C_gmf))))))))) (n + 1) (stGf t1 a b t2 c d e f x y L.length i (mixU L i)) GfK = _
    rw [gmf_st, decide_eq_true (show (i : Int) < (L.length : Int) by omega), hidx]
    rw [cond_true, Option.bind_some, Int.toNat_natCast, hx, Option.bind_some, Option.bind_some, mixU_set hi, Option.bind_some, e0]
    rfl)
  have e1 : mixU L 0 = L := by simp [mixU]
  have e2 : mixU L L.length = mulU L := by unfold mixU; rw [List.take_of_length_le (by simp [mulU]), List.drop_eq_nil_of_le (Nat.le_refl _), List.append_nil]
  simp only [e1, e2] at key
  refine Eq.trans key ?_
  obtain ⟨m', hm'⟩ : ∃ m', fu - L.length = m' + 1 := ⟨fu - L.length - 1, by omega⟩
  rw [hm', gmf_st, decide_eq_false (Int.lt_irrefl _), cond_false]
  exact gmf_end _ _ _ _ _ _ _ _ _ _ _ _ _
/-- both can be turned, and multiplied -/
def gfOk (a b c d : Int) (x y : List Int) : Bool := okTn a b x && okTn c d y && prdOk b a d c (turnL a b x) (turnL c d y)
def gfL (a b c d : Int) (x y : List Int) : List Int := mulU (prodL b.toNat a.toNat c.toNat (turnL a b x) (turnL c d y))
theorem gmf_run {t1 a b t2 c d e f : Int} {x y : List Int} (h : gfOk a b c d x y = true) : runC gGf Tryz.f41 7 [(6, [1, 2, 9, 10, 11, 37, 38]), (12, [9, 11, 58, 59, 60])] [nodeA strGM [] [122] (.os 3 0) (.os 2 0), .os 1 0, .os 0 0] (hpGf t1 [a, b] x t2 [c, d] y [e, f]) ah = some (.ret [.os 4 0], hpGf t1 [a, b] x t2 [c, d] y [e, f] ++ [(4, .arr 2 i64T 0 false (gfL a b c d x y))]) := by
  unfold gfOk at h
  simp only [Bool.and_eq_true] at h
  obtain ⟨⟨h1, h2⟩, hp⟩ := h
  have hlen : (prodL b.toNat a.toNat c.toNat (turnL a b x) (turnL c d y)).length ≤ 65536 := by
    obtain ⟨_, _, h3, _⟩ := of_decide_eq_true hp
    rw [prodL_length]
    exact h3
  have key : runC gGf Tryz.f41 7 [(6, [1, 2, 9, 10, 11, 37, 38]), (12, [9, 11, 58, 59, 60])] [nodeA strGM [] [122] (.os 3 0) (.os 2 0), .os 1 0, .os 0 0] (hpGf t1 [a, b] x t2 [c, d] y [e, f]) ah = lp gGf cf_gmf (cL (cL (cR (cL (cR (cR (cR (cR (cR C_gmf))))))))) fu (stGf t1 a b t2 c d e f x y (prodL b.toNat a.toNat c.toNat (turnL a b x) (turnL c d y)).length 0 (prodL b.toNat a.toNat c.toNat (turnL a b x) (turnL c d y))) GfK := (gmf_eq t1 a b t2 c d e f x y).trans (by
    rw [h1, h2, hp, cond_true, cond_true, cond_true]
    kernel_rfl)
  exact key.trans (gmf_loop hlen)
def gmfT : List AV → LHp → Tq
  | [n, .os 1 0, .os 0 0], [(0, .arr 3 (.int .i64) 0 false [e, f]), (1, .arr 25 ((.pair (.int .i64) (.pair (.slice (.int .i64)) (.pair (.slice (.int .i64)) .unit)))) 0 false [(t1, [a, b], x, ()), (t2, [c, d], y, ())]), (2, .arr 37 ((.pair .str (.pair (.int .i64) (.pair (.int .i64) (.pair (.int .i64) (.pair .str (.pair (.pair (.int .i64) (.pair (.slice (.int .i64)) (.pair (.slice (.int .i64)) .unit))) (.pair (.slice (.int .i64)) .unit)))))))) 0 true [a1, a2]), (3, .arr 9 .str 0 false ins)] =>
    (match nodeP n with
    | some (op, nm, out, .os 3 0, .os 2 0) => gate (decide (op = strGM) && decide (nm = []) && decide (out = [122]) && decide (ins = [[120], [121]]) && (isInt a1 strTA 1 && isInt a2 strTB 1))
        (.br (gfOk a b c d x y) (.leaf (.ret [.os 4 0]) (hpGf t1 [a, b] x t2 [c, d] y [e, f] ++ [(4, .arr 2 i64T 0 false (gfL a b c d x y))])) .no)
    | _ => .no)
  | _, _ => .no
theorem gmfT_ok : FnE.OK e0.P e0.gam 41 (treeE gmfT) := by
  have h1 : FnE.OK e0.P e0.gam 41 (execFnC gGf Tryz.f41 7 [(6, [1, 2, 9, 10, 11, 37, 38]), (12, [9, 11, 58, 59, 60])]) := execFnC_ok gGf_good hmix Tryz.func41 Tryz.call41 (by decide +kernel) rfl
  refine ⟨fun _ _ _ => Tq.eq _ _, fun args hs ae hs' h => ?_⟩
  have h' : (gmfT args hs).run ah = some (ae, hs') := h
  clear h
  unfold gmfT at h'
  split at h'
  · split at h'
    · rename_i hn
      rw [nodeP_some hn]
      obtain ⟨hb, h2⟩ := gate_run h'
      clear h'
      simp only [Bool.and_eq_true, decide_eq_true_eq] at hb
      obtain ⟨⟨⟨⟨b1, b2⟩, b3⟩, b4⟩, b5, b6⟩ := hb
      subst b1 b2 b3 b4
      rw [isInt_eq b5, isInt_eq b6]
      obtain ⟨hl, h3⟩ := Tq.br_no h2
      cases h3
      exact h1.okC (gmf_run hl)
    · cases h'
  · cases h'
end Go.Proofs.XGT
/- linear.begin of a Gemm that turns both. -/
namespace Go.Proofs.XGT
open Go.Vm Go
set_option maxRecDepth 100000
set_option maxHeartbeats 4000000
noncomputable def prI : FnE := dataE y123
theorem prI_ok : FnE.OK e0.P e0.gam 123 prI := dataE_ok y123_ok
noncomputable def gmI : FnE := execFnC (g105.add 123 prI) Tryz.f124 6 []
theorem gmI_ok : FnE.OK e0.P e0.gam 124 gmI := execFnC_ok (g105_good.add prI_ok) hmix Tryz.func124 Tryz.call124 (by decide +kernel) rfl
noncomputable def dmI : FnE := execFnC (g150.add 124 gmI) Tryz.f94 8 [(56, [3, 132, 133, 134])]
theorem dmI_ok : FnE.OK e0.P e0.gam 94 dmI := execFnC_ok (g150_good.add gmI_ok) hmix Tryz.func94 Tryz.call94 (by decide +kernel) rfl
noncomputable def ouI : FnE := execFnDC (g152.add 94 dmI) Tryz.f55 7 [(5, [1, 2, 4, 5, 26, 27, 28])] dd55
theorem ouI_ok : FnE.OK e0.P e0.gam 55 ouI := execFnDC_ok (g152_good.add dmI_ok) (execFnD_ok (D := dd55) (g152_good.add dmI_ok) hmix Tryz.func55 Tryz.call55 rfl rfl (by decide +kernel) rfl Tryz.func89 Tryz.call89 rfl rfl (by decide +kernel))
noncomputable def C_bgf : Code := codeOf Tryz.f39
noncomputable def cf_bgf : Cfg := ⟨33, 6, 3, [(3, [2, 4, 6, 9, 10, 11])], true⟩
noncomputable def gBf : Env := g179.add 55 ouI
theorem gBf_good : gBf.Good := g179_good.add ouI_ok
def hpF (z : Bool) (t1 : Int) (d1 x1 : List Int) (t2 : Int) (d2 x2 : List Int) : LHp := [(0, .arr 25 (Y0) 0 false [(t1, d1, x1, ()), (t2, d2, x2, ())]), (1, .arr 37 (Y1) 0 z flagsAB), (2, .arr 9 .str 0 false [[120], [121]])]
theorem bgf_eq (t1 a b t2 c d : Int) (x y : List Int) : runC gBf Tryz.f39 6 [(3, [2, 4, 6, 9, 10, 11])] [nodeA strGM [] [122] (.os 2 0) (.os 1 0), .os 0 0] (hpF false t1 [a, b] x t2 [c, d] y) ah =
  bif decide (2 ≤ 9223372036854775807 ∧ x.length ≤ 9223372036854775807) then 
    bif tenE t1 [a, b] x != 0 then some (AEnd.ret [(AV.d Ty.str []).pr ((I 0).pr (AV.nils.pr (AV.d Ty.unit PUnit.unit))), I 1], [(0, AObj.arr 25 ((i64T).pair ((i64T).slice.pair ((i64T).slice.pair Ty.unit))) 0 false [(t1, [a, b], x, PUnit.unit), (t2, [c, d], y, PUnit.unit)]), (1, AObj.arr 37 (Ty.str.pair ((i64T).pair ((i64T).pair ((i64T).pair (Ty.str.pair (((i64T).pair ((i64T).slice.pair ((i64T).slice.pair Ty.unit))).pair ((i64T).slice.pair Ty.unit))))))) 0 false [([116, 114, 97, 110, 115, 65], 2, 0, 1, [], (0, [], [], PUnit.unit), [], PUnit.unit), ([116, 114, 97, 110, 115, 66], 2, 0, 1, [], (0, [], [], PUnit.unit), [], PUnit.unit)]), (2, AObj.arr 9 Ty.str 0 false [[120], [121]])])
    else 
      bif decide (2 ≤ 9223372036854775807 ∧ y.length ≤ 9223372036854775807) then 
        bif tenE t2 [c, d] y != 0 then some (AEnd.ret [(AV.d Ty.str []).pr ((I 0).pr (AV.nils.pr (AV.d Ty.unit PUnit.unit))), I 1], [(0, AObj.arr 25 ((i64T).pair ((i64T).slice.pair ((i64T).slice.pair Ty.unit))) 0 false [(t1, [a, b], x, PUnit.unit), (t2, [c, d], y, PUnit.unit)]), (1, AObj.arr 37 (Ty.str.pair ((i64T).pair ((i64T).pair ((i64T).pair (Ty.str.pair (((i64T).pair ((i64T).slice.pair ((i64T).slice.pair Ty.unit))).pair ((i64T).slice.pair Ty.unit))))))) 0 false [([116, 114, 97, 110, 115, 65], 2, 0, 1, [], (0, [], [], PUnit.unit), [], PUnit.unit), ([116, 114, 97, 110, 115, 66], 2, 0, 1, [], (0, [], [], PUnit.unit), [], PUnit.unit)]), (2, AObj.arr 9 Ty.str 0 false [[120], [121]])])
        else 
          bif !numOk t1 0 then some (AEnd.ret [(AV.d Ty.str []).pr ((I 0).pr (AV.nils.pr (AV.d Ty.unit PUnit.unit))), I 5], [(0, AObj.arr 25 ((i64T).pair ((i64T).slice.pair ((i64T).slice.pair Ty.unit))) 0 false [(t1, [a, b], x, PUnit.unit), (t2, [c, d], y, PUnit.unit)]), (1, AObj.arr 37 (Ty.str.pair ((i64T).pair ((i64T).pair ((i64T).pair (Ty.str.pair (((i64T).pair ((i64T).slice.pair ((i64T).slice.pair Ty.unit))).pair ((i64T).slice.pair Ty.unit))))))) 0 true [([116, 114, 97, 110, 115, 65], 2, 0, 1, [], (0, [], [], PUnit.unit), [], PUnit.unit), ([116, 114, 97, 110, 115, 66], 2, 0, 1, [], (0, [], [], PUnit.unit), [], PUnit.unit)]), (2, AObj.arr 9 Ty.str 0 false [[120], [121]])])
          else 
            bif countE [a, b] != 0 then some (AEnd.ret [(AV.d Ty.str []).pr ((I 0).pr (AV.nils.pr (AV.d Ty.unit PUnit.unit))), I (countE [a, b])], [(0, AObj.arr 25 ((i64T).pair ((i64T).slice.pair ((i64T).slice.pair Ty.unit))) 0 false [(t1, [a, b], x, PUnit.unit), (t2, [c, d], y, PUnit.unit)]), (1, AObj.arr 37 (Ty.str.pair ((i64T).pair ((i64T).pair ((i64T).pair (Ty.str.pair (((i64T).pair ((i64T).slice.pair ((i64T).slice.pair Ty.unit))).pair ((i64T).slice.pair Ty.unit))))))) 0 true [([116, 114, 97, 110, 115, 65], 2, 0, 1, [], (0, [], [], PUnit.unit), [], PUnit.unit), ([116, 114, 97, 110, 115, 66], 2, 0, 1, [], (0, [], [], PUnit.unit), [], PUnit.unit)]), (2, AObj.arr 9 Ty.str 0 false [[120], [121]])])
            else 
              bif !numOk t2 0 then some (AEnd.ret [(AV.d Ty.str []).pr ((I 0).pr (AV.nils.pr (AV.d Ty.unit PUnit.unit))), I 5], [(0, AObj.arr 25 ((i64T).pair ((i64T).slice.pair ((i64T).slice.pair Ty.unit))) 0 false [(t1, [a, b], x, PUnit.unit), (t2, [c, d], y, PUnit.unit)]), (1, AObj.arr 37 (Ty.str.pair ((i64T).pair ((i64T).pair ((i64T).pair (Ty.str.pair (((i64T).pair ((i64T).slice.pair ((i64T).slice.pair Ty.unit))).pair ((i64T).slice.pair Ty.unit))))))) 0 true [([116, 114, 97, 110, 115, 65], 2, 0, 1, [], (0, [], [], PUnit.unit), [], PUnit.unit), ([116, 114, 97, 110, 115, 66], 2, 0, 1, [], (0, [], [], PUnit.unit), [], PUnit.unit)]), (2, AObj.arr 9 Ty.str 0 false [[120], [121]])])
              else 
                bif countE [c, d] != 0 then some (AEnd.ret [(AV.d Ty.str []).pr ((I 0).pr (AV.nils.pr (AV.d Ty.unit PUnit.unit))), I (countE [c, d])], [(0, AObj.arr 25 ((i64T).pair ((i64T).slice.pair ((i64T).slice.pair Ty.unit))) 0 false [(t1, [a, b], x, PUnit.unit), (t2, [c, d], y, PUnit.unit)]), (1, AObj.arr 37 (Ty.str.pair ((i64T).pair ((i64T).pair ((i64T).pair (Ty.str.pair (((i64T).pair ((i64T).slice.pair ((i64T).slice.pair Ty.unit))).pair ((i64T).slice.pair Ty.unit))))))) 0 true [([116, 114, 97, 110, 115, 65], 2, 0, 1, [], (0, [], [], PUnit.unit), [], PUnit.unit), ([116, 114, 97, 110, 115, 66], 2, 0, 1, [], (0, [], [], PUnit.unit), [], PUnit.unit)]), (2, AObj.arr 9 Ty.str 0 false [[120], [121]])])
                else 
                  bif t1 == 6 then 
                    bif t1 != 1 then some (AEnd.ret [(AV.d Ty.str []).pr ((I 0).pr (AV.nils.pr (AV.d Ty.unit PUnit.unit))), I 4], [(0, AObj.arr 25 ((i64T).pair ((i64T).slice.pair ((i64T).slice.pair Ty.unit))) 0 false [(t1, [a, b], x, PUnit.unit), (t2, [c, d], y, PUnit.unit)]), (1, AObj.arr 37 (Ty.str.pair ((i64T).pair ((i64T).pair ((i64T).pair (Ty.str.pair (((i64T).pair ((i64T).slice.pair ((i64T).slice.pair Ty.unit))).pair ((i64T).slice.pair Ty.unit))))))) 0 true [([116, 114, 97, 110, 115, 65], 2, 0, 1, [], (0, [], [], PUnit.unit), [], PUnit.unit), ([116, 114, 97, 110, 115, 66], 2, 0, 1, [], (0, [], [], PUnit.unit), [], PUnit.unit)]), (2, AObj.arr 9 Ty.str 0 false [[120], [121]])])
                    else 
                      bif t2 != 1 then some (AEnd.ret [(AV.d Ty.str []).pr ((I 0).pr (AV.nils.pr (AV.d Ty.unit PUnit.unit))), I 4], [(0, AObj.arr 25 ((i64T).pair ((i64T).slice.pair ((i64T).slice.pair Ty.unit))) 0 false [(t1, [a, b], x, PUnit.unit), (t2, [c, d], y, PUnit.unit)]), (1, AObj.arr 37 (Ty.str.pair ((i64T).pair ((i64T).pair ((i64T).pair (Ty.str.pair (((i64T).pair ((i64T).slice.pair ((i64T).slice.pair Ty.unit))).pair ((i64T).slice.pair Ty.unit))))))) 0 true [([116, 114, 97, 110, 115, 65], 2, 0, 1, [], (0, [], [], PUnit.unit), [], PUnit.unit), ([116, 114, 97, 110, 115, 66], 2, 0, 1, [], (0, [], [], PUnit.unit), [], PUnit.unit)]), (2, AObj.arr 9 Ty.str 0 false [[120], [121]])])
                      else 
                        bif !a == d then some (AEnd.ret [(AV.d Ty.str []).pr ((I 0).pr (AV.nils.pr (AV.d Ty.unit PUnit.unit))), I 4], [(0, AObj.arr 25 ((i64T).pair ((i64T).slice.pair ((i64T).slice.pair Ty.unit))) 0 false [(t1, [a, b], x, PUnit.unit), (t2, [c, d], y, PUnit.unit)]), (1, AObj.arr 37 (Ty.str.pair ((i64T).pair ((i64T).pair ((i64T).pair (Ty.str.pair (((i64T).pair ((i64T).slice.pair ((i64T).slice.pair Ty.unit))).pair ((i64T).slice.pair Ty.unit))))))) 0 true [([116, 114, 97, 110, 115, 65], 2, 0, 1, [], (0, [], [], PUnit.unit), [], PUnit.unit), ([116, 114, 97, 110, 115, 66], 2, 0, 1, [], (0, [], [], PUnit.unit), [], PUnit.unit)]), (2, AObj.arr 9 Ty.str 0 false [[120], [121]])])
                        else 
                          bif countE [b, c] != 0 then some (AEnd.ret [(AV.d Ty.str []).pr ((I 0).pr (AV.nils.pr (AV.d Ty.unit PUnit.unit))), I (countE [b, c])], [(0, AObj.arr 25 ((i64T).pair ((i64T).slice.pair ((i64T).slice.pair Ty.unit))) 0 false [(t1, [a, b], x, PUnit.unit), (t2, [c, d], y, PUnit.unit)]), (1, AObj.arr 37 (Ty.str.pair ((i64T).pair ((i64T).pair ((i64T).pair (Ty.str.pair (((i64T).pair ((i64T).slice.pair ((i64T).slice.pair Ty.unit))).pair ((i64T).slice.pair Ty.unit))))))) 0 true [([116, 114, 97, 110, 115, 65], 2, 0, 1, [], (0, [], [], PUnit.unit), [], PUnit.unit), ([116, 114, 97, 110, 115, 66], 2, 0, 1, [], (0, [], [], PUnit.unit), [], PUnit.unit)]), (2, AObj.arr 9 Ty.str 0 false [[120], [121]])])
                          else some (AEnd.ret [(AV.d Ty.str [122]).pr ((I t1).pr ((AV.os 3 0).pr (AV.d Ty.unit PUnit.unit))), I 0], [(0, AObj.arr 25 ((i64T).pair ((i64T).slice.pair ((i64T).slice.pair Ty.unit))) 0 false [(t1, [a, b], x, PUnit.unit), (t2, [c, d], y, PUnit.unit)]), (1, AObj.arr 37 (Ty.str.pair ((i64T).pair ((i64T).pair ((i64T).pair (Ty.str.pair (((i64T).pair ((i64T).slice.pair ((i64T).slice.pair Ty.unit))).pair ((i64T).slice.pair Ty.unit))))))) 0 true [([116, 114, 97, 110, 115, 65], 2, 0, 1, [], (0, [], [], PUnit.unit), [], PUnit.unit), ([116, 114, 97, 110, 115, 66], 2, 0, 1, [], (0, [], [], PUnit.unit), [], PUnit.unit)]), (2, AObj.arr 9 Ty.str 0 false [[120], [121]]), (3, AObj.arr 3 (i64T) 0 false [b, c])])
                  else 
                    bif t1 != 1 then some (AEnd.ret [(AV.d Ty.str []).pr ((I 0).pr (AV.nils.pr (AV.d Ty.unit PUnit.unit))), I 4], [(0, AObj.arr 25 ((i64T).pair ((i64T).slice.pair ((i64T).slice.pair Ty.unit))) 0 false [(t1, [a, b], x, PUnit.unit), (t2, [c, d], y, PUnit.unit)]), (1, AObj.arr 37 (Ty.str.pair ((i64T).pair ((i64T).pair ((i64T).pair (Ty.str.pair (((i64T).pair ((i64T).slice.pair ((i64T).slice.pair Ty.unit))).pair ((i64T).slice.pair Ty.unit))))))) 0 true [([116, 114, 97, 110, 115, 65], 2, 0, 1, [], (0, [], [], PUnit.unit), [], PUnit.unit), ([116, 114, 97, 110, 115, 66], 2, 0, 1, [], (0, [], [], PUnit.unit), [], PUnit.unit)]), (2, AObj.arr 9 Ty.str 0 false [[120], [121]])])
                    else 
                      bif t2 != 1 then some (AEnd.ret [(AV.d Ty.str []).pr ((I 0).pr (AV.nils.pr (AV.d Ty.unit PUnit.unit))), I 4], [(0, AObj.arr 25 ((i64T).pair ((i64T).slice.pair ((i64T).slice.pair Ty.unit))) 0 false [(t1, [a, b], x, PUnit.unit), (t2, [c, d], y, PUnit.unit)]), (1, AObj.arr 37 (Ty.str.pair ((i64T).pair ((i64T).pair ((i64T).pair (Ty.str.pair (((i64T).pair ((i64T).slice.pair ((i64T).slice.pair Ty.unit))).pair ((i64T).slice.pair Ty.unit))))))) 0 true [([116, 114, 97, 110, 115, 65], 2, 0, 1, [], (0, [], [], PUnit.unit), [], PUnit.unit), ([116, 114, 97, 110, 115, 66], 2, 0, 1, [], (0, [], [], PUnit.unit), [], PUnit.unit)]), (2, AObj.arr 9 Ty.str 0 false [[120], [121]])])
                      else 
                        bif !a == d then some (AEnd.ret [(AV.d Ty.str []).pr ((I 0).pr (AV.nils.pr (AV.d Ty.unit PUnit.unit))), I 4], [(0, AObj.arr 25 ((i64T).pair ((i64T).slice.pair ((i64T).slice.pair Ty.unit))) 0 false [(t1, [a, b], x, PUnit.unit), (t2, [c, d], y, PUnit.unit)]), (1, AObj.arr 37 (Ty.str.pair ((i64T).pair ((i64T).pair ((i64T).pair (Ty.str.pair (((i64T).pair ((i64T).slice.pair ((i64T).slice.pair Ty.unit))).pair ((i64T).slice.pair Ty.unit))))))) 0 true [([116, 114, 97, 110, 115, 65], 2, 0, 1, [], (0, [], [], PUnit.unit), [], PUnit.unit), ([116, 114, 97, 110, 115, 66], 2, 0, 1, [], (0, [], [], PUnit.unit), [], PUnit.unit)]), (2, AObj.arr 9 Ty.str 0 false [[120], [121]])])
                        else 
                          bif countE [b, c] != 0 then some (AEnd.ret [(AV.d Ty.str []).pr ((I 0).pr (AV.nils.pr (AV.d Ty.unit PUnit.unit))), I (countE [b, c])], [(0, AObj.arr 25 ((i64T).pair ((i64T).slice.pair ((i64T).slice.pair Ty.unit))) 0 false [(t1, [a, b], x, PUnit.unit), (t2, [c, d], y, PUnit.unit)]), (1, AObj.arr 37 (Ty.str.pair ((i64T).pair ((i64T).pair ((i64T).pair (Ty.str.pair (((i64T).pair ((i64T).slice.pair ((i64T).slice.pair Ty.unit))).pair ((i64T).slice.pair Ty.unit))))))) 0 true [([116, 114, 97, 110, 115, 65], 2, 0, 1, [], (0, [], [], PUnit.unit), [], PUnit.unit), ([116, 114, 97, 110, 115, 66], 2, 0, 1, [], (0, [], [], PUnit.unit), [], PUnit.unit)]), (2, AObj.arr 9 Ty.str 0 false [[120], [121]])])
                          else some (AEnd.ret [(AV.d Ty.str [122]).pr ((I t1).pr ((AV.os 3 0).pr (AV.d Ty.unit PUnit.unit))), I 0], [(0, AObj.arr 25 ((i64T).pair ((i64T).slice.pair ((i64T).slice.pair Ty.unit))) 0 false [(t1, [a, b], x, PUnit.unit), (t2, [c, d], y, PUnit.unit)]), (1, AObj.arr 37 (Ty.str.pair ((i64T).pair ((i64T).pair ((i64T).pair (Ty.str.pair (((i64T).pair ((i64T).slice.pair ((i64T).slice.pair Ty.unit))).pair ((i64T).slice.pair Ty.unit))))))) 0 true [([116, 114, 97, 110, 115, 65], 2, 0, 1, [], (0, [], [], PUnit.unit), [], PUnit.unit), ([116, 114, 97, 110, 115, 66], 2, 0, 1, [], (0, [], [], PUnit.unit), [], PUnit.unit)]), (2, AObj.arr 9 Ty.str 0 false [[120], [121]]), (3, AObj.arr 3 (i64T) 0 false [b, c])])
      else none
  else none := by kernel_rfl
end Go.Proofs.XGT
/- linear.begin of a Gemm that turns both, told; linear.Do of it: run. -/
namespace Go.Proofs.XGT
open Go.Vm Go
set_option maxRecDepth 100000
set_option maxHeartbeats 4000000
def bgfE (t1 a b t2 c d : Int) : Int := bif t1 != 1 then 4 else bif t2 != 1 then 4 else bif !a == d then 4 else countE [b, c]
def tens2 (t1 a b : Int) (x : List Int) (t2 c d : Int) (y : List Int) : Bool := decide ((x.length ≤ maxLen ∧ y.length ≤ maxLen) ∧ tenE t1 [a, b] x = 0 ∧ tenE t2 [c, d] y = 0)
def hpFd (t1 a b : Int) (x : List Int) (t2 c d : Int) (y : List Int) : LHp := hpF true t1 [a, b] x t2 [c, d] y ++ [(3, .arr 3 i64T 0 false [b, c])]
theorem bgf_run {t1 a b t2 c d : Int} {x y : List Int} (h : tens2 t1 a b x t2 c d y = true) : runC gBf Tryz.f39 6 [(3, [2, 4, 6, 9, 10, 11])] [nodeA strGM [] [122] (.os 2 0) (.os 1 0), .os 0 0] (hpF false t1 [a, b] x t2 [c, d] y) ah =
    bif bgfE t1 a b t2 c d != 0 then some (.ret [zeroV, I (bgfE t1 a b t2 c d)], hpF true t1 [a, b] x t2 [c, d] y) else some (.ret [(AV.d Ty.str [122]).pr ((I t1).pr ((AV.os 3 0).pr (AV.d Ty.unit PUnit.unit))), I 0], hpFd t1 a b x t2 c d y) := by
  obtain ⟨⟨h1, h2⟩, e1, e2⟩ := of_decide_eq_true h
  rw [bgf_eq, decide_eq_true (show 2 ≤ 9223372036854775807 ∧ x.length ≤ 9223372036854775807 from ⟨by decide, h1⟩), decide_eq_true (show 2 ≤ 9223372036854775807 ∧ y.length ≤ 9223372036854775807 from ⟨by decide, h2⟩)]
  obtain ⟨n1, n2, _⟩ := ten_ok e1
  obtain ⟨m1, m2, _⟩ := ten_ok e2
  rw [e1, e2, n1, n2, m1, m2]
  unfold bgfE
  cases t1 == 6 <;> cases t1 != 1 <;> cases t2 != 1 <;> cases !a == d <;> first | rfl | (cases h : countE [b, c] != 0 <;> simp only [cond_true, cond_false, Bool.not_true, bne_self_eq_false, h] <;> rfl)
def bgfT : List AV → LHp → Tq
  | [n, .os 0 0], [(0, .arr 25 ((.pair (.int .i64) (.pair (.slice (.int .i64)) (.pair (.slice (.int .i64)) .unit)))) 0 false [(t1, [a, b], x, ()), (t2, [c, d], y, ())]), (1, .arr 37 ((.pair .str (.pair (.int .i64) (.pair (.int .i64) (.pair (.int .i64) (.pair .str (.pair (.pair (.int .i64) (.pair (.slice (.int .i64)) (.pair (.slice (.int .i64)) .unit))) (.pair (.slice (.int .i64)) .unit)))))))) 0 false [a1, a2]), (2, .arr 9 .str 0 false ins)] =>
    (match nodeP n with
    | some (op, nm, out, .os 2 0, .os 1 0) => gate (decide (op = strGM) && decide (nm = []) && decide (out = [122]) && decide (ins = [[120], [121]]) && (isInt a1 strTA 1 && isInt a2 strTB 1))
        (.br (tens2 t1 a b x t2 c d y) (.br (bgfE t1 a b t2 c d != 0) (.leaf (.ret [zeroV, I (bgfE t1 a b t2 c d)]) (hpF true t1 [a, b] x t2 [c, d] y)) (.leaf (.ret [(AV.d Ty.str [122]).pr ((I t1).pr ((AV.os 3 0).pr (AV.d Ty.unit PUnit.unit))), I 0]) (hpFd t1 a b x t2 c d y))) .no)
    | _ => .no)
  | _, _ => .no
theorem bgfT_ok : FnE.OK e0.P e0.gam 39 (treeE bgfT) := by
  have h1 : FnE.OK e0.P e0.gam 39 (execFnC gBf Tryz.f39 6 [(3, [2, 4, 6, 9, 10, 11])]) := execFnC_ok gBf_good hmix Tryz.func39 Tryz.call39 (by decide +kernel) rfl
  refine ⟨fun _ _ _ => Tq.eq _ _, fun args hs ae hs' h => ?_⟩
  have h' : (bgfT args hs).run ah = some (ae, hs') := h
  clear h
  unfold bgfT at h'
  split at h'
  · split at h'
    · rename_i hn
      rw [nodeP_some hn]
      obtain ⟨hb, h2⟩ := gate_run h'
      clear h'
      simp only [Bool.and_eq_true, decide_eq_true_eq] at hb
      obtain ⟨⟨⟨⟨b1, b2⟩, b3⟩, b4⟩, b5, b6⟩ := hb
      subst b1 b2 b3 b4
      rw [isInt_eq b5, isInt_eq b6]
      obtain ⟨hl, h3⟩ := Tq.br_no h2
      exact h1.okC ((bgf_run hl).trans h3)
    · cases h'
  · cases h'
noncomputable def C_ldf : Code := codeOf Tryz.f23
noncomputable def cf_ldf : Cfg := ⟨43, 6, 3, [], true⟩
noncomputable def gLf : Env := (g203.add 39 (treeE bgfT)).add 41 (treeE gmfT)
theorem gLf_good : gLf.Good := (g203_good.add bgfT_ok).add gmfT_ok
theorem ldf_eq (t1 a b t2 c d : Int) (x y : List Int) : runC gLf Tryz.f23 6 [] [nodeA strGM [] [122] (.os 2 0) (.os 1 0), .os 0 0] (hpF false t1 [a, b] x t2 [c, d] y) ah =
  bif tens2 t1 a b x t2 c d y then 
    bif bgfE t1 a b t2 c d != 0 then 
      bif bgfE t1 a b t2 c d != 0 then some (AEnd.ret [(I 0).pr (AV.nils.pr (AV.nils.pr (AV.d Ty.unit PUnit.unit))), I (bgfE t1 a b t2 c d)], [(0, AObj.arr 25 ((i64T).pair ((i64T).slice.pair ((i64T).slice.pair Ty.unit))) 0 false [(t1, [a, b], x, PUnit.unit), (t2, [c, d], y, PUnit.unit)]), (1, AObj.arr 37 (Ty.str.pair ((i64T).pair ((i64T).pair ((i64T).pair (Ty.str.pair (((i64T).pair ((i64T).slice.pair ((i64T).slice.pair Ty.unit))).pair ((i64T).slice.pair Ty.unit))))))) 0 true [([116, 114, 97, 110, 115, 65], 2, 0, 1, [], (0, [], [], PUnit.unit), [], PUnit.unit), ([116, 114, 97, 110, 115, 66], 2, 0, 1, [], (0, [], [], PUnit.unit), [], PUnit.unit)]), (2, AObj.arr 9 Ty.str 0 false [[120], [121]])])
      else none
    else 
      bif gfOk a b c d x y then some (AEnd.ret [(I t1).pr ((AV.os 3 0).pr ((AV.os 4 0).pr (AV.d Ty.unit PUnit.unit))), I 0], [(0, AObj.arr 25 ((i64T).pair ((i64T).slice.pair ((i64T).slice.pair Ty.unit))) 0 false [(t1, [a, b], x, PUnit.unit), (t2, [c, d], y, PUnit.unit)]), (1, AObj.arr 37 (Ty.str.pair ((i64T).pair ((i64T).pair ((i64T).pair (Ty.str.pair (((i64T).pair ((i64T).slice.pair ((i64T).slice.pair Ty.unit))).pair ((i64T).slice.pair Ty.unit))))))) 0 true [([116, 114, 97, 110, 115, 65], 2, 0, 1, [], (0, [], [], PUnit.unit), [], PUnit.unit), ([116, 114, 97, 110, 115, 66], 2, 0, 1, [], (0, [], [], PUnit.unit), [], PUnit.unit)]), (2, AObj.arr 9 Ty.str 0 false [[120], [121]]), (3, AObj.arr 3 (i64T) 0 false [b, c]), (4, AObj.arr 2 (i64T) 0 false (gfL a b c d x y))])
      else none
  else none := by kernel_rfl
end Go.Proofs.XGT
/- move.begin of a Transpose of a matrix. -/
namespace Go.Proofs.XGT
open Go.Vm Go
set_option maxRecDepth 100000
set_option maxHeartbeats 4000000
noncomputable def C_mbg : Code := codeOf Tryz.f42
noncomputable def cf_mbg : Cfg := ⟨33, 6, 2, [(3, [2, 4, 6, 9, 10, 11])], true⟩
def hpTr (t : Int) (d x : List Int) : LHp := [(0, .arr 25 (Y0) 0 false [(t, d, x, ())]), (1, .arr 9 .str 0 false [[120]])]
theorem mbg_eq (t a b : Int) (x : List Int) : runC g212 Tryz.f42 6 [(3, [2, 4, 6, 9, 10, 11])] [nodeA strTR [] [121] (.os 1 0) .nils, .os 0 0] (hpTr t [a, b] x) ah =
  bif decide (2 ≤ 9223372036854775807 ∧ x.length ≤ 9223372036854775807) then 
    bif tenE t [a, b] x != 0 then some (AEnd.ret [(AV.d Ty.str []).pr ((I 0).pr (AV.nils.pr (AV.d Ty.unit PUnit.unit))), I 1], [(0, AObj.arr 25 ((i64T).pair ((i64T).slice.pair ((i64T).slice.pair Ty.unit))) 0 false [(t, [a, b], x, PUnit.unit)]), (1, AObj.arr 9 Ty.str 0 false [[120]])])
    else 
      bif !numOk t 0 then some (AEnd.ret [(AV.d Ty.str []).pr ((I 0).pr (AV.nils.pr (AV.d Ty.unit PUnit.unit))), I 5], [(0, AObj.arr 25 ((i64T).pair ((i64T).slice.pair ((i64T).slice.pair Ty.unit))) 0 false [(t, [a, b], x, PUnit.unit)]), (1, AObj.arr 9 Ty.str 0 false [[120]])])
      else 
        bif countE [a, b] != 0 then some (AEnd.ret [(AV.d Ty.str []).pr ((I 0).pr (AV.nils.pr (AV.d Ty.unit PUnit.unit))), I (countE [a, b])], [(0, AObj.arr 25 ((i64T).pair ((i64T).slice.pair ((i64T).slice.pair Ty.unit))) 0 false [(t, [a, b], x, PUnit.unit)]), (1, AObj.arr 9 Ty.str 0 false [[120]])])
        else 
          bif t == 6 then 
            bif countE [b, a] != 0 then some (AEnd.ret [(AV.d Ty.str []).pr ((I 0).pr (AV.nils.pr (AV.d Ty.unit PUnit.unit))), I (countE [b, a])], [(0, AObj.arr 25 ((i64T).pair ((i64T).slice.pair ((i64T).slice.pair Ty.unit))) 0 false [(t, [a, b], x, PUnit.unit)]), (1, AObj.arr 9 Ty.str 0 false [[120]])])
            else some (AEnd.ret [(AV.d Ty.str [121]).pr ((I t).pr ((AV.os 2 0).pr (AV.d Ty.unit PUnit.unit))), I 0], [(0, AObj.arr 25 ((i64T).pair ((i64T).slice.pair ((i64T).slice.pair Ty.unit))) 0 false [(t, [a, b], x, PUnit.unit)]), (1, AObj.arr 9 Ty.str 0 false [[120]]), (2, AObj.arr 3 (i64T) 0 false [b, a])])
          else 
            bif countE [b, a] != 0 then some (AEnd.ret [(AV.d Ty.str []).pr ((I 0).pr (AV.nils.pr (AV.d Ty.unit PUnit.unit))), I (countE [b, a])], [(0, AObj.arr 25 ((i64T).pair ((i64T).slice.pair ((i64T).slice.pair Ty.unit))) 0 false [(t, [a, b], x, PUnit.unit)]), (1, AObj.arr 9 Ty.str 0 false [[120]])])
            else some (AEnd.ret [(AV.d Ty.str [121]).pr ((I t).pr ((AV.os 2 0).pr (AV.d Ty.unit PUnit.unit))), I 0], [(0, AObj.arr 25 ((i64T).pair ((i64T).slice.pair ((i64T).slice.pair Ty.unit))) 0 false [(t, [a, b], x, PUnit.unit)]), (1, AObj.arr 9 Ty.str 0 false [[120]]), (2, AObj.arr 3 (i64T) 0 false [b, a])])
  else none := by kernel_rfl
noncomputable def C_mrd : Code := codeOf Tryz.f46
noncomputable def cf_mrd : Cfg := ⟨15, 4, 2, [], true⟩
noncomputable def gMr : Env := g214.add 79 (treeE reaT2)
theorem gMr_good : gMr.Good := g214_good.add reaT2_ok
noncomputable def rdE : FnE := execFnC gMr Tryz.f46 4 []
theorem rdE_ok : FnE.OK e0.P e0.gam 46 rdE := execFnC_ok gMr_good hmix Tryz.func46 Tryz.call46 (by decide +kernel) rfl
noncomputable def C_mtp : Code := codeOf Tryz.f47
noncomputable def cf_mtp : Cfg := ⟨46, 6, 1, [(3, [2, 3, 5, 14, 15]), (9, [3, 7, 25, 26, 27])], true⟩
noncomputable def gMt : Env := g215.add 46 rdE
theorem gMt_good : gMt.Good := g215_good.add rdE_ok
theorem mtp_eq (t a b : Int) (x : List Int) : runC gMt Tryz.f47 6 [(3, [2, 3, 5, 14, 15]), (9, [3, 7, 25, 26, 27])] [nodeA strTR [] [121] (.os 0 0) .nils, .d (Y0) (t, [a, b], x, ())] [(0, .arr 9 .str 0 false [[120]])] ah =
  bif countE [a, b] != 0 then 
    bif countE [a, b] != 0 then none
    else 
      bif countE [a, b] == 0 then none
      else none
  else 
    bif countE [a, b] == 0 then 
      bif decide (IntKind.i64.wrap (1 * b) < 0) then none
      else 
        bif decide (IntKind.i64.wrap (1 * b) > 65536) then none
        else 
          bif okR2 0 1 (IntKind.i64.wrap (1 * b)) b a x then some (AEnd.ret [AV.os 1 0], [(0, AObj.arr 9 Ty.str 0 false [[120]]), (1, AObj.arr 2 (i64T) 0 false (rd2 0 1 (IntKind.i64.wrap (1 * b)) b a x))])
          else none
    else none := by kernel_rfl
end Go.Proofs.XGT
/- move.transpose and move.begin of a matrix, told; move.Do: run. -/
namespace Go.Proofs.XGT
open Go.Vm Go
set_option maxRecDepth 100000
set_option maxHeartbeats 4000000
theorem prod2 (u v : Int) : prodI [u, v] = u * v := by show 1 * u * v = u * v; rw [Int.one_mul]
theorem count_turn {a b : Int} (h : countE [a, b] = 0) : countE [b, a] = 0 := by
  obtain ⟨p1, _, p3, _⟩ := count_ok h
  rw [prod2] at p3
  exact (countE_mk (xs := [b, a]) (fun v hv => by
    simp only [List.mem_cons, List.not_mem_nil, or_false] at hv
    rcases hv with rfl | rfl
    · exact p1 _ (by simp)
    · exact p1 _ (by simp)) (by simp) (by rw [prod2, Int.mul_comm]; exact p3)).1
theorem ten2_ok {t a b : Int} {x : List Int} (h : tenE t [a, b] x = 0) : ∃ A B : Nat, a = A ∧ b = B ∧ 1 ≤ A ∧ 1 ≤ B ∧ A * B ≤ 65536 ∧ x.length = A * B ∧ numOk t 0 = true ∧ countE [(A : Int), (B : Int)] = 0 ∧ ∀ v ∈ x, numOk t v = true := by
  obtain ⟨n1, n2, n3, n4⟩ := ten_ok h
  obtain ⟨p1, _, p3, p4⟩ := count_ok n2
  rw [p4] at n3
  rw [prod2] at p3 n3
  have ha := p1 a (by simp)
  have hb := p1 b (by simp)
  obtain ⟨A, rfl⟩ := Int.eq_ofNat_of_zero_le (show (0 : Int) ≤ a by omega)
  obtain ⟨B, rfl⟩ := Int.eq_ofNat_of_zero_le (show (0 : Int) ≤ b by omega)
  rw [← Int.natCast_mul] at p3 n3
  exact ⟨A, B, rfl, rfl, by omega, by omega, by omega, by omega, n1, n2, n4⟩
theorem okTn_of {t a b : Int} {x : List Int} (h : tenE t [a, b] x = 0) : okTn a b x = true := by
  obtain ⟨A, B, rfl, rfl, hA, hB, hm, hl, _, hc, _⟩ := ten2_ok h
  have h1 : B ≤ A * B := Nat.le_mul_of_pos_left _ (by omega)
  have h2 : A ≤ A * B := Nat.le_mul_of_pos_right _ (by omega)
  have h3 : (A - 1) * B + B = A * B := by
    obtain ⟨k, rfl⟩ : ∃ k, A = k + 1 := ⟨A - 1, by omega⟩
    rw [Nat.add_sub_cancel, Nat.add_mul, Nat.one_mul]
  unfold okTn okR2
  refine decide_eq_true ⟨hc, by omega, by omega, decide_eq_true ⟨⟨by omega, by omega, by omega, by omega, by omega, by omega⟩, ⟨by omega, by omega, ?_, count_turn hc⟩, ?_⟩⟩
  · simp only [Int.toNat_natCast]
    rw [Nat.mul_comm]
    exact hm
  · simp only [Int.toNat_natCast, Int.toNat_zero, Int.toNat_one, Nat.mul_one, Nat.zero_add]
    omega
theorem mtp_run {t a b : Int} {x : List Int} (h : okTn a b x = true) : runC gMt Tryz.f47 6 [(3, [2, 3, 5, 14, 15]), (9, [3, 7, 25, 26, 27])] [nodeA strTR [] [121] (.os 0 0) .nils, .d (Y0) (t, [a, b], x, ())] [(0, .arr 9 .str 0 false [[120]])] ah = some (.ret [.os 1 0], [(0, .arr 9 .str 0 false [[120]]), (1, .arr 2 i64T 0 false (turnL a b x))]) := by
  obtain ⟨c1, c2, c3, c4⟩ := of_decide_eq_true h
  refine (mtp_eq t a b x).trans ?_
  have w : IntKind.i64.wrap (1 * b) = b := by rw [Int.one_mul]; exact wrap64 (by omega) (by omega)
  rw [w, c1, decide_eq_false (show ¬ b < 0 by omega), decide_eq_false (show ¬ b > 65536 by omega), c4]
  rfl
def mtpT : List AV → LHp → Tq
  | [n, .d ((.pair (.int .i64) (.pair (.slice (.int .i64)) (.pair (.slice (.int .i64)) .unit)))) (_, [a, b], x, ())], [(0, .arr 9 .str 0 false ins)] =>
    (match nodeP n with
    | some (op, nm, out, .os 0 0, .nils) => gate (decide (op = strTR) && decide (nm = []) && decide (out = [121]) && decide (ins = [[120]]))
        (.br (okTn a b x) (.leaf (.ret [.os 1 0]) [(0, .arr 9 .str 0 false [[120]]), (1, .arr 2 i64T 0 false (turnL a b x))]) .no)
    | _ => .no)
  | _, _ => .no
theorem mtpT_ok : FnE.OK e0.P e0.gam 47 (treeE mtpT) := by
  have h1 : FnE.OK e0.P e0.gam 47 (execFnC gMt Tryz.f47 6 [(3, [2, 3, 5, 14, 15]), (9, [3, 7, 25, 26, 27])]) := execFnC_ok gMt_good hmix Tryz.func47 Tryz.call47 (by decide +kernel) rfl
  refine ⟨fun _ _ _ => Tq.eq _ _, fun args hs ae hs' h => ?_⟩
  have h' : (mtpT args hs).run ah = some (ae, hs') := h
  clear h
  unfold mtpT at h'
  split at h'
  · split at h'
    · rename_i hn
      rw [nodeP_some hn]
      obtain ⟨hb, h2⟩ := gate_run h'
      clear h'
      simp only [Bool.and_eq_true, decide_eq_true_eq] at hb
      obtain ⟨⟨⟨b1, b2⟩, b3⟩, b4⟩ := hb
      subst b1 b2 b3 b4
      obtain ⟨hl, h3⟩ := Tq.br_no h2
      cases h3
      exact h1.okC (mtp_run hl)
    · cases h'
  · cases h'
def mbgE (t a b : Int) (x : List Int) : Int := bif tenE t [a, b] x != 0 then 1 else 0
theorem mbg_run {t a b : Int} {x : List Int} (h : x.length ≤ maxLen) : runC g212 Tryz.f42 6 [(3, [2, 4, 6, 9, 10, 11])] [nodeA strTR [] [121] (.os 1 0) .nils, .os 0 0] (hpTr t [a, b] x) ah =
    bif mbgE t a b x != 0 then some (.ret [zeroV, I (mbgE t a b x)], hpTr t [a, b] x) else some (.ret [(AV.d Ty.str [121]).pr ((I t).pr ((AV.os 2 0).pr (AV.d Ty.unit PUnit.unit))), I 0], hpTr t [a, b] x ++ [(2, .arr 3 i64T 0 false [b, a])]) := by
  rw [mbg_eq, decide_eq_true (show 2 ≤ 9223372036854775807 ∧ x.length ≤ 9223372036854775807 from ⟨by decide, h⟩)]
  unfold mbgE
  cases e1 : tenE t [a, b] x != 0 with
  | true => rfl
  | false =>
    have e0 : tenE t [a, b] x = 0 := by simpa using e1
    obtain ⟨n1, n2, _⟩ := ten_ok e0
    rw [n1, n2, count_turn n2]
    cases t == 6 <;> rfl
def mbgT : List AV → LHp → Tq
  | [n, .os 0 0], [(0, .arr 25 ((.pair (.int .i64) (.pair (.slice (.int .i64)) (.pair (.slice (.int .i64)) .unit)))) 0 false [(t, [a, b], x, ())]), (1, .arr 9 .str 0 false ins)] =>
    (match nodeP n with
    | some (op, nm, out, .os 1 0, .nils) => gate (decide (op = strTR) && decide (nm = []) && decide (out = [121]) && decide (ins = [[120]]))
        (.br (decide (x.length ≤ maxLen)) (.br (mbgE t a b x != 0) (.leaf (.ret [zeroV, I (mbgE t a b x)]) (hpTr t [a, b] x)) (.leaf (.ret [(AV.d Ty.str [121]).pr ((I t).pr ((AV.os 2 0).pr (AV.d Ty.unit PUnit.unit))), I 0]) (hpTr t [a, b] x ++ [(2, .arr 3 i64T 0 false [b, a])]))) .no)
    | _ => .no)
  | _, _ => .no
theorem mbgT_ok : FnE.OK e0.P e0.gam 42 (treeE mbgT) := by
  have h1 : FnE.OK e0.P e0.gam 42 (execFnC g212 Tryz.f42 6 [(3, [2, 4, 6, 9, 10, 11])]) := y42_ok
  refine ⟨fun _ _ _ => Tq.eq _ _, fun args hs ae hs' h => ?_⟩
  have h' : (mbgT args hs).run ah = some (ae, hs') := h
  clear h
  unfold mbgT at h'
  split at h'
  · split at h'
    · rename_i hn
      rw [nodeP_some hn]
      obtain ⟨hb, h2⟩ := gate_run h'
      clear h'
      simp only [Bool.and_eq_true, decide_eq_true_eq] at hb
      obtain ⟨⟨⟨b1, b2⟩, b3⟩, b4⟩ := hb
      subst b1 b2 b3 b4
      obtain ⟨hl, h3⟩ := Tq.br_no h2
      exact h1.okC ((mbg_run (of_decide_eq_true hl)).trans h3)
    · cases h'
  · cases h'
noncomputable def C_mdo : Code := codeOf Tryz.f27
noncomputable def cf_mdo : Cfg := ⟨123, 7, 2, [], true⟩
noncomputable def gMd : Env := (g227.add 42 (treeE mbgT)).add 47 (treeE mtpT)
theorem gMd_good : gMd.Good := (g227_good.add mbgT_ok).add mtpT_ok
theorem mdo_eq (t a b : Int) (x : List Int) : runC gMd Tryz.f27 7 [] [nodeA strTR [] [121] (.os 1 0) .nils, .os 0 0] (hpTr t [a, b] x) ah =
  bif decide (x.length ≤ 9223372036854775807) then 
    bif mbgE t a b x != 0 then 
      bif mbgE t a b x != 0 then some (AEnd.ret [(I 0).pr (AV.nils.pr (AV.nils.pr (AV.d Ty.unit PUnit.unit))), I (mbgE t a b x)], [(0, AObj.arr 25 ((i64T).pair ((i64T).slice.pair ((i64T).slice.pair Ty.unit))) 0 false [(t, [a, b], x, PUnit.unit)]), (1, AObj.arr 9 Ty.str 0 false [[120]])])
      else 
        bif okTn a b x then some (AEnd.ret [(I 0).pr (AV.nils.pr ((AV.os 2 0).pr (AV.d Ty.unit PUnit.unit))), I 0], [(0, AObj.arr 25 ((i64T).pair ((i64T).slice.pair ((i64T).slice.pair Ty.unit))) 0 false [(t, [a, b], x, PUnit.unit)]), (1, AObj.arr 9 Ty.str 0 false [[120]]), (2, AObj.arr 2 (i64T) 0 false (turnL a b x))])
        else none
    else 
      bif okTn a b x then some (AEnd.ret [(I t).pr ((AV.os 2 0).pr ((AV.os 3 0).pr (AV.d Ty.unit PUnit.unit))), I 0], [(0, AObj.arr 25 ((i64T).pair ((i64T).slice.pair ((i64T).slice.pair Ty.unit))) 0 false [(t, [a, b], x, PUnit.unit)]), (1, AObj.arr 9 Ty.str 0 false [[120]]), (2, AObj.arr 3 (i64T) 0 false [b, a]), (3, AObj.arr 2 (i64T) 0 false (turnL a b x))])
      else none
  else none := by kernel_rfl
end Go.Proofs.XGT
/- linear.Do of a Gemm that turns both, told. -/
namespace Go.Proofs.XGT
open Go.Vm Go
set_option maxRecDepth 100000
set_option maxHeartbeats 1000000
theorem turnL_len (A B : Nat) (x : List Int) : (turnL A B x).length = B * A := by
  unfold turnL rd2
  rw [tab_length, Int.toNat_natCast, Int.toNat_natCast]
theorem gf_ok {t1 a b t2 c d : Int} {x y : List Int} (h : tens2 t1 a b x t2 c d y = true) (he : bgfE t1 a b t2 c d = 0) : gfOk a b c d x y = true := by
  obtain ⟨_, e1, e2⟩ := of_decide_eq_true h
  unfold bgfE at he
  cases q1 : t1 != 1 with
  | true => rw [q1] at he; exact absurd (show (4 : Int) = 0 from he) (by decide)
  | false =>
    cases q2 : t2 != 1 with
    | true => rw [q1, q2] at he; exact absurd (show (4 : Int) = 0 from he) (by decide)
    | false =>
      cases q3 : !a == d with
      | true => rw [q1, q2, q3] at he; exact absurd (show (4 : Int) = 0 from he) (by decide)
      | false =>
        rw [q1, q2, q3] at he
        have he : countE [b, c] = 0 := he
        have had : a = d := by simpa using q3
        subst had
        unfold gfOk
        rw [okTn_of e1, okTn_of e2, Bool.true_and, Bool.true_and]
        obtain ⟨A, B, rfl, rfl, hA, hB, hm, hl, _⟩ := ten2_ok e1
        obtain ⟨C, A', rfl, hA', hC, _, hm2, hl2, _⟩ := ten2_ok e2
        have hA' : A = A' := by omega
        subst hA'
        obtain ⟨_, _, p3, _⟩ := count_ok he
        rw [prod2, ← Int.natCast_mul] at p3
        have h2 : A ≤ A * B := Nat.le_mul_of_pos_right _ (by omega)
        unfold prdOk
        refine decide_eq_true ⟨⟨by omega, by omega, rfl, by omega⟩, by omega, ?_, ?_, ?_, ?_, ?_⟩ <;> simp only [Int.toNat_natCast, turnL_len]
        · omega
        · rw [Nat.mul_comm]; exact hm
        · rw [Nat.mul_comm]; exact hm2
theorem ldf_run {t1 a b t2 c d : Int} {x y : List Int} (h : tens2 t1 a b x t2 c d y = true) : runC gLf Tryz.f23 6 [] [nodeA strGM [] [122] (.os 2 0) (.os 1 0), .os 0 0] (hpF false t1 [a, b] x t2 [c, d] y) ah =
    bif bgfE t1 a b t2 c d != 0 then some (.ret [zeroTL, I (bgfE t1 a b t2 c d)], hpF true t1 [a, b] x t2 [c, d] y) else some (.ret [(I t1).pr ((AV.os 3 0).pr ((AV.os 4 0).pr (AV.d Ty.unit PUnit.unit))), I 0], hpFd t1 a b x t2 c d y ++ [(4, .arr 2 i64T 0 false (gfL a b c d x y))]) := by
  rw [ldf_eq, h]
  cases hb : bgfE t1 a b t2 c d != 0 with
  | true => rfl
  | false =>
    rw [gf_ok h (show bgfE t1 a b t2 c d = 0 by simpa using hb)]
    rfl
def ldfT : List AV → LHp → Tq
  | [n, .os 0 0], [(0, .arr 25 ((.pair (.int .i64) (.pair (.slice (.int .i64)) (.pair (.slice (.int .i64)) .unit)))) 0 false [(t1, [a, b], x, ()), (t2, [c, d], y, ())]), (1, .arr 37 ((.pair .str (.pair (.int .i64) (.pair (.int .i64) (.pair (.int .i64) (.pair .str (.pair (.pair (.int .i64) (.pair (.slice (.int .i64)) (.pair (.slice (.int .i64)) .unit))) (.pair (.slice (.int .i64)) .unit)))))))) 0 false [a1, a2]), (2, .arr 9 .str 0 false ins)] =>
    (match nodeP n with
    | some (op, nm, out, .os 2 0, .os 1 0) => gate (decide (op = strGM) && decide (nm = []) && decide (out = [122]) && decide (ins = [[120], [121]]) && (isInt a1 strTA 1 && isInt a2 strTB 1))
        (.br (tens2 t1 a b x t2 c d y) (.br (bgfE t1 a b t2 c d != 0) (.leaf (.ret [zeroTL, I (bgfE t1 a b t2 c d)]) (hpF true t1 [a, b] x t2 [c, d] y)) (.leaf (.ret [(I t1).pr ((AV.os 3 0).pr ((AV.os 4 0).pr (AV.d Ty.unit PUnit.unit))), I 0]) (hpFd t1 a b x t2 c d y ++ [(4, .arr 2 i64T 0 false (gfL a b c d x y))]))) .no)
    | _ => .no)
  | _, _ => .no
theorem ldfT_ok : FnE.OK e0.P e0.gam 23 (treeE ldfT) := by
  have h1 : FnE.OK e0.P e0.gam 23 (execFnC gLf Tryz.f23 6 []) := execFnC_ok gLf_good hmix Tryz.func23 Tryz.call23 (by decide +kernel) rfl
  refine ⟨fun _ _ _ => Tq.eq _ _, fun args hs ae hs' h => ?_⟩
  have h' : (ldfT args hs).run ah = some (ae, hs') := h
  clear h
  unfold ldfT at h'
  split at h'
  · split at h'
    · rename_i hn
      rw [nodeP_some hn]
      obtain ⟨hb, h2⟩ := gate_run h'
      clear h'
      simp only [Bool.and_eq_true, decide_eq_true_eq] at hb
      obtain ⟨⟨⟨⟨b1, b2⟩, b3⟩, b4⟩, b5, b6⟩ := hb
      subst b1 b2 b3 b4
      rw [isInt_eq b5, isInt_eq b6]
      obtain ⟨hl, h3⟩ := Tq.br_no h2
      exact h1.okC ((ldf_run hl).trans h3)
    · cases h'
  · cases h'
def ldoG (a : List AV) (h : LHp) : Tq := orT (ldoF a h) (ldfT a h)
theorem ldoG_ok : FnE.OK e0.P e0.gam 23 (treeE ldoG) := treeE_or ldoF_ok ldfT_ok
end Go.Proofs.XGT
/- move.Do of a Transpose of a matrix, told; the law LinearTurned: its code, run. -/
namespace Go.Proofs.XGT
open Go.Vm Go
set_option maxRecDepth 100000
set_option maxHeartbeats 4000000
theorem mdo_run {t a b : Int} {x : List Int} (h : x.length ≤ maxLen) : runC gMd Tryz.f27 7 [] [nodeA strTR [] [121] (.os 1 0) .nils, .os 0 0] (hpTr t [a, b] x) ah =
    bif mbgE t a b x != 0 then some (.ret [zeroTL, I (mbgE t a b x)], hpTr t [a, b] x) else some (.ret [okTL t, I 0], hpTr t [a, b] x ++ [(2, .arr 3 i64T 0 false [b, a]), (3, .arr 2 i64T 0 false (turnL a b x))]) := by
  rw [mdo_eq, decide_eq_true (show x.length ≤ 9223372036854775807 from h)]
  unfold mbgE
  cases e1 : tenE t [a, b] x != 0 with
  | true => rfl
  | false =>
    rw [okTn_of (show tenE t [a, b] x = 0 by simpa using e1)]
    rfl
def mdoT : List AV → LHp → Tq
  | [n, .os 0 0], [(0, .arr 25 ((.pair (.int .i64) (.pair (.slice (.int .i64)) (.pair (.slice (.int .i64)) .unit)))) 0 false [(t, xd, x, ())]), (1, .arr 9 .str 0 false ins)] =>
    (match nodeP n with
    | some (op, nm, out, .os 1 0, .nils) => gate (decide (op = strTR) && decide (nm = []) && decide (out = [121]) && decide (ins = [[120]]))
        (.opt (two2 xd) fun p => .br (decide (x.length ≤ maxLen)) (.br (mbgE t p.1 p.2 x != 0) (.leaf (.ret [zeroTL, I (mbgE t p.1 p.2 x)]) (hpTr t [p.1, p.2] x)) (.leaf (.ret [okTL t, I 0]) (hpTr t [p.1, p.2] x ++ [(2, .arr 3 i64T 0 false [p.2, p.1]), (3, .arr 2 i64T 0 false (turnL p.1 p.2 x))]))) .no)
    | _ => .no)
  | _, _ => .no
theorem mdoT_ok : FnE.OK e0.P e0.gam 27 (treeE mdoT) := by
  have h1 : FnE.OK e0.P e0.gam 27 (execFnC gMd Tryz.f27 7 []) := execFnC_ok gMd_good hmix Tryz.func27 Tryz.call27 (by decide +kernel) rfl
  refine ⟨fun _ _ _ => Tq.eq _ _, fun args hs ae hs' h => ?_⟩
  have h' : (mdoT args hs).run ah = some (ae, hs') := h
  clear h
  unfold mdoT at h'
  split at h'
  · split at h'
    · rename_i hn
      rw [nodeP_some hn]
      obtain ⟨hb, h2⟩ := gate_run h'
      clear h'
      simp only [Bool.and_eq_true, decide_eq_true_eq] at hb
      obtain ⟨⟨⟨b1, b2⟩, b3⟩, b4⟩ := hb
      subst b1 b2 b3 b4
      simp only [Tq.run] at h2
      obtain ⟨p, hp, h3⟩ := bind_some h2
      clear h2
      rw [two2_some hp]
      have bif_none' : ∀ {c : Bool} {x : Option (AEnd × LHp)} {r : AEnd × LHp}, (bif c then x else none) = some r → c = true ∧ x = some r := fun {c x r} h => by
        cases c with
        | true => exact ⟨rfl, h⟩
        | false => cases h
      obtain ⟨hl, h5⟩ := bif_none' h3
      exact h1.okC ((mdo_run (of_decide_eq_true hl)).trans h5)
    · cases h'
  · cases h'
noncomputable def C_ltu : Code := codeOf Tryz.f14
noncomputable def cf_ltu : Cfg := ⟨89, 7, 0, [], true⟩
noncomputable def gLt : Env := (((g234.add 27 (treeE mdoT)).add 23 (treeE ldoG)).add 18 (treeElse smotF y18)).add 21 (fnE livlF)
theorem gLt_good : gLt.Good := (((g234_good.add mdoT_ok).add ldoG_ok).add (treeElse_ok smotE_ok y18_ok)).add livlE_ok
theorem ltu_eq (t1 t2 : Int) (xd x yd y : List Int) : runC gLt Tryz.f14 7 [] [.d (Y0) (t1, xd, x, ()), .d (Y0) (t2, yd, y, ())] [] ah =
  bif decide (Int.ofNat x.length > 600) then some (AEnd.ret [B true], [])
  else 
    bif decide (Int.ofNat y.length > 600) then some (AEnd.ret [B true], [])
    else 
      bif Int.ofNat xd.length != 2 then some (AEnd.ret [B true], [])
      else 
        bif Int.ofNat yd.length != 2 then some (AEnd.ret [B true], [])
        else (two2 yd).bind fun v4 =>
            bif decide (y.length ≤ 9223372036854775807) then 
              bif mbgE t2 v4.1 v4.2 y != 0 then (two2 xd).bind fun v7 =>
                  bif decide (x.length ≤ 9223372036854775807) then 
                    bif mbgE t1 v7.1 v7.2 x != 0 then 
                      bif mbgE t2 v4.1 v4.2 y != 0 then some (AEnd.ret [B true], [])
                      else 
                        bif mbgE t1 v7.1 v7.2 x != 0 then some (AEnd.ret [B true], [])
                        else none
                    else 
                      bif mbgE t2 v4.1 v4.2 y != 0 then some (AEnd.ret [B true], [])
                      else none
                  else none
              else (two2 xd).bind fun v7 =>
                  bif decide (x.length ≤ 9223372036854775807) then 
                    bif mbgE t1 v7.1 v7.2 x != 0 then 
                      bif mbgE t1 v7.1 v7.2 x != 0 then some (AEnd.ret [B true], [])
                      else none
                    else 
                      bif tens2 t1 v7.2 v7.1 (turnL v7.1 v7.2 x) t2 v4.2 v4.1 (turnL v4.1 v4.2 y) then 
                        bif bgfE t1 v7.2 v7.1 t2 v4.2 v4.1 != 0 then (two2 xd).bind fun v12 =>
                            (two2 yd).bind fun v13 =>
                              bif decide (x.length ≤ 9223372036854775807 ∧ y.length ≤ 9223372036854775807) then 
                                bif bgnE t1 v12.1 v12.2 x t2 v13.1 v13.2 y != 0 then 
                                  bif bgfE t1 v7.2 v7.1 t2 v4.2 v4.1 == bgnE t1 v12.1 v12.2 x t2 v13.1 v13.2 y then some (AEnd.ret [B true], [])
                                  else some (AEnd.ret [B false], [])
                                else 
                                  bif bgfE t1 v7.2 v7.1 t2 v4.2 v4.1 == 0 then 
                                    bif 0 != t1 then some (AEnd.ret [B false], [])
                                    else some (AEnd.ret [B false], [])
                                  else some (AEnd.ret [B false], [])
                              else none
                        else (two2 xd).bind fun v12 =>
                            (two2 yd).bind fun v13 =>
                              bif decide (x.length ≤ 9223372036854775807 ∧ y.length ≤ 9223372036854775807) then 
                                bif bgnE t1 v12.1 v12.2 x t2 v13.1 v13.2 y != 0 then 
                                  bif 0 == bgnE t1 v12.1 v12.2 x t2 v13.1 v13.2 y then 
                                    bif t1 != 0 then some (AEnd.ret [B false], [])
                                    else some (AEnd.ret [B false], [])
                                  else some (AEnd.ret [B false], [])
                                else 
                                  bif decide (2 ≤ 9223372036854775807 ∧ (gfL v7.2 v7.1 v4.2 v4.1 (turnL v7.1 v7.2 x) (turnL v4.1 v4.2 y)).length ≤ 9223372036854775807 ∧ t1 = t1 ∧ [v7.1, v4.2] = [v12.1, v13.2] ∧ gfL v7.2 v7.1 v4.2 v4.1 (turnL v7.1 v7.2 x) (turnL v4.1 v4.2 y) = fMM v12.1 v12.2 v13.2 x y) then some (AEnd.ret [B true], [])
                                  else none
                              else none
                      else none
                  else none
            else none := by kernel_rfl
end Go.Proofs.XGT
/- The law LinearTurned answers true, whatever the tensors. -/
namespace Go.Proofs.XGT
open Go.Vm Go
set_option maxRecDepth 100000
set_option maxHeartbeats 1000000
theorem turnL_get {A B : Nat} {x : List Int} {q : Nat} (h : q < B * A) : (turnL A B x).getD q 0 = x.getD (q / A + q % A * B) 0 := by
  unfold turnL rd2
  rw [Int.toNat_natCast, Int.toNat_natCast, List.getD_eq_getElem?_getD, tab_get h]
  show x.getD (0 + q / A * 1 + q % A * B) 0 = _
  rw [Nat.zero_add, Nat.mul_one]
theorem place_lt {A B q : Nat} (h : q < B * A) : q / A + q % A * B < A * B := by
  have hA : 0 < A := by
    rcases Nat.eq_zero_or_pos A with h0 | h0
    · subst h0; rw [Nat.mul_zero] at h; omega
    · exact h0
  have h1 : q / A < B := Nat.div_lt_of_lt_mul (by rw [Nat.mul_comm]; exact h)
  have h2 : q % A < A := Nat.mod_lt _ hA
  have h3 : (q % A + 1) * B ≤ A * B := Nat.mul_le_mul_right _ h2
  rw [Nat.add_mul, Nat.one_mul] at h3
  omega
theorem turn_turn {A B : Nat} {x : List Int} (hx : x.length = A * B) : turnL B A (turnL A B x) = x := by
  apply List.ext_getElem?
  intro p
  by_cases hp : p < A * B
  · have hB : 0 < B := by
      rcases Nat.eq_zero_or_pos B with h0 | h0
      · subst h0; rw [Nat.mul_zero] at hp; omega
      · exact h0
    have h1 : p / B < A := Nat.div_lt_of_lt_mul (by rw [Nat.mul_comm]; exact hp)
    have h2 : p % B < B := Nat.mod_lt _ hB
    have e : (turnL B A (turnL A B x))[p]? = some ((turnL B A (turnL A B x)).getD p 0) := by
      rw [List.getD_eq_getElem?_getD, List.getElem?_eq_getElem (by rw [turnL_len]; exact hp)]
      rfl
    have hq : p / B + p % B * A < B * A := place_lt (A := B) (B := A) hp
    have hA : 0 < A := Nat.lt_of_le_of_lt (Nat.zero_le _) h1
    have d1 : (p / B + p % B * A) / A = p % B := by
      rw [Nat.mul_comm (p % B) A, Nat.add_mul_div_left _ _ hA, Nat.div_eq_of_lt h1, Nat.zero_add]
    have d2 : (p / B + p % B * A) % A = p / B := by
      rw [Nat.mul_comm (p % B) A, Nat.add_mul_mod_self_left, Nat.mod_eq_of_lt h1]
    rw [e, turnL_get hp, turnL_get hq, d1, d2, Nat.mul_comm (p / B) B, Nat.mod_add_div, List.getD_eq_getElem?_getD, List.getElem?_eq_getElem (by rw [hx]; exact hp)]
    rfl
  · rw [List.getElem?_eq_none (by rw [turnL_len]; omega), List.getElem?_eq_none (by omega)]
theorem ten_turn {t a b : Int} {x : List Int} (h : tenE t [a, b] x = 0) : tenE t [b, a] (turnL a b x) = 0 ∧ (turnL a b x).length ≤ maxLen := by
  obtain ⟨A, B, rfl, rfl, hA, hB, hm, hl, n1, hc, n4⟩ := ten2_ok h
  have hc2 := count_turn hc
  obtain ⟨_, _, _, p4⟩ := count_ok hc2
  rw [prod2] at p4
  have hm2 : B * A ≤ 65536 := by rw [Nat.mul_comm]; exact hm
  have hmx : maxLen = 9223372036854775807 := by decide
  refine ⟨tenE_mk n1 hc2 (by rw [p4, turnL_len, Int.natCast_mul]) (fun v hv => ?_), by rw [turnL_len]; omega⟩
  obtain ⟨q, hq, rfl⟩ := List.mem_iff_getElem.1 hv
  rw [turnL_len] at hq
  have e : (turnL A B x)[q]'(by rw [turnL_len]; exact hq) = (turnL A B x).getD q 0 := by
    rw [List.getD_eq_getElem?_getD, List.getElem?_eq_getElem (by rw [turnL_len]; exact hq)]
    rfl
  have hp : q / A + q % A * B < x.length := by rw [hl]; exact place_lt hq
  rw [e, turnL_get hq, List.getD_eq_getElem?_getD, List.getElem?_eq_getElem hp]
  exact n4 _ (List.getElem_mem _)
theorem bgf_bgn {t1 a b t2 c d : Int} {x y : List Int} (e1 : tenE t1 [a, b] x = 0) (e2 : tenE t2 [c, d] y = 0) : bgfE t1 b a t2 d c = bgnE t1 a b x t2 c d y := by
  unfold bgfE bgnE
  rw [e1, e2]
  rfl
theorem gfL_eq {t1 a b t2 c d : Int} {x y : List Int} (h : bgnE t1 a b x t2 c d y = 0) : gfL b a d c (turnL a b x) (turnL c d y) = fMM a b d x y := by
  obtain ⟨_, _, _, e1, e2, _⟩ := bgnE_ok h
  obtain ⟨A, B, rfl, rfl, _, _, _, hl, _⟩ := ten2_ok e1
  obtain ⟨C, D, rfl, rfl, _, _, _, hl2, _⟩ := ten2_ok e2
  rw [fGM_eq h]
  unfold gfL fGM
  rw [turn_turn hl, turn_turn hl2]
theorem ltu_true (t1 t2 : Int) (xd x yd y : List Int) (h1 : x.length ≤ maxLen) (h2 : y.length ≤ maxLen) : runC gLt Tryz.f14 7 [] [.d (Y0) (t1, xd, x, ()), .d (Y0) (t2, yd, y, ())] [] ah = some (.ret [B true], []) := by
  rw [ltu_eq]
  cases decide (Int.ofNat x.length > 600) with
  | true => rfl
  | false =>
    cases decide (Int.ofNat y.length > 600) with
    | true => rfl
    | false =>
      simp only [cond_false]
      by_cases hx : xd.length = 2
      · by_cases hy : yd.length = 2
        · obtain ⟨a, b, rfl⟩ := two2_len hx
          obtain ⟨c, d, rfl⟩ := two2_len hy
          have e1 : (Int.ofNat [a, b].length != 2) = false := rfl
          have e2 : (Int.ofNat [c, d].length != 2) = false := rfl
          have t2a : two2 [a, b] = some (a, b) := rfl
          have t2b : two2 [c, d] = some (c, d) := rfl
          simp only [e1, e2, t2a, t2b, cond_false, Option.bind_some, decide_eq_true (show x.length ≤ 9223372036854775807 ∧ y.length ≤ 9223372036854775807 from ⟨h1, h2⟩), decide_eq_true (show x.length ≤ 9223372036854775807 from h1), decide_eq_true (show y.length ≤ 9223372036854775807 from h2), cond_true]
          cases q2 : mbgE t2 c d y != 0 with
          | true => cases mbgE t1 a b x != 0 <;> rfl
          | false =>
            cases q1 : mbgE t1 a b x != 0 with
            | true => rfl
            | false =>
              have f1 : tenE t1 [a, b] x = 0 := by
                unfold mbgE at q1
                cases q : tenE t1 [a, b] x != 0 with
                | true => rw [q] at q1; exact absurd q1 (by decide)
                | false => simpa using q
              have f2 : tenE t2 [c, d] y = 0 := by
                unfold mbgE at q2
                cases q : tenE t2 [c, d] y != 0 with
                | true => rw [q] at q2; exact absurd q2 (by decide)
                | false => simpa using q
              have g1 := ten_turn f1
              have g2 := ten_turn f2
              rw [show tens2 t1 b a (turnL a b x) t2 d c (turnL c d y) = true from decide_eq_true ⟨⟨g1.2, g2.2⟩, g1.1, g2.1⟩, bgf_bgn f1 f2]
              cases hb : bgnE t1 a b x t2 c d y != 0 with
              | true => simp only [cond_true, cond_false, beq_self_eq_true]
              | false =>
                have h0 : bgnE t1 a b x t2 c d y = 0 := by simpa using hb
                have hl := fMM_len h0
                rw [gfL_eq h0, decide_eq_true (show 2 ≤ 9223372036854775807 ∧ (fMM a b d x y).length ≤ 9223372036854775807 ∧ True ∧ True ∧ fMM a b d x y = fMM a b d x y from ⟨by decide, by omega, trivial, trivial, rfl⟩)]
                rfl
        · have e1 : (Int.ofNat xd.length != 2) = false := by rw [hx]; rfl
          have e2 : (Int.ofNat yd.length != 2) = true := by rw [bne_iff_ne]; simp only [Int.ofNat_eq_natCast]; omega
          rw [e1, e2]
          rfl
      · have e1 : (Int.ofNat xd.length != 2) = true := by rw [bne_iff_ne]; simp only [Int.ofNat_eq_natCast]; omega
        rw [e1]
        rfl
theorem ltu_call (t1 : Int) (xd x : List Int) (_ : xd.length ≤ maxLen) (h1 : x.length ≤ maxLen) (t2 : Int) (yd y : List Int) (_ : yd.length ≤ maxLen) (h2 : y.length ≤ maxLen) : FnH Tryz.prog (Env.gam e0) 14 [.d (Y0) (t1, xd, x, ()), .d (Y0) (t2, yd, y, ())] (hget []) (fun ae h1 => ae = .ret [B true] ∧ h1 = hget []) :=
  runC_call gLt_good hmix Tryz.func14 Tryz.call14 (by decide +kernel) rfl (ltu_true t1 t2 xd x yd y h1 h2)
end Go.Proofs.XGT
