/- linear.matrix.block: its loops' steps. -/
import Derived.Test.YtckoidchbbfkkaaGreatDoorS38
namespace Go.Proofs.XPT
open Go.Vm Go
set_option maxRecDepth 100000
set_option maxHeartbeats 4000000
noncomputable def C_blk : Code := codeOf Tryz.f82
noncomputable def cf_blk : Cfg := ⟨68, 7, 1, [(2, [3, 4, 5, 6, 7, 10]), (6, [3, 4, 5, 6, 7, 10, 11, 12, 33, 34]), (10, [3, 4, 5, 6, 7, 10, 11, 12, 13, 14, 15, 33, 34])], true⟩
noncomputable def gBl : Env := g207.add 55 (fnE ltwF)
theorem gBl_good : gBl.Good := g207_good.add ltwE_ok
def mxA (r c : Int) (d : AV) : AV := .pr (I r) (.pr (I c) (.pr d (.d .unit ())))
def mxD (r c : Int) (d : List Int) : AV := .d (Y6) (r, c, d, ())
def hpB (xs : List Int) : LHp := [(0, .arr 2 i64T 0 false xs)]
theorem blk_eqH (hl : Hl) (M K C top left : Int) (a b xs : List Int) : runH gBl Tryz.f82 7 [(2, [3, 4, 5, 6, 7, 10]), (6, [3, 4, 5, 6, 7, 10, 11, 12, 33, 34]), (10, [3, 4, 5, 6, 7, 10, 11, 12, 13, 14, 15, 33, 34])] [2, 6, 10] hl [mxA M C (.os 0 0), mxD M K a, mxD K C b, I top, I left] (hpB xs) ah = hl (cL (cL (cR (cR C_blk)))) _ { fr := mkFr 7 [(3, I top), (4, I left), (5, AV.op 1 [] 0), (6, AV.op 2 [] 0), (7, AV.op 3 [] 0), (10, I top)], hp := [(0, AObj.arr 2 (i64T) 0 false xs), (1, AObj.box ((I M).pr ((I C).pr ((AV.os 0 0).pr (AV.d Ty.unit PUnit.unit))))), (2, AObj.box (AV.d ((i64T).pair ((i64T).pair ((i64T).slice.pair Ty.unit))) (M, K, a, ()))), (3, AObj.box (AV.d ((i64T).pair ((i64T).pair ((i64T).slice.pair Ty.unit))) (K, C, b, ())))], nx := 5 } (blkK 0 (endC Tryz.prog 1 Tryz.f82.results.toList ah)) := by kernel_rfl
theorem blk_eq (M K C top left : Int) (a b xs : List Int) : runC gBl Tryz.f82 7 [(2, [3, 4, 5, 6, 7, 10]), (6, [3, 4, 5, 6, 7, 10, 11, 12, 33, 34]), (10, [3, 4, 5, 6, 7, 10, 11, 12, 13, 14, 15, 33, 34])] [mxA M C (.os 0 0), mxD M K a, mxD K C b, I top, I left] (hpB xs) ah = (hlp gBl cf_blk) (cL (cL (cR (cR C_blk)))) _ { fr := mkFr 7 [(3, I top), (4, I left), (5, AV.op 1 [] 0), (6, AV.op 2 [] 0), (7, AV.op 3 [] 0), (10, I top)], hp := [(0, AObj.arr 2 (i64T) 0 false xs), (1, AObj.box ((I M).pr ((I C).pr ((AV.os 0 0).pr (AV.d Ty.unit PUnit.unit))))), (2, AObj.box (AV.d ((i64T).pair ((i64T).pair ((i64T).slice.pair Ty.unit))) (M, K, a, ()))), (3, AObj.box (AV.d ((i64T).pair ((i64T).pair ((i64T).slice.pair Ty.unit))) (K, C, b, ())))], nx := 5 } (blkK 0 (endC Tryz.prog 1 Tryz.f82.results.toList ah)) := runH_runC.trans (blk_eqH (hlp gBl cf_blk) M K C top left a b xs)
def stB (M K C top left : Int) (a b xs : List Int) (fr : List (Nat × AV)) : LSt := { fr := mkFr 7 ([(3, I top), (4, I left), (5, .op 1 [] 0), (6, .op 2 [] 0), (7, .op 3 [] 0)] ++ fr), hp := [(0, .arr 2 i64T 0 false xs), (1, .box (mxA M C (.os 0 0))), (2, .box (mxD M K a)), (3, .box (mxD K C b))], nx := 5 }
theorem blk_st0H (hl : Hl) (M K C top left i : Int) (a b xs : List Int) (n : Nat) {R : Type} (k : AEx → LSt → Option R) : lpH gBl cf_blk [2, 6, 10] hl (cL (cL (cR (cR C_blk)))) (n + 1) (stB M K C top left a b xs [(10, I i)]) k = bif decide (i < if M < IntKind.i64.wrap (top + 4) then M else IntKind.i64.wrap (top + 4)) then (win xs.length (IntKind.i64.wrap (i * C)) (Int.ofNat xs.length)).bind fun v1 => (win v1.2 0 C).bind fun v2 => bif (v1.1 + v1.2).ble xs.length then (if 0 ≤ IntKind.i64.wrap (i * K) ∧ IntKind.i64.wrap (i * K) ≤ Int.ofNat a.length ∧ Int.ofNat a.length ≤ Int.ofNat a.length then some (List.drop (IntKind.i64.wrap (i * K)).toNat (List.take (Int.ofNat a.length).toNat a)) else none).bind fun v4 => (if (0 : Int) ≤ 0 ∧ 0 ≤ K ∧ K ≤ Int.ofNat v4.length then some (List.drop 0 (List.take K.toNat v4)) else none).bind fun v5 => hl (cL (cL (cR (cR (cL (cL (cR (cL (cL (cR (cR C_blk))))))))))) _ { fr := mkFr 7 [(3, I top), (4, I left), (5, AV.op 1 [] 0), (6, AV.op 2 [] 0), (7, AV.op 3 [] 0), (10, I i), (11, AV.ow 0 0 (v1.1 + v2.1) v2.2), (12, AV.d (i64T).slice v5), (33, I K), (34, I 0)], hp := [(0, AObj.arr 2 (i64T) 0 false xs), (1, AObj.box ((I M).pr ((I C).pr ((AV.os 0 0).pr (AV.d Ty.unit PUnit.unit))))), (2, AObj.box (AV.d ((i64T).pair ((i64T).pair ((i64T).slice.pair Ty.unit))) (M, K, a, ()))), (3, AObj.box (AV.d ((i64T).pair ((i64T).pair ((i64T).slice.pair Ty.unit))) (K, C, b, ())))], nx := 5 } (blkK 2 (blkK 1 (seqH gBl cf_blk [2, 6, 10] hl (cR (cR (cL (cL (cR (cR C_blk)))))) (nxtH gBl cf_blk [2, 6, 10] hl (cL (cL (cR (cR C_blk)))) n k)))) else none else k (AEx.exit 0) { fr := mkFr 7 [(3, I top), (4, I left), (5, AV.op 1 [] 0), (6, AV.op 2 [] 0), (7, AV.op 3 [] 0), (10, I i), (17, I i), (18, I top), (19, I (IntKind.i64.wrap (top + 4))), (20, AV.op 1 [0] 0), (21, I M), (22, I (if M < IntKind.i64.wrap (top + 4) then M else IntKind.i64.wrap (top + 4))), (23, B false)], hp := [(0, AObj.arr 2 (i64T) 0 false xs), (1, AObj.box ((I M).pr ((I C).pr ((AV.os 0 0).pr (AV.d Ty.unit PUnit.unit))))), (2, AObj.box (AV.d ((i64T).pair ((i64T).pair ((i64T).slice.pair Ty.unit))) (M, K, a, ()))), (3, AObj.box (AV.d ((i64T).pair ((i64T).pair ((i64T).slice.pair Ty.unit))) (K, C, b, ())))], nx := 5 } := by kernel_rfl
theorem blk_st0 (M K C top left i : Int) (a b xs : List Int) (n : Nat) {R : Type} (k : AEx → LSt → Option R) : lp gBl cf_blk (cL (cL (cR (cR C_blk)))) (n + 1) (stB M K C top left a b xs [(10, I i)]) k = bif decide (i < if M < IntKind.i64.wrap (top + 4) then M else IntKind.i64.wrap (top + 4)) then (win xs.length (IntKind.i64.wrap (i * C)) (Int.ofNat xs.length)).bind fun v1 => (win v1.2 0 C).bind fun v2 => bif (v1.1 + v1.2).ble xs.length then (if 0 ≤ IntKind.i64.wrap (i * K) ∧ IntKind.i64.wrap (i * K) ≤ Int.ofNat a.length ∧ Int.ofNat a.length ≤ Int.ofNat a.length then some (List.drop (IntKind.i64.wrap (i * K)).toNat (List.take (Int.ofNat a.length).toNat a)) else none).bind fun v4 => (if (0 : Int) ≤ 0 ∧ 0 ≤ K ∧ K ≤ Int.ofNat v4.length then some (List.drop 0 (List.take K.toNat v4)) else none).bind fun v5 => (hlp gBl cf_blk) (cL (cL (cR (cR (cL (cL (cR (cL (cL (cR (cR C_blk))))))))))) _ { fr := mkFr 7 [(3, I top), (4, I left), (5, AV.op 1 [] 0), (6, AV.op 2 [] 0), (7, AV.op 3 [] 0), (10, I i), (11, AV.ow 0 0 (v1.1 + v2.1) v2.2), (12, AV.d (i64T).slice v5), (33, I K), (34, I 0)], hp := [(0, AObj.arr 2 (i64T) 0 false xs), (1, AObj.box ((I M).pr ((I C).pr ((AV.os 0 0).pr (AV.d Ty.unit PUnit.unit))))), (2, AObj.box (AV.d ((i64T).pair ((i64T).pair ((i64T).slice.pair Ty.unit))) (M, K, a, ()))), (3, AObj.box (AV.d ((i64T).pair ((i64T).pair ((i64T).slice.pair Ty.unit))) (K, C, b, ())))], nx := 5 } (blkK 2 (blkK 1 (seqH gBl cf_blk [2, 6, 10] (hlp gBl cf_blk) (cR (cR (cL (cL (cR (cR C_blk)))))) (nxtH gBl cf_blk [2, 6, 10] (hlp gBl cf_blk) (cL (cL (cR (cR C_blk)))) n k)))) else none else k (AEx.exit 0) { fr := mkFr 7 [(3, I top), (4, I left), (5, AV.op 1 [] 0), (6, AV.op 2 [] 0), (7, AV.op 3 [] 0), (10, I i), (17, I i), (18, I top), (19, I (IntKind.i64.wrap (top + 4))), (20, AV.op 1 [0] 0), (21, I M), (22, I (if M < IntKind.i64.wrap (top + 4) then M else IntKind.i64.wrap (top + 4))), (23, B false)], hp := [(0, AObj.arr 2 (i64T) 0 false xs), (1, AObj.box ((I M).pr ((I C).pr ((AV.os 0 0).pr (AV.d Ty.unit PUnit.unit))))), (2, AObj.box (AV.d ((i64T).pair ((i64T).pair ((i64T).slice.pair Ty.unit))) (M, K, a, ()))), (3, AObj.box (AV.d ((i64T).pair ((i64T).pair ((i64T).slice.pair Ty.unit))) (K, C, b, ())))], nx := 5 } := by
  have h := blk_st0H (hlp gBl cf_blk) M K C top left i a b xs n k
  simp only [lpH_lp] at h
  exact h
theorem blk_st1H (hl : Hl) (M K C top left i kk d : Int) (p q : Nat) (a b xs x : List Int) (n : Nat) {R : Type} (k : AEx → LSt → Option R) : lpH gBl cf_blk [2, 6, 10] hl (cL (cL (cR (cR (cL (cL (cR (cL (cL (cR (cR C_blk))))))))))) (n + 1) (stB M K C top left a b xs [(10, I i), (11, .ow 0 0 p q), (12, .d ((.slice (.int .i64))) x), (33, I d), (34, I kk)]) k = bif decide (kk < d) then (if 0 ≤ IntKind.i64.wrap (kk * C) ∧ IntKind.i64.wrap (kk * C) ≤ Int.ofNat b.length ∧ Int.ofNat b.length ≤ Int.ofNat b.length then some (List.drop (IntKind.i64.wrap (kk * C)).toNat (List.take (Int.ofNat b.length).toNat b)) else none).bind fun v1 => (if (0 : Int) ≤ 0 ∧ 0 ≤ C ∧ C ≤ Int.ofNat v1.length then some (List.drop 0 (List.take C.toNat v1)) else none).bind fun v2 => hl (cL (cL (cR (cR (cR (cL (cL (cR (cR (cL (cL (cR (cR (cL (cL (cR (cL (cL (cR (cR C_blk)))))))))))))))))))) _ { fr := mkFr 7 [(3, I top), (4, I left), (5, AV.op 1 [] 0), (6, AV.op 2 [] 0), (7, AV.op 3 [] 0), (10, I i), (11, AV.ow 0 0 p q), (12, AV.d (i64T).slice x), (13, I kk), (14, AV.d (i64T).slice v2), (15, I left), (33, I d), (34, I kk)], hp := [(0, AObj.arr 2 (i64T) 0 false xs), (1, AObj.box ((I M).pr ((I C).pr ((AV.os 0 0).pr (AV.d Ty.unit PUnit.unit))))), (2, AObj.box (AV.d ((i64T).pair ((i64T).pair ((i64T).slice.pair Ty.unit))) (M, K, a, ()))), (3, AObj.box (AV.d ((i64T).pair ((i64T).pair ((i64T).slice.pair Ty.unit))) (K, C, b, ())))], nx := 5 } (blkK 4 (blkK 3 (seqH gBl cf_blk [2, 6, 10] hl (cR (cR (cR (cL (cL (cR (cR (cL (cL (cR (cL (cL (cR (cR C_blk)))))))))))))) (nxtH gBl cf_blk [2, 6, 10] hl (cL (cL (cR (cR (cL (cL (cR (cL (cL (cR (cR C_blk))))))))))) n k)))) else k (AEx.exit 2) { fr := mkFr 7 [(3, I top), (4, I left), (5, AV.op 1 [] 0), (6, AV.op 2 [] 0), (7, AV.op 3 [] 0), (10, I i), (11, AV.ow 0 0 p q), (12, AV.d (i64T).slice x), (33, I d), (34, I kk), (35, B false)], hp := [(0, AObj.arr 2 (i64T) 0 false xs), (1, AObj.box ((I M).pr ((I C).pr ((AV.os 0 0).pr (AV.d Ty.unit PUnit.unit))))), (2, AObj.box (AV.d ((i64T).pair ((i64T).pair ((i64T).slice.pair Ty.unit))) (M, K, a, ()))), (3, AObj.box (AV.d ((i64T).pair ((i64T).pair ((i64T).slice.pair Ty.unit))) (K, C, b, ())))], nx := 5 } := by kernel_rfl
theorem blk_st1 (M K C top left i kk d : Int) (p q : Nat) (a b xs x : List Int) (n : Nat) {R : Type} (k : AEx → LSt → Option R) : lp gBl cf_blk (cL (cL (cR (cR (cL (cL (cR (cL (cL (cR (cR C_blk))))))))))) (n + 1) (stB M K C top left a b xs [(10, I i), (11, .ow 0 0 p q), (12, .d ((.slice (.int .i64))) x), (33, I d), (34, I kk)]) k = bif decide (kk < d) then (if 0 ≤ IntKind.i64.wrap (kk * C) ∧ IntKind.i64.wrap (kk * C) ≤ Int.ofNat b.length ∧ Int.ofNat b.length ≤ Int.ofNat b.length then some (List.drop (IntKind.i64.wrap (kk * C)).toNat (List.take (Int.ofNat b.length).toNat b)) else none).bind fun v1 => (if (0 : Int) ≤ 0 ∧ 0 ≤ C ∧ C ≤ Int.ofNat v1.length then some (List.drop 0 (List.take C.toNat v1)) else none).bind fun v2 => (hlp gBl cf_blk) (cL (cL (cR (cR (cR (cL (cL (cR (cR (cL (cL (cR (cR (cL (cL (cR (cL (cL (cR (cR C_blk)))))))))))))))))))) _ { fr := mkFr 7 [(3, I top), (4, I left), (5, AV.op 1 [] 0), (6, AV.op 2 [] 0), (7, AV.op 3 [] 0), (10, I i), (11, AV.ow 0 0 p q), (12, AV.d (i64T).slice x), (13, I kk), (14, AV.d (i64T).slice v2), (15, I left), (33, I d), (34, I kk)], hp := [(0, AObj.arr 2 (i64T) 0 false xs), (1, AObj.box ((I M).pr ((I C).pr ((AV.os 0 0).pr (AV.d Ty.unit PUnit.unit))))), (2, AObj.box (AV.d ((i64T).pair ((i64T).pair ((i64T).slice.pair Ty.unit))) (M, K, a, ()))), (3, AObj.box (AV.d ((i64T).pair ((i64T).pair ((i64T).slice.pair Ty.unit))) (K, C, b, ())))], nx := 5 } (blkK 4 (blkK 3 (seqH gBl cf_blk [2, 6, 10] (hlp gBl cf_blk) (cR (cR (cR (cL (cL (cR (cR (cL (cL (cR (cL (cL (cR (cR C_blk)))))))))))))) (nxtH gBl cf_blk [2, 6, 10] (hlp gBl cf_blk) (cL (cL (cR (cR (cL (cL (cR (cL (cL (cR (cR C_blk))))))))))) n k)))) else k (AEx.exit 2) { fr := mkFr 7 [(3, I top), (4, I left), (5, AV.op 1 [] 0), (6, AV.op 2 [] 0), (7, AV.op 3 [] 0), (10, I i), (11, AV.ow 0 0 p q), (12, AV.d (i64T).slice x), (33, I d), (34, I kk), (35, B false)], hp := [(0, AObj.arr 2 (i64T) 0 false xs), (1, AObj.box ((I M).pr ((I C).pr ((AV.os 0 0).pr (AV.d Ty.unit PUnit.unit))))), (2, AObj.box (AV.d ((i64T).pair ((i64T).pair ((i64T).slice.pair Ty.unit))) (M, K, a, ()))), (3, AObj.box (AV.d ((i64T).pair ((i64T).pair ((i64T).slice.pair Ty.unit))) (K, C, b, ())))], nx := 5 } := by
  have h := blk_st1H (hlp gBl cf_blk) M K C top left i kk d p q a b xs x n k
  simp only [lpH_lp] at h
  exact h
theorem blk_st2H (hl : Hl) (M K C top left i kk j d c : Int) (p q : Nat) (a b xs x y : List Int) (n : Nat) {R : Type} (k : AEx → LSt → Option R) : lpH gBl cf_blk [2, 6, 10] hl (cL (cL (cR (cR (cR (cL (cL (cR (cR (cL (cL (cR (cR (cL (cL (cR (cL (cL (cR (cR C_blk)))))))))))))))))))) (n + 1) (stB M K C top left a b xs [(10, I i), (11, .ow 0 0 p q), (12, .d ((.slice (.int .i64))) x), (13, I kk), (14, .d ((.slice (.int .i64))) y), (15, I j), (33, I d), (34, I c)]) k = bif decide (j < if C < IntKind.i64.wrap (left + 4) then C else IntKind.i64.wrap (left + 4)) then  bif true && (true && (decide (0 ≤ j) && decide (j < Int.ofNat q))) then (xs[p + j.toNat]?).bind fun v2 => (xs[p + j.toNat]?).bind fun v3 => (idx x kk).bind fun v4 => (idx y j).bind fun v5 => bif true && (true && (decide (0 ≤ j) && decide (j < Int.ofNat q))) then (xs[p + j.toNat]?).bind fun v7 => (setN xs (p + j.toNat) (binW BinOp.add v3 (binW BinOp.mul v4 v5))).bind fun v8 => lpH gBl cf_blk [2, 6, 10] hl (cL (cL (cR (cR (cR (cL (cL (cR (cR (cL (cL (cR (cR (cL (cL (cR (cL (cL (cR (cR C_blk)))))))))))))))))))) n { fr := mkFr 7 [(3, I top), (4, I left), (5, AV.op 1 [] 0), (6, AV.op 2 [] 0), (7, AV.op 3 [] 0), (10, I i), (11, AV.ow 0 0 p q), (12, AV.d (i64T).slice x), (13, I kk), (14, AV.d (i64T).slice y), (15, I (IntKind.i64.wrap (j + 1))), (33, I d), (34, I c)], hp := [(0, AObj.arr 2 (i64T) 0 false v8), (1, AObj.box ((I M).pr ((I C).pr ((AV.os 0 0).pr (AV.d Ty.unit PUnit.unit))))), (2, AObj.box (AV.d ((i64T).pair ((i64T).pair ((i64T).slice.pair Ty.unit))) (M, K, a, ()))), (3, AObj.box (AV.d ((i64T).pair ((i64T).pair ((i64T).slice.pair Ty.unit))) (K, C, b, ())))], nx := 5 } k else none else none else k (AEx.exit 4) { fr := mkFr 7 [(3, I top), (4, I left), (5, AV.op 1 [] 0), (6, AV.op 2 [] 0), (7, AV.op 3 [] 0), (10, I i), (11, AV.ow 0 0 p q), (12, AV.d (i64T).slice x), (13, I kk), (14, AV.d (i64T).slice y), (15, I j), (33, I d), (34, I c), (41, I j), (42, I left), (43, I (IntKind.i64.wrap (left + 4))), (44, AV.op 1 [1] 1), (45, I C), (46, I (if C < IntKind.i64.wrap (left + 4) then C else IntKind.i64.wrap (left + 4))), (47, B false)], hp := [(0, AObj.arr 2 (i64T) 0 false xs), (1, AObj.box ((I M).pr ((I C).pr ((AV.os 0 0).pr (AV.d Ty.unit PUnit.unit))))), (2, AObj.box (AV.d ((i64T).pair ((i64T).pair ((i64T).slice.pair Ty.unit))) (M, K, a, ()))), (3, AObj.box (AV.d ((i64T).pair ((i64T).pair ((i64T).slice.pair Ty.unit))) (K, C, b, ())))], nx := 5 } := by kernel_rfl
theorem blk_st2 (M K C top left i kk j d c : Int) (p q : Nat) (a b xs x y : List Int) (n : Nat) {R : Type} (k : AEx → LSt → Option R) : lp gBl cf_blk (cL (cL (cR (cR (cR (cL (cL (cR (cR (cL (cL (cR (cR (cL (cL (cR (cL (cL (cR (cR C_blk)))))))))))))))))))) (n + 1) (stB M K C top left a b xs [(10, I i), (11, .ow 0 0 p q), (12, .d ((.slice (.int .i64))) x), (13, I kk), (14, .d ((.slice (.int .i64))) y), (15, I j), (33, I d), (34, I c)]) k = bif decide (j < if C < IntKind.i64.wrap (left + 4) then C else IntKind.i64.wrap (left + 4)) then  bif true && (true && (decide (0 ≤ j) && decide (j < Int.ofNat q))) then (xs[p + j.toNat]?).bind fun v2 => (xs[p + j.toNat]?).bind fun v3 => (idx x kk).bind fun v4 => (idx y j).bind fun v5 => bif true && (true && (decide (0 ≤ j) && decide (j < Int.ofNat q))) then (xs[p + j.toNat]?).bind fun v7 => (setN xs (p + j.toNat) (binW BinOp.add v3 (binW BinOp.mul v4 v5))).bind fun v8 => lp gBl cf_blk (cL (cL (cR (cR (cR (cL (cL (cR (cR (cL (cL (cR (cR (cL (cL (cR (cL (cL (cR (cR C_blk)))))))))))))))))))) n { fr := mkFr 7 [(3, I top), (4, I left), (5, AV.op 1 [] 0), (6, AV.op 2 [] 0), (7, AV.op 3 [] 0), (10, I i), (11, AV.ow 0 0 p q), (12, AV.d (i64T).slice x), (13, I kk), (14, AV.d (i64T).slice y), (15, I (IntKind.i64.wrap (j + 1))), (33, I d), (34, I c)], hp := [(0, AObj.arr 2 (i64T) 0 false v8), (1, AObj.box ((I M).pr ((I C).pr ((AV.os 0 0).pr (AV.d Ty.unit PUnit.unit))))), (2, AObj.box (AV.d ((i64T).pair ((i64T).pair ((i64T).slice.pair Ty.unit))) (M, K, a, ()))), (3, AObj.box (AV.d ((i64T).pair ((i64T).pair ((i64T).slice.pair Ty.unit))) (K, C, b, ())))], nx := 5 } k else none else none else k (AEx.exit 4) { fr := mkFr 7 [(3, I top), (4, I left), (5, AV.op 1 [] 0), (6, AV.op 2 [] 0), (7, AV.op 3 [] 0), (10, I i), (11, AV.ow 0 0 p q), (12, AV.d (i64T).slice x), (13, I kk), (14, AV.d (i64T).slice y), (15, I j), (33, I d), (34, I c), (41, I j), (42, I left), (43, I (IntKind.i64.wrap (left + 4))), (44, AV.op 1 [1] 1), (45, I C), (46, I (if C < IntKind.i64.wrap (left + 4) then C else IntKind.i64.wrap (left + 4))), (47, B false)], hp := [(0, AObj.arr 2 (i64T) 0 false xs), (1, AObj.box ((I M).pr ((I C).pr ((AV.os 0 0).pr (AV.d Ty.unit PUnit.unit))))), (2, AObj.box (AV.d ((i64T).pair ((i64T).pair ((i64T).slice.pair Ty.unit))) (M, K, a, ()))), (3, AObj.box (AV.d ((i64T).pair ((i64T).pair ((i64T).slice.pair Ty.unit))) (K, C, b, ())))], nx := 5 } := by
  have h := blk_st2H (hlp gBl cf_blk) M K C top left i kk j d c p q a b xs x y n k
  simp only [lpH_lp] at h
  exact h
noncomputable def BK : AEx → LSt → Option (AEnd × LHp) := (blkK 0 (endC Tryz.prog 1 Tryz.f82.results.toList ah))
def fr1 (i kk d : Int) (p q : Nat) (x : List Int) : List (Nat × AV) := [(10, I i), (11, .ow 0 0 p q), (12, .d ((.slice (.int .i64))) x), (33, I d), (34, I kk)]
def fr1e (i kk d : Int) (p q : Nat) (x : List Int) : List (Nat × AV) := [(10, I i), (11, .ow 0 0 p q), (12, .d ((.slice (.int .i64))) x), (33, I d), (34, I kk), (35, B false)]
def fr2 (i kk j d : Int) (p q : Nat) (x y : List Int) : List (Nat × AV) := [(10, I i), (11, .ow 0 0 p q), (12, .d ((.slice (.int .i64))) x), (13, I kk), (14, .d ((.slice (.int .i64))) y), (15, I j), (33, I d), (34, I kk)]
def minW (a left : Int) : Int := if a < IntKind.i64.wrap (left + 4) then a else IntKind.i64.wrap (left + 4)
def fr2e (C left i kk j d : Int) (p q : Nat) (x y : List Int) : List (Nat × AV) := [(10, I i), (11, .ow 0 0 p q), (12, .d ((.slice (.int .i64))) x), (13, I kk), (14, .d ((.slice (.int .i64))) y), (15, I j), (33, I d), (34, I kk), (41, I j), (42, I left), (43, I (IntKind.i64.wrap (left + 4))), (44, AV.op 1 [1] 1), (45, I C), (46, I (minW C left)), (47, B false)]
def fr0e (M top i : Int) : List (Nat × AV) := [(10, I i), (17, I i), (18, I top), (19, I (IntKind.i64.wrap (top + 4))), (20, AV.op 1 [0] 0), (21, I M), (22, I (minW M top)), (23, B false)]
theorem bk2 (M K C top left : Int) (a b xs : List Int) (i kk j d : Int) (p q : Nat) (x y : List Int) (n : Nat) {R : Type} (k : AEx → LSt → Option R) : (blkK 4 (blkK 3 (seqH gBl cf_blk [2, 6, 10] (hlp gBl cf_blk) (cR (cR (cR (cL (cL (cR (cR (cL (cL (cR (cL (cL (cR (cR C_blk)))))))))))))) (nxtH gBl cf_blk [2, 6, 10] (hlp gBl cf_blk) (cL (cL (cR (cR (cL (cL (cR (cL (cL (cR (cR C_blk))))))))))) n k)))) (.exit 4) (stB M K C top left a b xs (fr2e C left i kk j d p q x y)) = lp gBl cf_blk (cL (cL (cR (cR (cL (cL (cR (cL (cL (cR (cR C_blk))))))))))) n (stB M K C top left a b xs (fr1 i (IntKind.i64.wrap (kk + 1)) d p q x)) k :=
  Eq.trans (b := lpH gBl cf_blk [2, 6, 10] (hlp gBl cf_blk) (cL (cL (cR (cR (cL (cL (cR (cL (cL (cR (cR C_blk))))))))))) n (stB M K C top left a b xs (fr1 i (IntKind.i64.wrap (kk + 1)) d p q x)) k) (by kernel_rfl) lpH_lp
theorem bk1 (M K C top left : Int) (a b xs : List Int) (i kk d : Int) (p q : Nat) (x : List Int) (n : Nat) {R : Type} (k : AEx → LSt → Option R) : (blkK 2 (blkK 1 (seqH gBl cf_blk [2, 6, 10] (hlp gBl cf_blk) (cR (cR (cL (cL (cR (cR C_blk)))))) (nxtH gBl cf_blk [2, 6, 10] (hlp gBl cf_blk) (cL (cL (cR (cR C_blk)))) n k)))) (.exit 2) (stB M K C top left a b xs (fr1e i kk d p q x)) = lp gBl cf_blk (cL (cL (cR (cR C_blk)))) n (stB M K C top left a b xs [(10, I (IntKind.i64.wrap (i + 1)))]) k :=
  Eq.trans (b := lpH gBl cf_blk [2, 6, 10] (hlp gBl cf_blk) (cL (cL (cR (cR C_blk)))) n (stB M K C top left a b xs [(10, I (IntKind.i64.wrap (i + 1)))]) k) (by kernel_rfl) lpH_lp
theorem BK_exit (M K C top left : Int) (a b xs : List Int) (i : Int) : BK (.exit 0) (stB M K C top left a b xs (fr0e M top i)) = some (.ret [], hpB xs) := by kernel_rfl
end Go.Proofs.XPT
namespace Go.Proofs.XPT
open Go.Vm Go
set_option maxRecDepth 100000
set_option maxHeartbeats 1000000
def tab (n : Nat) (f : Nat → Int) : List Int := (List.range n).map f
theorem tab_get {n i : Nat} {f : Nat → Int} (h : i < n) : (tab n f)[i]? = some (f i) := by
  unfold tab
  rw [List.getElem?_map, List.getElem?_range h]
  rfl
theorem tab_length (n : Nat) (f : Nat → Int) : (tab n f).length = n := by simp [tab]
theorem tab_congr {n : Nat} {f g : Nat → Int} (h : ∀ p, p < n → f p = g p) : tab n f = tab n g := by
  unfold tab
  exact List.map_congr_left fun p hp => h p (List.mem_range.mp hp)
theorem tab_set {n i : Nat} {f : Nat → Int} {v : Int} (h : i < n) : setN (tab n f) i v = some (tab n fun p => if p = i then v else f p) := by
  have e : (tab n f).set i v = tab n fun p => if p = i then v else f p := by
    apply List.ext_getElem?
    intro q
    by_cases hq : q < n
    · rw [tab_get hq, List.getElem?_set, tab_get hq, tab_length]
      by_cases hqi : i = q
      · rw [if_pos hqi, if_pos h, if_pos hqi.symm]
      · rw [if_neg hqi, if_neg (Ne.symm hqi)]
    · rw [List.getElem?_eq_none (by rw [List.length_set, tab_length]; omega), List.getElem?_eq_none (by rw [tab_length]; omega)]
  unfold setN
  rw [tab_length, show Nat.blt i n = true from Nat.ble_eq_true_of_le h, cond_true, e]
def cellP (z : Int) (K C : Nat) (a b : List Int) (r c : Nat) : Nat → Int
  | 0 => z
  | n + 1 => binW .add (cellP z K C a b r c n) (binW .mul (a.getD (r * K + n) 0) (b.getD (n * C + c) 0))
def mT (M K C : Nat) (a b : List Int) (g : Nat → Int) (cnt : Nat → Nat) : List Int := tab (M * C) fun p => cellP (g p) K C a b (p / C) (p % C) (cnt p)
theorem mT_congr {M K C : Nat} {a b : List Int} {z : Nat → Int} {f g : Nat → Nat} (h : ∀ p, p < M * C → f p = g p) : mT M K C a b z f = mT M K C a b z g := tab_congr fun p hp => by rw [h p hp]
theorem get_row {a : List Int} {K i m : Nat} (hm : m < K) (ha : i * K + K ≤ a.length) : idx ((a.drop (i * K)).take K) (m : Int) = some (a.getD (i * K + m) 0) := by
  unfold idx
  rw [if_pos (by omega), Int.toNat_natCast, List.getElem?_take_of_lt hm, List.getElem?_drop, List.getElem?_eq_getElem (by omega), List.getD_eq_getElem?_getD, List.getElem?_eq_getElem (by omega)]
  rfl
theorem row_le {M C i : Nat} (h : i < M) : i * C + C ≤ M * C := by
  have := Nat.mul_le_mul_right C (show i + 1 ≤ M by omega)
  rw [Nat.add_mul, Nat.one_mul] at this
  exact this
theorem place_iff {C i j p : Nat} (hj : j < C) : p = i * C + j ↔ p / C = i ∧ p % C = j := by
  constructor
  · intro h
    subst h
    constructor
    · rw [Nat.mul_comm, Nat.mul_add_div (by omega), Nat.div_eq_of_lt hj, Nat.add_zero]
    · rw [Nat.mul_comm, Nat.mul_add_mod, Nat.mod_eq_of_lt hj]
  · intro h
    have := Nat.div_add_mod p C
    rw [h.1, h.2, Nat.mul_comm] at this
    exact this.symm
theorem minW_nat (a l : Nat) (h : l ≤ 65536) : minW (a : Int) (l : Int) = ((min a (l + 4) : Nat) : Int) := by
  unfold minW
  rw [wrap64 (by omega) (by omega), Nat.min_def]
  split <;> split <;> omega
section
variable {M K C : Nat} {a b : List Int} {g : Nat → Int}
theorem l2_one {top left i kk j : Nat} {cnt : Nat → Nat} (hM : M * C ≤ 65536) (ha : a.length = M * K) (hb : b.length = K * C) (hi : i < M) (hk : kk < K) (hj : j < C) (hj2 : j < left + 4) (hl : left ≤ 65536) (hc : cnt (i * C + j) = kk) (n : Nat) {R : Type} (k : AEx → LSt → Option R) :
    lp gBl cf_blk (cL (cL (cR (cR (cR (cL (cL (cR (cR (cL (cL (cR (cR (cL (cL (cR (cL (cL (cR (cR C_blk)))))))))))))))))))) (n + 1) (stB M K C top left a b (mT M K C a b g cnt) (fr2 i kk j K (i * C) C ((a.drop (i * K)).take K) ((b.drop (kk * C)).take C))) k =
    lp gBl cf_blk (cL (cL (cR (cR (cR (cL (cL (cR (cR (cL (cL (cR (cR (cL (cL (cR (cL (cL (cR (cR C_blk)))))))))))))))))))) n (stB M K C top left a b (mT M K C a b g fun p => if p = i * C + j then kk + 1 else cnt p) (fr2 i kk ((j + 1 : Nat) : Int) K (i * C) C ((a.drop (i * K)).take K) ((b.drop (kk * C)).take C))) k := by
  have hC : 1 ≤ C := by omega
  have b1 := row_le (C := C) hi
  have b2 := row_le (C := K) hi
  have b3 := row_le (C := C) hk
  have hCM : C ≤ M * C := Nat.le_mul_of_pos_left _ (by omega)
  have e0 : IntKind.i64.wrap ((j : Int) + 1) = ((j + 1 : Nat) : Int) := by rw [wrap64 (by omega) (by omega)]; omega
  have hg : (mT M K C a b g cnt)[i * C + j]? = some (cellP (g (i * C + j)) K C a b i j kk) := by
    unfold mT
    rw [tab_get (by omega), ((place_iff hj).mp rfl).1, ((place_iff hj).mp rfl).2, hc]
  have hs : setN (mT M K C a b g cnt) (i * C + j) (binW .add (cellP (g (i * C + j)) K C a b i j kk) (binW .mul (a.getD (i * K + kk) 0) (b.getD (kk * C + j) 0))) = some (mT M K C a b g fun p => if p = i * C + j then kk + 1 else cnt p) := by
    unfold mT
    rw [tab_set (by omega)]
    congr 1
    apply tab_congr
    intro p _
    show _ = cellP (g p) K C a b (p / C) (p % C) (if p = i * C + j then kk + 1 else cnt p)
    by_cases hp : p = i * C + j
    · rw [if_pos hp, if_pos hp, ((place_iff hj).mp hp).1, ((place_iff hj).mp hp).2, hp]
      rfl
    · rw [if_neg hp, if_neg hp]
  have hmin := minW_nat C left hl
  unfold minW at hmin
  refine (blk_st2 M K C top left i kk j K kk (i * C) C a b _ _ _ n k).trans ?_
  rw [hmin, decide_eq_true (show (j : Int) < ((min C (left + 4) : Nat) : Int) by rw [Nat.min_def]; split <;> omega), decide_eq_true (show 0 ≤ (j : Int) by omega), decide_eq_true (show (j : Int) < Int.ofNat C by simp only [Int.ofNat_eq_natCast]; omega)]
  simp only [cond_true, Bool.and_self, Int.toNat_natCast, hg, Option.bind_some, get_row hk (show i * K + K ≤ a.length by omega), get_row hj (show kk * C + C ≤ b.length by omega), hs, e0]
  rfl
theorem l2_end {top left i kk : Nat} {xs x y : List Int} {p q : Nat} (hl : left ≤ 65536) (hj2 : left ≤ C) (n : Nat) {R : Type} (k : AEx → LSt → Option R) :
    lp gBl cf_blk (cL (cL (cR (cR (cR (cL (cL (cR (cR (cL (cL (cR (cR (cL (cL (cR (cL (cL (cR (cR C_blk)))))))))))))))))))) (n + 1) (stB M K C top left a b xs (fr2 i kk (min C (left + 4) : Nat) K p q x y)) k = k (.exit 4) (stB M K C top left a b xs (fr2e C left i kk (min C (left + 4) : Nat) K p q x y)) := by
  have hmin := minW_nat C left hl
  unfold minW at hmin
  refine (blk_st2 M K C top left i kk _ K kk p q a b _ _ _ n k).trans ?_
  rw [hmin, decide_eq_false (show ¬ ((min C (left + 4) : Nat) : Int) < ((min C (left + 4) : Nat) : Int) by omega), cond_false]
  unfold fr2e minW
  rw [hmin]
  rfl
theorem l2_all {top left i kk : Nat} (hM : M * C ≤ 65536) (ha : a.length = M * K) (hb : b.length = K * C) (hi : i < M) (hk : kk < K) (hl : left ≤ C) {R : Type} (k : AEx → LSt → Option R) :
    ∀ (r j n : Nat) (cnt : Nat → Nat), j + r = min C (left + 4) → r < n → (∀ c, j ≤ c → c < min C (left + 4) → cnt (i * C + c) = kk) →
    lp gBl cf_blk (cL (cL (cR (cR (cR (cL (cL (cR (cR (cL (cL (cR (cR (cL (cL (cR (cL (cL (cR (cR C_blk)))))))))))))))))))) n (stB M K C top left a b (mT M K C a b g cnt) (fr2 i kk j K (i * C) C ((a.drop (i * K)).take K) ((b.drop (kk * C)).take C))) k =
    k (.exit 4) (stB M K C top left a b (mT M K C a b g fun p => if p / C = i ∧ j ≤ p % C ∧ p % C < min C (left + 4) then kk + 1 else cnt p) (fr2e C left i kk (min C (left + 4) : Nat) K (i * C) C ((a.drop (i * K)).take K) ((b.drop (kk * C)).take C))) := by
  have hCM : C ≤ M * C := Nat.le_mul_of_pos_left _ (by omega)
  intro r
  induction r with
  | zero =>
    intro j n cnt hj hn hc
    obtain ⟨n, rfl⟩ : ∃ m', n = m' + 1 := ⟨n - 1, by omega⟩
    obtain rfl : j = min C (left + 4) := by omega
    rw [l2_end (by omega) hl]
    congr 2
    apply mT_congr
    intro p _
    rw [if_neg (by omega)]
  | succ r ih =>
    intro j n cnt hj hn hc
    obtain ⟨n, rfl⟩ : ∃ m', n = m' + 1 := ⟨n - 1, by omega⟩
    have h1 : j < C := by have := Nat.min_le_left C (left + 4); omega
    have h2 : j < left + 4 := by have := Nat.min_le_right C (left + 4); omega
    rw [l2_one hM ha hb hi hk h1 h2 (by omega) (hc j (by omega) (by omega)), ih (j + 1) n _ (by omega) (by omega) (fun c h3 h4 => by rw [if_neg (by omega)]; exact hc c (by omega) h4)]
    congr 2
    apply mT_congr
    intro p _
    have hp := place_iff (i := i) (p := p) h1
    by_cases h3 : p = i * C + j
    · have h7 : p / C = i ∧ j ≤ p % C ∧ p % C < min C (left + 4) := ⟨(hp.mp h3).1, by have := (hp.mp h3).2; omega, by have := (hp.mp h3).2; omega⟩
      rw [if_pos h3, if_pos h7]
      split <;> rfl
    · rw [if_neg h3]
      by_cases h4 : p / C = i ∧ j ≤ p % C ∧ p % C < min C (left + 4)
      · rw [if_pos h4, if_pos ⟨h4.1, by
          have : p % C ≠ j := fun h => h3 (hp.mpr ⟨h4.1, h⟩)
          omega, h4.2.2⟩]
      · rw [if_neg h4, if_neg (fun h => h4 ⟨h.1, by omega, h.2.2⟩)]
theorem l1_all {top left i : Nat} (hM : M * C ≤ 65536) (hK : K ≤ 65536) (hKC : K * C ≤ 65536) (ha : a.length = M * K) (hb : b.length = K * C) (hi : i < M) (hl : left ≤ C) {R : Type} (k : AEx → LSt → Option R) :
    ∀ (r kk n : Nat) (cnt : Nat → Nat), kk + r = K → r < n → (∀ c, left ≤ c → c < min C (left + 4) → cnt (i * C + c) = kk) →
    lp gBl cf_blk (cL (cL (cR (cR (cL (cL (cR (cL (cL (cR (cR C_blk))))))))))) n (stB M K C top left a b (mT M K C a b g cnt) (fr1 i kk K (i * C) C ((a.drop (i * K)).take K))) k =
    k (.exit 2) (stB M K C top left a b (mT M K C a b g fun p => if p / C = i ∧ left ≤ p % C ∧ p % C < min C (left + 4) then K else cnt p) (fr1e i K K (i * C) C ((a.drop (i * K)).take K))) := by
  have hCM : C ≤ M * C := Nat.le_mul_of_pos_left _ (by omega)
  have hmm := Nat.min_le_left C (left + 4)
  have hmr := Nat.min_le_right C (left + 4)
  have hlm : left ≤ min C (left + 4) := Nat.le_min.mpr ⟨hl, by omega⟩
  intro r
  induction r with
  | zero =>
    intro kk n cnt hj hn hc
    obtain ⟨n, rfl⟩ : ∃ m', n = m' + 1 := ⟨n - 1, by omega⟩
    obtain rfl : kk = K := by omega
    refine (blk_st1 M kk C top left i kk kk (i * C) C a b _ _ n k).trans ?_
    rw [decide_eq_false (show ¬ ((kk : Int) < (kk : Int)) by omega), cond_false]
    show k (.exit 2) (stB M kk C top left a b (mT M kk C a b g cnt) (fr1e i kk kk (i * C) C ((a.drop (i * kk)).take kk))) = _
    congr 2
    apply mT_congr
    intro p _
    by_cases h4 : p / C = i ∧ left ≤ p % C ∧ p % C < min C (left + 4)
    · rw [if_pos h4, ← hc (p % C) h4.2.1 h4.2.2, ← (place_iff (i := i) (p := p) (j := p % C) (by omega)).mpr ⟨h4.1, rfl⟩]
    · rw [if_neg h4]
  | succ r ih =>
    intro kk n cnt hj hn hc
    obtain ⟨n, rfl⟩ : ∃ m', n = m' + 1 := ⟨n - 1, by omega⟩
    have b3 := row_le (C := C) (show kk < K by omega)
    have e0 : IntKind.i64.wrap ((kk : Int) + 1) = ((kk + 1 : Nat) : Int) := by rw [wrap64 (by omega) (by omega)]; omega
    have e1 : IntKind.i64.wrap ((kk : Int) * C) = ((kk * C : Nat) : Int) := by rw [← Int.natCast_mul]; exact wrap64 (by omega) (by omega)
    have c1 : 0 ≤ ((kk * C : Nat) : Int) ∧ ((kk * C : Nat) : Int) ≤ Int.ofNat b.length ∧ Int.ofNat b.length ≤ Int.ofNat b.length := ⟨by omega, by simp only [Int.ofNat_eq_natCast]; omega, Int.le_refl _⟩
    have c2 : (0 : Int) ≤ 0 ∧ 0 ≤ (C : Int) ∧ (C : Int) ≤ Int.ofNat (List.drop (kk * C) b).length := ⟨Int.le_refl _, by omega, by simp only [Int.ofNat_eq_natCast, List.length_drop]; omega⟩
    refine (blk_st1 M K C top left i kk K (i * C) C a b _ _ n k).trans ?_
    rw [decide_eq_true (show ((kk : Int) < (K : Int)) by omega), cond_true, e1, if_pos c1]
    simp only [Option.bind_some, Int.toNat_natCast, show (Int.ofNat b.length).toNat = b.length from rfl, List.take_length, if_pos c2, List.drop_zero]
    refine (l2_all (top := top) hM ha hb hi (show kk < K by omega) hl _ (min C (left + 4) - left) left fu cnt (by omega) (by have : fu = 18446744073709551616 := rfl; omega) hc).trans ?_
    rw [bk2, e0]
    refine (ih (kk + 1) n _ (by omega) (by omega) fun c h3 h4 => ?_).trans ?_
    · rw [if_pos ⟨((place_iff (i := i) (p := i * C + c) (j := c) (by omega)).mp rfl).1, by rw [((place_iff (i := i) (p := i * C + c) (j := c) (by omega)).mp rfl).2]; omega, by rw [((place_iff (i := i) (p := i * C + c) (j := c) (by omega)).mp rfl).2]; omega⟩]
    · congr 2
      apply mT_congr
      intro p _
      by_cases h4 : p / C = i ∧ left ≤ p % C ∧ p % C < min C (left + 4)
      · rw [if_pos h4, if_pos h4]
      · rw [if_neg h4, if_neg h4, if_neg h4]
theorem l0_all {top left : Nat} (hM : M * C ≤ 65536) (hMK : M * K ≤ 65536) (hK : K ≤ 65536) (hKC : K * C ≤ 65536) (hC : 1 ≤ C) (ha : a.length = M * K) (hb : b.length = K * C) (hl : left ≤ C) (ht : top ≤ M) {R : Type} (k : AEx → LSt → Option R) :
    ∀ (r i n : Nat) (cnt : Nat → Nat), i + r = min M (top + 4) → r < n → (∀ s c, i ≤ s → s < min M (top + 4) → left ≤ c → c < min C (left + 4) → cnt (s * C + c) = 0) →
    lp gBl cf_blk (cL (cL (cR (cR C_blk)))) n (stB M K C top left a b (mT M K C a b g cnt) [(10, I i)]) k =
    k (.exit 0) (stB M K C top left a b (mT M K C a b g fun p => if (i ≤ p / C ∧ p / C < min M (top + 4)) ∧ left ≤ p % C ∧ p % C < min C (left + 4) then K else cnt p) (fr0e M top (min M (top + 4) : Nat))) := by
  have hMM : M ≤ M * C := Nat.le_mul_of_pos_right _ (by omega)
  have hmm := Nat.min_le_left C (left + 4)
  have hmr := Nat.min_le_right C (left + 4)
  have hmm2 := Nat.min_le_left M (top + 4)
  have hmin := minW_nat M top (by omega)
  intro r
  induction r with
  | zero =>
    intro i n cnt hj hn hc
    obtain ⟨n, rfl⟩ : ∃ m', n = m' + 1 := ⟨n - 1, by omega⟩
    obtain rfl : i = min M (top + 4) := by omega
    have hmin2 := hmin
    unfold minW at hmin2
    refine (blk_st0 M K C top left _ a b _ n k).trans ?_
    rw [hmin2, decide_eq_false (show ¬ ((min M (top + 4) : Nat) : Int) < ((min M (top + 4) : Nat) : Int) by omega), cond_false]
    unfold fr0e
    rw [hmin]
    show k (.exit 0) (stB M K C top left a b (mT M K C a b g cnt) _) = _
    congr 2
    apply mT_congr
    intro p _
    rw [if_neg (by omega)]
  | succ r ih =>
    intro i n cnt hj hn hc
    obtain ⟨n, rfl⟩ : ∃ m', n = m' + 1 := ⟨n - 1, by omega⟩
    have hiM : i < M := by omega
    have b1 := row_le (C := C) hiM
    have b2 := row_le (C := K) hiM
    have e0 : IntKind.i64.wrap ((i : Int) + 1) = ((i + 1 : Nat) : Int) := by rw [wrap64 (by omega) (by omega)]; omega
    have e1 : IntKind.i64.wrap ((i : Int) * C) = ((i * C : Nat) : Int) := by rw [← Int.natCast_mul]; exact wrap64 (by omega) (by omega)
    have e2 : IntKind.i64.wrap ((i : Int) * K) = ((i * K : Nat) : Int) := by rw [← Int.natCast_mul]; exact wrap64 (by omega) (by omega)
    have hlen : (mT M K C a b g cnt).length = M * C := tab_length _ _
    have w1 : win (mT M K C a b g cnt).length ((i * C : Nat) : Int) (Int.ofNat (mT M K C a b g cnt).length) = some (i * C, M * C - i * C) := by
      unfold win
      rw [hlen, decide_eq_true (show 0 ≤ ((i * C : Nat) : Int) by omega), decide_eq_true (show ((i * C : Nat) : Int) < Int.ofNat (M * C) by simp only [Int.ofNat_eq_natCast]; omega), decide_eq_true (show Int.ofNat (M * C) ≤ ((M * C : Nat) : Int) by simp only [Int.ofNat_eq_natCast]; omega)]
      simp only [Bool.and_self, cond_true, Int.toNat_natCast]
      congr 2
      simp only [Int.ofNat_eq_natCast]
      omega
    have w2 : win (M * C - i * C) 0 (C : Int) = some (0, C) := by
      unfold win
      rw [decide_eq_true (show (0 : Int) ≤ 0 by omega), decide_eq_true (show (0 : Int) < (C : Int) by omega), decide_eq_true (show (C : Int) ≤ ((M * C - i * C : Nat) : Int) by omega)]
      simp only [Bool.and_self, cond_true]
      rfl
    have c1 : 0 ≤ ((i * K : Nat) : Int) ∧ ((i * K : Nat) : Int) ≤ Int.ofNat a.length ∧ Int.ofNat a.length ≤ Int.ofNat a.length := ⟨by omega, by simp only [Int.ofNat_eq_natCast]; omega, Int.le_refl _⟩
    have c2 : (0 : Int) ≤ 0 ∧ 0 ≤ (K : Int) ∧ (K : Int) ≤ Int.ofNat (List.drop (i * K) a).length := ⟨Int.le_refl _, by omega, by simp only [Int.ofNat_eq_natCast, List.length_drop]; omega⟩
    have hble : (i * C + (M * C - i * C)).ble (mT M K C a b g cnt).length = true := by rw [hlen]; exact Nat.ble_eq_true_of_le (by omega)
    have hmin2 := hmin
    unfold minW at hmin2
    refine (blk_st0 M K C top left i a b _ n k).trans ?_
    rw [hmin2, decide_eq_true (show ((i : Int) < ((min M (top + 4) : Nat) : Int)) by omega), cond_true, e1, e2, w1]
    simp only [Option.bind_some, w2, hble, cond_true, if_pos c1, Int.toNat_natCast, show (Int.ofNat a.length).toNat = a.length from rfl, List.take_length, if_pos c2, List.drop_zero]
    refine (l1_all (top := top) hM hK hKC ha hb hiM hl _ K 0 fu cnt (by omega) (by have : fu = 18446744073709551616 := rfl; omega) (fun c h3 h4 => hc i c (by omega) (by omega) h3 h4)).trans ?_
    rw [bk1, e0]
    refine (ih (i + 1) n _ (by omega) (by omega) fun s c h1 h2 h3 h4 => ?_).trans ?_
    · rw [if_neg (fun h => by
        have := ((place_iff (i := s) (p := s * C + c) (j := c) (by omega)).mp rfl).1
        omega)]
      exact hc s c (by omega) h2 h3 h4
    · congr 2
      apply mT_congr
      intro p _
      by_cases h4 : left ≤ p % C ∧ p % C < min C (left + 4)
      · by_cases h5 : i + 1 ≤ p / C ∧ p / C < min M (top + 4)
        · rw [if_pos ⟨h5, h4⟩, if_pos ⟨⟨by omega, h5.2⟩, h4⟩]
        · rw [if_neg (fun h => h5 h.1)]
          by_cases h6 : p / C = i
          · rw [if_pos ⟨h6, h4⟩, if_pos ⟨⟨by omega, by omega⟩, h4⟩]
          · rw [if_neg (fun h => h6 h.1), if_neg (fun h => h5 ⟨by omega, h.1.2⟩)]
      · rw [if_neg (fun h => h4 h.2), if_neg (fun h => h4 h.2), if_neg (fun h => h4 h.2)]
theorem blk_run {top left : Nat} {cnt : Nat → Nat} (hM : M * C ≤ 65536) (hMK : M * K ≤ 65536) (hK : K ≤ 65536) (hKC : K * C ≤ 65536) (hC : 1 ≤ C) (ha : a.length = M * K) (hb : b.length = K * C) (hl : left ≤ C) (ht : top ≤ M) (hc : ∀ s c, top ≤ s → s < min M (top + 4) → left ≤ c → c < min C (left + 4) → cnt (s * C + c) = 0) :
    runC gBl Tryz.f82 7 [(2, [3, 4, 5, 6, 7, 10]), (6, [3, 4, 5, 6, 7, 10, 11, 12, 33, 34]), (10, [3, 4, 5, 6, 7, 10, 11, 12, 13, 14, 15, 33, 34])] [mxA M C (.os 0 0), mxD M K a, mxD K C b, I top, I left] (hpB (mT M K C a b g cnt)) ah =
    some (.ret [], hpB (mT M K C a b g fun p => if (top ≤ p / C ∧ p / C < min M (top + 4)) ∧ left ≤ p % C ∧ p % C < min C (left + 4) then K else cnt p)) := by
  have hmm2 := Nat.min_le_left M (top + 4)
  have hmr2 := Nat.min_le_right M (top + 4)
  have hlm : top ≤ min M (top + 4) := Nat.le_min.mpr ⟨ht, by omega⟩
  refine (blk_eq M K C top left a b _).trans ?_
  refine (l0_all hM hMK hK hKC hC ha hb hl ht BK (min M (top + 4) - top) top fu cnt (by omega) (by have : fu = 18446744073709551616 := rfl; omega) hc).trans ?_
  exact BK_exit M K C top left a b _ _
end
/-- what a block makes of what stands there -/
def inB (M C top left p : Nat) : Bool := decide ((top ≤ p / C ∧ p / C < min M (top + 4)) ∧ left ≤ p % C ∧ p % C < min C (left + 4))
def blkR (M K C top left : Nat) (a b xs : List Int) : List Int := mT M K C a b (fun p => xs.getD p 0) fun p => bif inB M C top left p then K else 0
def blkOk (M C M2 K K2 C2 top left : Int) (a b xs : List Int) : Bool :=
  decide ((0 ≤ M ∧ M2 = M ∧ 0 ≤ K ∧ K2 = K ∧ 1 ≤ C ∧ C2 = C ∧ 0 ≤ top ∧ top ≤ M ∧ 0 ≤ left ∧ left ≤ C) ∧ K ≤ 65536 ∧ M.toNat * C.toNat ≤ 65536 ∧ M.toNat * K.toNat ≤ 65536 ∧ K.toNat * C.toNat ≤ 65536 ∧ a.length = M.toNat * K.toNat ∧ b.length = K.toNat * C.toNat ∧ xs.length = M.toNat * C.toNat)
theorem mT_self {M K C : Nat} {a b xs : List Int} (h : xs.length = M * C) : mT M K C a b (fun p => xs.getD p 0) (fun _ => 0) = xs := by
  apply List.ext_getElem?
  intro q
  unfold mT
  by_cases hq : q < M * C
  · rw [tab_get hq, List.getElem?_eq_getElem (by omega)]
    show some (xs.getD q 0) = _
    rw [List.getD_eq_getElem?_getD, List.getElem?_eq_getElem (by omega)]
    rfl
  · rw [List.getElem?_eq_none (by rw [tab_length]; omega), List.getElem?_eq_none (by omega)]
def blkT : List AV → LHp → Tq
  | [.pr (.d (.int .i64) M) (.pr (.d (.int .i64) C) (.pr (.os 0 0) (.d .unit ()))), .d ((.pair (.int .i64) (.pair (.int .i64) (.pair (.slice (.int .i64)) .unit)))) (M2, K, a, ()), .d ((.pair (.int .i64) (.pair (.int .i64) (.pair (.slice (.int .i64)) .unit)))) (K2, C2, b, ()), .d (.int .i64) top, .d (.int .i64) left], [(0, .arr tt (.int .i64) 0 false xs)] =>
    bif tt == 2 then .br (blkOk M C M2 K K2 C2 top left a b xs) (.leaf (.ret []) (hpB (blkR M.toNat K.toNat C.toNat top.toNat left.toNat a b xs))) .no else .no
  | _, _ => .no
theorem blkR_eq {M K C top left : Nat} {a b xs : List Int} : (mT M K C a b (fun p => xs.getD p 0) fun p => if (top ≤ p / C ∧ p / C < min M (top + 4)) ∧ left ≤ p % C ∧ p % C < min C (left + 4) then K else 0) = blkR M K C top left a b xs := by
  unfold blkR
  apply mT_congr
  intro p _
  unfold inB
  split
  · rename_i hp
    rw [decide_eq_true hp]
    rfl
  · rename_i hp
    rw [decide_eq_false hp]
    rfl
theorem blk_nat {M K C top left : Nat} {a b xs : List Int} (h12 : M * C ≤ 65536) (h13 : M * K ≤ 65536) (h11 : K ≤ 65536) (h14 : K * C ≤ 65536) (h5 : 1 ≤ C) (h15 : a.length = M * K) (h16 : b.length = K * C) (h10 : left ≤ C) (h8 : top ≤ M) (h17 : xs.length = M * C) :
    runC gBl Tryz.f82 7 [(2, [3, 4, 5, 6, 7, 10]), (6, [3, 4, 5, 6, 7, 10, 11, 12, 33, 34]), (10, [3, 4, 5, 6, 7, 10, 11, 12, 13, 14, 15, 33, 34])] [mxA M C (.os 0 0), mxD M K a, mxD K C b, I top, I left] (hpB xs) ah = some (.ret [], hpB (blkR M K C top left a b xs)) := by
  have h := blk_run (M := M) (K := K) (C := C) (a := a) (b := b) (g := fun p => xs.getD p 0) (top := top) (left := left) (cnt := fun _ => 0) h12 h13 h11 h14 h5 h15 h16 h10 h8 (fun _ _ _ _ _ _ => rfl)
  rw [mT_self h17, blkR_eq] at h
  exact h
theorem blk_tree {M C M2 K K2 C2 top left : Int} {a b xs : List Int} (h : blkOk M C M2 K K2 C2 top left a b xs = true) :
    runC gBl Tryz.f82 7 [(2, [3, 4, 5, 6, 7, 10]), (6, [3, 4, 5, 6, 7, 10, 11, 12, 33, 34]), (10, [3, 4, 5, 6, 7, 10, 11, 12, 13, 14, 15, 33, 34])] [mxA M C (.os 0 0), mxD M2 K a, mxD K2 C2 b, I top, I left] (hpB xs) ah = some (.ret [], hpB (blkR M.toNat K.toNat C.toNat top.toNat left.toNat a b xs)) := by
  have h0 := of_decide_eq_true h
  obtain ⟨⟨h1, h2, h3, h4, h5, h6, h7, h8, h9, h10⟩, h11, h12, h13, h14, h15, h16, h17⟩ := h0
  clear h
  rw [h2, h4, h6]
  obtain ⟨m, rfl⟩ := Int.eq_ofNat_of_zero_le h1
  obtain ⟨k, rfl⟩ := Int.eq_ofNat_of_zero_le h3
  obtain ⟨c, rfl⟩ := Int.eq_ofNat_of_zero_le (show 0 ≤ C by omega)
  obtain ⟨t, rfl⟩ := Int.eq_ofNat_of_zero_le h7
  obtain ⟨l, rfl⟩ := Int.eq_ofNat_of_zero_le h9
  rw [Int.toNat_natCast, Int.toNat_natCast, Int.toNat_natCast, Int.toNat_natCast, Int.toNat_natCast]
  rw [Int.toNat_natCast] at h12 h13 h14 h15 h16 h17
  rw [Int.toNat_natCast] at h12 h13 h14 h15 h16 h17
  exact blk_nat h12 h13 (by omega) h14 (by omega) h15 h16 (by omega) (by omega) h17
theorem blkT_ok : FnE.OK e0.P e0.gam 82 (treeE blkT) := by
  have h1 : FnE.OK e0.P e0.gam 82 (execFnC gBl Tryz.f82 7 [(2, [3, 4, 5, 6, 7, 10]), (6, [3, 4, 5, 6, 7, 10, 11, 12, 33, 34]), (10, [3, 4, 5, 6, 7, 10, 11, 12, 13, 14, 15, 33, 34])]) := execFnC_ok gBl_good hmix Tryz.func82 Tryz.call82 (by decide +kernel) rfl
  refine ⟨fun _ _ _ => Tq.eq _ _, fun args hs ae hs' h => ?_⟩
  have h' : (blkT args hs).run ah = some (ae, hs') := h
  clear h
  unfold blkT at h'
  split at h'
  · rename_i tt xs
    cases ht : tt == 2 with
    | true =>
      rw [ht, cond_true] at h'
      obtain ⟨hb, h2⟩ := Tq.br_no h'
      cases h2
      rw [eq_of_beq ht]
      exact h1.okC (blk_tree hb)
    | false => rw [ht] at h'; cases h'
  · cases h'
end Go.Proofs.XPT
namespace Go.Proofs.XPT
open Go.Vm Go
set_option maxRecDepth 100000
set_option maxHeartbeats 4000000
noncomputable def C_prd : Code := codeOf Tryz.f53
noncomputable def cf_prd : Cfg := ⟨39, 6, 0, [(3, [2, 3, 5, 6]), (6, [2, 3, 5, 6, 7])], true⟩
noncomputable def gPr : Env := g208.add 82 (treeE blkT)
theorem gPr_good : gPr.Good := g208_good.add blkT_ok
theorem prd_eqH (hl : Hl) (M K K2 C : Int) (a b : List Int) : runH gPr Tryz.f53 6 [(3, [2, 3, 5, 6]), (6, [2, 3, 5, 6, 7])] [3, 6] hl [mxD M K a, mxD K2 C b] [] ah = (if 0 ≤ IntKind.i64.wrap (M * C) ∧ IntKind.i64.wrap (M * C) ≤ 4294967296 then some (List.replicate (IntKind.i64.wrap (M * C)).toNat 0) else none).bind fun v0 => hl (cL (cL (cR (cL (cR (cR C_prd)))))) _ { fr := mkFr 6 [(2, AV.op 0 [] 0), (3, AV.op 1 [] 0), (5, AV.op 2 [] 0), (6, I 0)], hp := [(0, AObj.box (AV.d ((i64T).pair ((i64T).pair ((i64T).slice.pair Ty.unit))) (M, K, a, ()))), (1, AObj.box (AV.d ((i64T).pair ((i64T).pair ((i64T).slice.pair Ty.unit))) (K2, C, b, ()))), (2, AObj.box ((I M).pr ((I C).pr ((AV.os 3 0).pr (AV.d Ty.unit PUnit.unit))))), (3, AObj.arr 2 (i64T) 0 false v0)], nx := 4 } (blkK 0 (seqH gPr cf_prd [3, 6] hl (cR (cR (cR C_prd))) (endC Tryz.prog 0 Tryz.f53.results.toList ah))) := by kernel_rfl
theorem prd_eq (M K K2 C : Int) (a b : List Int) : runC gPr Tryz.f53 6 [(3, [2, 3, 5, 6]), (6, [2, 3, 5, 6, 7])] [mxD M K a, mxD K2 C b] [] ah = (if 0 ≤ IntKind.i64.wrap (M * C) ∧ IntKind.i64.wrap (M * C) ≤ 4294967296 then some (List.replicate (IntKind.i64.wrap (M * C)).toNat 0) else none).bind fun v0 => (hlp gPr cf_prd) (cL (cL (cR (cL (cR (cR C_prd)))))) _ { fr := mkFr 6 [(2, AV.op 0 [] 0), (3, AV.op 1 [] 0), (5, AV.op 2 [] 0), (6, I 0)], hp := [(0, AObj.box (AV.d ((i64T).pair ((i64T).pair ((i64T).slice.pair Ty.unit))) (M, K, a, ()))), (1, AObj.box (AV.d ((i64T).pair ((i64T).pair ((i64T).slice.pair Ty.unit))) (K2, C, b, ()))), (2, AObj.box ((I M).pr ((I C).pr ((AV.os 3 0).pr (AV.d Ty.unit PUnit.unit))))), (3, AObj.arr 2 (i64T) 0 false v0)], nx := 4 } (blkK 0 (seqH gPr cf_prd [3, 6] (hlp gPr cf_prd) (cR (cR (cR C_prd))) (endC Tryz.prog 0 Tryz.f53.results.toList ah))) := runH_runC.trans (prd_eqH (hlp gPr cf_prd) M K K2 C a b)
def stP (M K K2 C : Int) (a b xs : List Int) (fr : List (Nat × AV)) : LSt := { fr := mkFr 6 ([(2, .op 0 [] 0), (3, .op 1 [] 0), (5, .op 2 [] 0)] ++ fr), hp := [(0, .box (mxD M K a)), (1, .box (mxD K2 C b)), (2, .box (mxA M C (.os 3 0))), (3, .arr 2 i64T 0 false xs)], nx := 4 }
theorem prd_st0H (hl : Hl) (M K K2 C top : Int) (a b xs : List Int) (n : Nat) {R : Type} (k : AEx → LSt → Option R) : lpH gPr cf_prd [3, 6] hl (cL (cL (cR (cL (cR (cR C_prd)))))) (n + 1) (stP M K K2 C a b xs [(6, I top)]) k = bif decide (top < M) then hl (cL (cL (cR (cL (cL (cR (cL (cL (cR (cL (cR (cR C_prd)))))))))))) _ { fr := mkFr 6 [(2, AV.op 0 [] 0), (3, AV.op 1 [] 0), (5, AV.op 2 [] 0), (6, I top), (7, I 0)], hp := [(0, AObj.box (AV.d ((i64T).pair ((i64T).pair ((i64T).slice.pair Ty.unit))) (M, K, a, ()))), (1, AObj.box (AV.d ((i64T).pair ((i64T).pair ((i64T).slice.pair Ty.unit))) (K2, C, b, ()))), (2, AObj.box ((I M).pr ((I C).pr ((AV.os 3 0).pr (AV.d Ty.unit PUnit.unit))))), (3, AObj.arr 2 (i64T) 0 false xs)], nx := 4 } (blkK 2 (blkK 1 (seqH gPr cf_prd [3, 6] hl (cR (cR (cL (cL (cR (cL (cR (cR C_prd)))))))) (nxtH gPr cf_prd [3, 6] hl (cL (cL (cR (cL (cR (cR C_prd)))))) n k)))) else k (AEx.exit 0) { fr := mkFr 6 [(2, AV.op 0 [] 0), (3, AV.op 1 [] 0), (5, AV.op 2 [] 0), (6, I top), (19, I top), (20, AV.op 2 [0] 0), (21, I M), (22, B false)], hp := [(0, AObj.box (AV.d ((i64T).pair ((i64T).pair ((i64T).slice.pair Ty.unit))) (M, K, a, ()))), (1, AObj.box (AV.d ((i64T).pair ((i64T).pair ((i64T).slice.pair Ty.unit))) (K2, C, b, ()))), (2, AObj.box ((I M).pr ((I C).pr ((AV.os 3 0).pr (AV.d Ty.unit PUnit.unit))))), (3, AObj.arr 2 (i64T) 0 false xs)], nx := 4 } := by kernel_rfl
theorem prd_st0 (M K K2 C top : Int) (a b xs : List Int) (n : Nat) {R : Type} (k : AEx → LSt → Option R) : lp gPr cf_prd (cL (cL (cR (cL (cR (cR C_prd)))))) (n + 1) (stP M K K2 C a b xs [(6, I top)]) k = bif decide (top < M) then (hlp gPr cf_prd) (cL (cL (cR (cL (cL (cR (cL (cL (cR (cL (cR (cR C_prd)))))))))))) _ { fr := mkFr 6 [(2, AV.op 0 [] 0), (3, AV.op 1 [] 0), (5, AV.op 2 [] 0), (6, I top), (7, I 0)], hp := [(0, AObj.box (AV.d ((i64T).pair ((i64T).pair ((i64T).slice.pair Ty.unit))) (M, K, a, ()))), (1, AObj.box (AV.d ((i64T).pair ((i64T).pair ((i64T).slice.pair Ty.unit))) (K2, C, b, ()))), (2, AObj.box ((I M).pr ((I C).pr ((AV.os 3 0).pr (AV.d Ty.unit PUnit.unit))))), (3, AObj.arr 2 (i64T) 0 false xs)], nx := 4 } (blkK 2 (blkK 1 (seqH gPr cf_prd [3, 6] (hlp gPr cf_prd) (cR (cR (cL (cL (cR (cL (cR (cR C_prd)))))))) (nxtH gPr cf_prd [3, 6] (hlp gPr cf_prd) (cL (cL (cR (cL (cR (cR C_prd)))))) n k)))) else k (AEx.exit 0) { fr := mkFr 6 [(2, AV.op 0 [] 0), (3, AV.op 1 [] 0), (5, AV.op 2 [] 0), (6, I top), (19, I top), (20, AV.op 2 [0] 0), (21, I M), (22, B false)], hp := [(0, AObj.box (AV.d ((i64T).pair ((i64T).pair ((i64T).slice.pair Ty.unit))) (M, K, a, ()))), (1, AObj.box (AV.d ((i64T).pair ((i64T).pair ((i64T).slice.pair Ty.unit))) (K2, C, b, ()))), (2, AObj.box ((I M).pr ((I C).pr ((AV.os 3 0).pr (AV.d Ty.unit PUnit.unit))))), (3, AObj.arr 2 (i64T) 0 false xs)], nx := 4 } := by
  have h := prd_st0H (hlp gPr cf_prd) M K K2 C top a b xs n k
  simp only [lpH_lp] at h
  exact h
theorem prd_st1H (hl : Hl) (M K K2 C top left : Int) (a b xs : List Int) (n : Nat) {R : Type} (k : AEx → LSt → Option R) : lpH gPr cf_prd [3, 6] hl (cL (cL (cR (cL (cL (cR (cL (cL (cR (cL (cR (cR C_prd)))))))))))) (n + 1) (stP M K K2 C a b xs [(6, I top), (7, I left)]) k = bif decide (left < C) then  bif blkOk M C M K K2 C top left a b xs then lpH gPr cf_prd [3, 6] hl (cL (cL (cR (cL (cL (cR (cL (cL (cR (cL (cR (cR C_prd)))))))))))) n { fr := mkFr 6 [(2, AV.op 0 [] 0), (3, AV.op 1 [] 0), (5, AV.op 2 [] 0), (6, I top), (7, I (IntKind.i64.wrap (left + 4)))], hp := [(0, AObj.box (AV.d ((i64T).pair ((i64T).pair ((i64T).slice.pair Ty.unit))) (M, K, a, ()))), (1, AObj.box (AV.d ((i64T).pair ((i64T).pair ((i64T).slice.pair Ty.unit))) (K2, C, b, ()))), (2, AObj.box ((I M).pr ((I C).pr ((AV.os 3 0).pr (AV.d Ty.unit PUnit.unit))))), (3, AObj.arr 2 (i64T) 0 false (blkR M.toNat K.toNat C.toNat top.toNat left.toNat a b xs))], nx := 4 } k else none else k (AEx.exit 2) { fr := mkFr 6 [(2, AV.op 0 [] 0), (3, AV.op 1 [] 0), (5, AV.op 2 [] 0), (6, I top), (7, I left), (25, I left), (26, AV.op 2 [1] 1), (27, I C), (28, B false)], hp := [(0, AObj.box (AV.d ((i64T).pair ((i64T).pair ((i64T).slice.pair Ty.unit))) (M, K, a, ()))), (1, AObj.box (AV.d ((i64T).pair ((i64T).pair ((i64T).slice.pair Ty.unit))) (K2, C, b, ()))), (2, AObj.box ((I M).pr ((I C).pr ((AV.os 3 0).pr (AV.d Ty.unit PUnit.unit))))), (3, AObj.arr 2 (i64T) 0 false xs)], nx := 4 } := by kernel_rfl
theorem prd_st1 (M K K2 C top left : Int) (a b xs : List Int) (n : Nat) {R : Type} (k : AEx → LSt → Option R) : lp gPr cf_prd (cL (cL (cR (cL (cL (cR (cL (cL (cR (cL (cR (cR C_prd)))))))))))) (n + 1) (stP M K K2 C a b xs [(6, I top), (7, I left)]) k = bif decide (left < C) then  bif blkOk M C M K K2 C top left a b xs then lp gPr cf_prd (cL (cL (cR (cL (cL (cR (cL (cL (cR (cL (cR (cR C_prd)))))))))))) n { fr := mkFr 6 [(2, AV.op 0 [] 0), (3, AV.op 1 [] 0), (5, AV.op 2 [] 0), (6, I top), (7, I (IntKind.i64.wrap (left + 4)))], hp := [(0, AObj.box (AV.d ((i64T).pair ((i64T).pair ((i64T).slice.pair Ty.unit))) (M, K, a, ()))), (1, AObj.box (AV.d ((i64T).pair ((i64T).pair ((i64T).slice.pair Ty.unit))) (K2, C, b, ()))), (2, AObj.box ((I M).pr ((I C).pr ((AV.os 3 0).pr (AV.d Ty.unit PUnit.unit))))), (3, AObj.arr 2 (i64T) 0 false (blkR M.toNat K.toNat C.toNat top.toNat left.toNat a b xs))], nx := 4 } k else none else k (AEx.exit 2) { fr := mkFr 6 [(2, AV.op 0 [] 0), (3, AV.op 1 [] 0), (5, AV.op 2 [] 0), (6, I top), (7, I left), (25, I left), (26, AV.op 2 [1] 1), (27, I C), (28, B false)], hp := [(0, AObj.box (AV.d ((i64T).pair ((i64T).pair ((i64T).slice.pair Ty.unit))) (M, K, a, ()))), (1, AObj.box (AV.d ((i64T).pair ((i64T).pair ((i64T).slice.pair Ty.unit))) (K2, C, b, ()))), (2, AObj.box ((I M).pr ((I C).pr ((AV.os 3 0).pr (AV.d Ty.unit PUnit.unit))))), (3, AObj.arr 2 (i64T) 0 false xs)], nx := 4 } := by
  have h := prd_st1H (hlp gPr cf_prd) M K K2 C top left a b xs n k
  simp only [lpH_lp] at h
  exact h
def pr1e (C top left : Int) : List (Nat × AV) := [(6, I top), (7, I left), (25, I left), (26, .op 2 [1] 1), (27, I C), (28, B false)]
def pr0e (M top : Int) : List (Nat × AV) := [(6, I top), (19, I top), (20, .op 2 [0] 0), (21, I M), (22, B false)]
noncomputable def PK1 {R : Type} (n : Nat) (k : AEx → LSt → Option R) : AEx → LSt → Option R := (blkK 2 (blkK 1 (seqH gPr cf_prd [3, 6] (hlp gPr cf_prd) (cR (cR (cL (cL (cR (cL (cR (cR C_prd)))))))) (nxtH gPr cf_prd [3, 6] (hlp gPr cf_prd) (cL (cL (cR (cL (cR (cR C_prd)))))) n k))))
theorem pk1 (M K K2 C top left : Int) (a b xs : List Int) (n : Nat) {R : Type} (k : AEx → LSt → Option R) : PK1 n k (.exit 2) (stP M K K2 C a b xs (pr1e C top left)) = lp gPr cf_prd (cL (cL (cR (cL (cR (cR C_prd)))))) n (stP M K K2 C a b xs [(6, I (IntKind.i64.wrap (top + 4)))]) k :=
  Eq.trans (b := lpH gPr cf_prd [3, 6] (hlp gPr cf_prd) (cL (cL (cR (cL (cR (cR C_prd)))))) n (stP M K K2 C a b xs [(6, I (IntKind.i64.wrap (top + 4)))]) k) (by kernel_rfl) lpH_lp
noncomputable def PK : AEx → LSt → Option (AEnd × LHp) := (blkK 0 (seqH gPr cf_prd [3, 6] (hlp gPr cf_prd) (cR (cR (cR C_prd))) (endC Tryz.prog 0 Tryz.f53.results.toList ah)))
theorem PK_exit (M K K2 C top : Int) (a b xs : List Int) : PK (.exit 0) (stP M K K2 C a b xs (pr0e M top)) = some (AEnd.ret [AV.os 0 0], [(0, AObj.arr 2 (i64T) 0 false xs)]) := by kernel_rfl
end Go.Proofs.XPT
namespace Go.Proofs.XPT
open Go.Vm Go
set_option maxRecDepth 100000
set_option maxHeartbeats 1000000
def cntD (C K top left : Nat) (p : Nat) : Nat := if p / C < top ∨ (p / C < top + 4 ∧ p % C < left) then K else 0
def prodL (M K C : Nat) (a b : List Int) : List Int := mT M K C a b (fun _ => 0) fun _ => K
theorem mT_length (M K C : Nat) (a b : List Int) (g : Nat → Int) (cnt : Nat → Nat) : (mT M K C a b g cnt).length = M * C := tab_length _ _
theorem mT_getD {M K C : Nat} {a b : List Int} {g : Nat → Int} {cnt : Nat → Nat} {p : Nat} (h : p < M * C) : (mT M K C a b g cnt).getD p 0 = cellP (g p) K C a b (p / C) (p % C) (cnt p) := by
  unfold mT
  rw [List.getD_eq_getElem?_getD, tab_get h]
  rfl
theorem div_lt {M C p : Nat} (h : p < M * C) : p / C < M := Nat.div_lt_of_lt_mul (by rw [Nat.mul_comm]; exact h)
theorem blkR_mT {M K C top left : Nat} {a b : List Int} (hC : 1 ≤ C) : blkR M K C top left a b (mT M K C a b (fun _ => 0) (cntD C K top left)) = mT M K C a b (fun _ => 0) (cntD C K top (left + 4)) := by
  unfold blkR
  apply tab_congr
  intro p hp
  show cellP ((mT M K C a b (fun _ => 0) (cntD C K top left)).getD p 0) K C a b (p / C) (p % C) (bif inB M C top left p then K else 0) = cellP 0 K C a b (p / C) (p % C) (cntD C K top (left + 4) p)
  rw [mT_getD hp]
  have h1 := div_lt hp
  have h2 : p % C < C := Nat.mod_lt _ hC
  unfold inB cntD
  by_cases h : (top ≤ p / C ∧ p / C < min M (top + 4)) ∧ left ≤ p % C ∧ p % C < min C (left + 4)
  · rw [decide_eq_true h, cond_true, if_neg (by omega), if_pos (by omega)]
    rfl
  · rw [decide_eq_false h, cond_false]
    by_cases h3 : p / C < top ∨ (p / C < top + 4 ∧ p % C < left)
    · rw [if_pos h3, if_pos (by omega)]
      rfl
    · rw [if_neg h3, if_neg (by omega)]
      rfl
section
variable {M K C : Nat} {a b : List Int}
theorem p1_all {top : Nat} (hM : M * C ≤ 65536) (hMK : M * K ≤ 65536) (hK : K ≤ 65536) (hKC : K * C ≤ 65536) (hC : 1 ≤ C) (hT : top < M) (ha : a.length = M * K) (hb : b.length = K * C) {R : Type} (k : AEx → LSt → Option R) :
    ∀ (r left n : Nat), C ≤ left + r → r < n →
    ∃ l : Nat, lp gPr cf_prd (cL (cL (cR (cL (cL (cR (cL (cL (cR (cL (cR (cR C_prd)))))))))))) n (stP M K K C a b (mT M K C a b (fun _ => 0) (cntD C K top left)) [(6, I top), (7, I left)]) k =
      k (.exit 2) (stP M K K C a b (mT M K C a b (fun _ => 0) (cntD C K (top + 4) 0)) (pr1e C top l)) := by
  have hCM : C ≤ M * C := Nat.le_mul_of_pos_left _ (by omega)
  intro r
  induction r with
  | zero =>
    intro left n h1 hn
    obtain ⟨n, rfl⟩ : ∃ m', n = m' + 1 := ⟨n - 1, by omega⟩
    refine ⟨left, (prd_st1 M K K C top left a b _ n k).trans ?_⟩
    rw [decide_eq_false (show ¬ ((left : Int) < (C : Int)) by omega), cond_false]
    show k (.exit 2) (stP M K K C a b (mT M K C a b (fun _ => 0) (cntD C K top left)) (pr1e C top left)) = _
    congr 2
    apply mT_congr
    intro p hp
    have h2 : p % C < C := Nat.mod_lt _ hC
    unfold cntD
    by_cases h3 : p / C < top ∨ (p / C < top + 4 ∧ p % C < left)
    · rw [if_pos h3, if_pos (by omega)]
    · rw [if_neg h3, if_neg (by omega)]
  | succ r ih =>
    intro left n h1 hn
    obtain ⟨n, rfl⟩ : ∃ m', n = m' + 1 := ⟨n - 1, by omega⟩
    by_cases hl : left < C
    · obtain ⟨l, h⟩ := ih (left + 4) n (by omega) (by omega)
      refine ⟨l, (prd_st1 M K K C top left a b _ n k).trans ?_⟩
      have e0 : IntKind.i64.wrap ((left : Int) + 4) = ((left + 4 : Nat) : Int) := by rw [wrap64 (by omega) (by omega)]; omega
      have hok : blkOk M C M K K C top left a b (mT M K C a b (fun _ => 0) (cntD C K top left)) = true := by
        unfold blkOk
        apply decide_eq_true
        exact ⟨⟨by omega, rfl, by omega, rfl, by omega, rfl, by omega, by omega, by omega, by omega⟩, by omega, hM, hMK, hKC, ha, hb, mT_length _ _ _ _ _ _ _⟩
      rw [decide_eq_true (show ((left : Int) < (C : Int)) by omega), cond_true, hok, cond_true, e0]
      simp only [Int.toNat_natCast]
      rw [blkR_mT hC]
      exact h
    · refine ⟨left, (prd_st1 M K K C top left a b _ n k).trans ?_⟩
      rw [decide_eq_false (show ¬ ((left : Int) < (C : Int)) by omega), cond_false]
      show k (.exit 2) (stP M K K C a b (mT M K C a b (fun _ => 0) (cntD C K top left)) (pr1e C top left)) = _
      congr 2
      apply mT_congr
      intro p hp
      have h2 : p % C < C := Nat.mod_lt _ hC
      unfold cntD
      by_cases h3 : p / C < top ∨ (p / C < top + 4 ∧ p % C < left)
      · rw [if_pos h3, if_pos (by omega)]
      · rw [if_neg h3, if_neg (by omega)]
theorem p0_all (hM : M * C ≤ 65536) (hMK : M * K ≤ 65536) (hK : K ≤ 65536) (hKC : K * C ≤ 65536) (hC : 1 ≤ C) (ha : a.length = M * K) (hb : b.length = K * C) {R : Type} (k : AEx → LSt → Option R) :
    ∀ (r top n : Nat), M ≤ top + r → r < n →
    ∃ t : Nat, lp gPr cf_prd (cL (cL (cR (cL (cR (cR C_prd)))))) n (stP M K K C a b (mT M K C a b (fun _ => 0) (cntD C K top 0)) [(6, I top)]) k =
      k (.exit 0) (stP M K K C a b (prodL M K C a b) (pr0e M t)) := by
  have hMM : M ≤ M * C := Nat.le_mul_of_pos_right _ (by omega)
  have done : ∀ (top n : Nat), ¬ top < M → lp gPr cf_prd (cL (cL (cR (cL (cR (cR C_prd)))))) (n + 1) (stP M K K C a b (mT M K C a b (fun _ => 0) (cntD C K top 0)) [(6, I top)]) k =
      k (.exit 0) (stP M K K C a b (prodL M K C a b) (pr0e M top)) := by
    intro top n h
    refine (prd_st0 M K K C top a b _ n k).trans ?_
    rw [decide_eq_false (show ¬ ((top : Int) < (M : Int)) by omega), cond_false]
    show k (.exit 0) (stP M K K C a b (mT M K C a b (fun _ => 0) (cntD C K top 0)) (pr0e M top)) = _
    congr 2
    apply mT_congr
    intro p hp
    have h1 := div_lt hp
    unfold cntD
    rw [if_pos (by omega)]
  intro r
  induction r with
  | zero =>
    intro top n h1 hn
    obtain ⟨n, rfl⟩ : ∃ m', n = m' + 1 := ⟨n - 1, by omega⟩
    exact ⟨top, done top n (by omega)⟩
  | succ r ih =>
    intro top n h1 hn
    obtain ⟨n, rfl⟩ : ∃ m', n = m' + 1 := ⟨n - 1, by omega⟩
    by_cases hl : top < M
    · obtain ⟨t, h⟩ := ih (top + 4) n (by omega) (by omega)
      refine ⟨t, (prd_st0 M K K C top a b _ n k).trans ?_⟩
      have hCM : C ≤ M * C := Nat.le_mul_of_pos_left _ (by omega)
      have e0 : IntKind.i64.wrap ((top : Int) + 4) = ((top + 4 : Nat) : Int) := by rw [wrap64 (by omega) (by omega)]; omega
      rw [decide_eq_true (show ((top : Int) < (M : Int)) by omega), cond_true]
      obtain ⟨l, h2⟩ := p1_all (top := top) hM hMK hK hKC hC hl ha hb (PK1 n k) C 0 fu (by omega) (by have : fu = 18446744073709551616 := rfl; omega)
      refine h2.trans ((pk1 M K K C top l a b _ n k).trans ?_)
      rw [e0]
      exact h
    · exact ⟨top, done top n hl⟩
theorem prd_run (hM : M * C ≤ 65536) (hMK : M * K ≤ 65536) (hK : K ≤ 65536) (hKC : K * C ≤ 65536) (hC : 1 ≤ C) (ha : a.length = M * K) (hb : b.length = K * C) :
    runC gPr Tryz.f53 6 [(3, [2, 3, 5, 6]), (6, [2, 3, 5, 6, 7])] [mxD M K a, mxD K C b] [] ah = some (.ret [.os 0 0], [(0, .arr 2 i64T 0 false (prodL M K C a b))]) := by
  have hMM : M ≤ M * C := Nat.le_mul_of_pos_right _ (by omega)
  have e1 : IntKind.i64.wrap ((M : Int) * C) = ((M * C : Nat) : Int) := by rw [← Int.natCast_mul]; exact wrap64 (by omega) (by omega)
  have e2 : List.replicate (M * C) (0 : Int) = mT M K C a b (fun _ => 0) (cntD C K 0 0) := by
    apply List.ext_getElem?
    intro q
    unfold mT
    by_cases hq : q < M * C
    · rw [tab_get hq, List.getElem?_replicate, if_pos hq]
      unfold cntD
      rw [if_neg (fun h => by rcases h with h | ⟨_, h⟩ <;> exact Nat.not_lt_zero _ h)]
      rfl
    · rw [List.getElem?_eq_none (by rw [List.length_replicate]; omega), List.getElem?_eq_none (by rw [tab_length]; omega)]
  obtain ⟨t, h⟩ := p0_all hM hMK hK hKC hC ha hb PK M 0 fu (by omega) (by have : fu = 18446744073709551616 := rfl; omega)
  refine (prd_eq M K K C a b).trans ?_
  rw [e1, if_pos ⟨Int.natCast_nonneg _, by omega⟩]
  simp only [Option.bind_some, Int.toNat_natCast]
  rw [e2]
  exact h.trans (PK_exit M K K C t a b _)
end
def prdOk (M K K2 C : Int) (a b : List Int) : Bool :=
  decide ((0 ≤ M ∧ 0 ≤ K ∧ K2 = K ∧ 1 ≤ C) ∧ K ≤ 65536 ∧ M.toNat * C.toNat ≤ 65536 ∧ M.toNat * K.toNat ≤ 65536 ∧ K.toNat * C.toNat ≤ 65536 ∧ a.length = M.toNat * K.toNat ∧ b.length = K.toNat * C.toNat)
def prdT : List AV → LHp → Tq
  | [.d ((.pair (.int .i64) (.pair (.int .i64) (.pair (.slice (.int .i64)) .unit)))) (M, K, a, ()), .d ((.pair (.int .i64) (.pair (.int .i64) (.pair (.slice (.int .i64)) .unit)))) (K2, C, b, ())], [] =>
    .br (prdOk M K K2 C a b) (.leaf (.ret [.os 0 0]) [(0, .arr 2 i64T 0 false (prodL M.toNat K.toNat C.toNat a b))]) .no
  | _, _ => .no
theorem prd_tree {M K K2 C : Int} {a b : List Int} (h : prdOk M K K2 C a b = true) :
    runC gPr Tryz.f53 6 [(3, [2, 3, 5, 6]), (6, [2, 3, 5, 6, 7])] [mxD M K a, mxD K2 C b] [] ah = some (.ret [.os 0 0], [(0, .arr 2 i64T 0 false (prodL M.toNat K.toNat C.toNat a b))]) := by
  have h0 := of_decide_eq_true h
  obtain ⟨⟨h1, h3, h4, h5⟩, h11, h12, h13, h14, h15, h16⟩ := h0
  clear h
  rw [h4]
  obtain ⟨m, rfl⟩ := Int.eq_ofNat_of_zero_le h1
  obtain ⟨k, rfl⟩ := Int.eq_ofNat_of_zero_le h3
  obtain ⟨c, rfl⟩ := Int.eq_ofNat_of_zero_le (show 0 ≤ C by omega)
  rw [Int.toNat_natCast, Int.toNat_natCast, Int.toNat_natCast]
  rw [Int.toNat_natCast, Int.toNat_natCast] at h12 h13 h14 h15 h16
  exact prd_run h12 h13 (by omega) h14 (by omega) h15 h16
theorem prdT_ok : FnE.OK e0.P e0.gam 53 (treeE prdT) := by
  have h1 : FnE.OK e0.P e0.gam 53 (execFnC gPr Tryz.f53 6 [(3, [2, 3, 5, 6]), (6, [2, 3, 5, 6, 7])]) := execFnC_ok gPr_good hmix Tryz.func53 Tryz.call53 (by decide +kernel) rfl
  refine ⟨fun _ _ _ => Tq.eq _ _, fun args hs ae hs' h => ?_⟩
  have h' : (prdT args hs).run ah = some (ae, hs') := h
  clear h
  unfold prdT at h'
  split at h'
  · obtain ⟨hb, h2⟩ := Tq.br_no h'
    cases h2
    exact h1.okC (prd_tree hb)
  · cases h'
end Go.Proofs.XPT
namespace Go.Proofs.XPT
open Go.Vm Go
set_option maxRecDepth 100000
set_option maxHeartbeats 1000000
/-- the sum over the first j channels at a place p of the picture, for the kernel q -/
def cvF (P C : Nat) (x y : List Int) (p q : Nat) : Nat → Int
  | 0 => 0
  | j + 1 => binW .add (cvF P C x y p q j) (binW .mul (x.getD (j * P + p) 0) (y.getD (q * C + j) 0))
theorem slA {x : List Int} {n : Nat} (h : n ≤ x.length) : (if 0 ≤ ((n : Nat) : Int) ∧ ((n : Nat) : Int) ≤ Int.ofNat x.length ∧ Int.ofNat x.length ≤ Int.ofNat x.length then some (List.drop ((n : Nat) : Int).toNat (List.take (Int.ofNat x.length).toNat x)) else none) = some (x.drop n) := by
  rw [if_pos ⟨by omega, by simp only [Int.ofNat_eq_natCast]; omega, Int.le_refl _⟩, Int.toNat_natCast]
  show some (List.drop n (List.take x.length x)) = _
  rw [List.take_length]
theorem slB {x : List Int} {m : Nat} (h : m ≤ x.length) : (if (0 : Int) ≤ 0 ∧ 0 ≤ ((m : Nat) : Int) ∧ ((m : Nat) : Int) ≤ Int.ofNat x.length then some (List.drop 0 (List.take ((m : Nat) : Int).toNat x)) else none) = some (x.take m) := by
  rw [if_pos ⟨by omega, by omega, by simp only [Int.ofNat_eq_natCast]; omega⟩, Int.toNat_natCast]
  rfl
theorem slC {x : List Int} (h : 1 ≤ x.length) : (if (0 : Int) ≤ 0 ∧ (0 : Int) ≤ 1 ∧ 1 ≤ Int.ofNat x.length then some (List.drop 0 (List.take 1 x)) else none) = some (x.take 1) := by
  rw [if_pos ⟨by omega, by omega, by simp only [Int.ofNat_eq_natCast]; omega⟩]
  rfl
theorem cv_lp1 {t1 t2 : Int} {H W M C P : Nat} {x y o : List Int} {N i : Int} {q a b : Nat} (hP : P = H * W) (hq : q < M) (ha : a < H) (hb : b < W) (hx : x.length = C * P) (hy : y.length = M * C) (h1 : C * P ≤ 65536) (h2 : M * C ≤ 65536) (h3 : P ≤ 65536) (k : AEx → LSt → Option (AEnd × LHp)) :
    ∀ (r j nn : Nat), j + r = C → r < nn → lp gCv cf_cnv (cL (cL (cR (cL (cR (cR (cR (cR (cL (cL (cR (cR (cL (cL (cR (cL (cR (cR (cR (cR (cR (cR (cR (cR C_cnv)))))))))))))))))))))))) nn (stC1 t1 C H W t2 M C P M x y o N i q a b (cvF P C x y (a * W + b) q j) j) k = k (.exit 2) (stC1e t1 C H W t2 M C P M x y o N i q a b (cvF P C x y (a * W + b) q C) C) := by
  have hab : a * W + b < P := by
    have := Nat.mul_le_mul_right W (show a + 1 ≤ H from ha)
    rw [Nat.add_mul, Nat.one_mul] at this
    omega
  have hW : W ≤ P := by rw [hP]; exact Nat.le_mul_of_pos_left _ (by omega)
  have hH : H ≤ P := by rw [hP]; exact Nat.le_mul_of_pos_right _ (by omega)
  intro r
  induction r with
  | zero =>
    intro j nn hj hn
    obtain ⟨nn, rfl⟩ : ∃ m', nn = m' + 1 := ⟨nn - 1, by omega⟩
    obtain rfl : j = C := by omega
    rw [cnv_s1, decide_eq_false (Int.lt_irrefl _), cond_false]
    rfl
  | succ r ih =>
    intro j nn hj hn
    obtain ⟨nn, rfl⟩ : ∃ m', nn = m' + 1 := ⟨nn - 1, by omega⟩
    have key := ih (j + 1) nn (by omega) (by omega)
    have hjP : j * P + P ≤ C * P := by
      have := Nat.mul_le_mul_right P (show j + 1 ≤ C by omega)
      rw [Nat.add_mul, Nat.one_mul] at this
      omega
    have hC2 : C ≤ 65536 := Nat.le_trans (Nat.le_mul_of_pos_right C (by omega : 0 < P)) h1
    have hM2 : M ≤ 65536 := Nat.le_trans (Nat.le_mul_of_pos_right M (by omega : 0 < C)) h2
    have hqC : q * C + C ≤ M * C := by
      have := Nat.mul_le_mul_right C (show q + 1 ≤ M by omega)
      rw [Nat.add_mul, Nat.one_mul] at this
      omega
    have g0 : IntKind.i64.wrap (((q : Nat) : Int).tdiv (M : Nat)) = 0 := by
      rw [show ((q : Nat) : Int).tdiv (M : Nat) = ((q / M : Nat) : Int) from (Int.ofNat_tdiv _ _).symm, Nat.div_eq_of_lt hq]
      exact wrap64 (by omega) (by omega)
    have z0 : IntKind.i64.wrap (0 * ((C : Nat) : Int)) = 0 := by rw [Int.zero_mul]; exact wrap64 (by omega) (by omega)
    have z1 : IntKind.i64.wrap ((0 : Int) + 0) = 0 := wrap64 (by omega) (by omega)
    have z2 : IntKind.i64.wrap ((0 : Int) + ((j : Nat) : Int)) = ((j : Nat) : Int) := by rw [wrap64 (by omega) (by omega)]; omega
    have z3 : IntKind.i64.wrap (((j : Nat) : Int) * ((P : Nat) : Int)) = ((j * P : Nat) : Int) := by
      rw [← Int.natCast_mul]
      exact wrap64 (by omega) (by omega)
    have y1 : IntKind.i64.wrap (((q : Nat) : Int) * ((C : Nat) : Int)) = ((q * C : Nat) : Int) := by
      rw [← Int.natCast_mul]
      exact wrap64 (by omega) (by omega)
    have y2 : IntKind.i64.wrap (((q * C : Nat) : Int) + ((j : Nat) : Int)) = ((q * C + j : Nat) : Int) := by rw [wrap64 (by omega) (by omega)]; omega
    have y3 : IntKind.i64.wrap (((q * C + j : Nat) : Int) * 1) = ((q * C + j : Nat) : Int) := by rw [wrap64 (by omega) (by omega)]; omega
    have c1 : IntKind.i64.wrap (IntKind.i64.wrap (IntKind.i64.wrap (((a : Nat) : Int) * 1) - 0) + 0) = ((a : Nat) : Int) := by
      rw [Int.mul_one, wrap64 (n := ((a : Nat) : Int)) (by omega) (by omega), Int.sub_zero, wrap64 (n := ((a : Nat) : Int)) (by omega) (by omega), Int.add_zero, wrap64 (by omega) (by omega)]
    have c2 : IntKind.i64.wrap (IntKind.i64.wrap (IntKind.i64.wrap (((b : Nat) : Int) * 1) - 0) + 0) = ((b : Nat) : Int) := by
      rw [Int.mul_one, wrap64 (n := ((b : Nat) : Int)) (by omega) (by omega), Int.sub_zero, wrap64 (n := ((b : Nat) : Int)) (by omega) (by omega), Int.add_zero, wrap64 (by omega) (by omega)]
    have c3 : IntKind.i64.wrap (((a : Nat) : Int) * ((W : Nat) : Int)) = ((a * W : Nat) : Int) := by
      rw [← Int.natCast_mul]
      exact wrap64 (by omega) (by omega)
    have c4 : IntKind.i64.wrap (((a * W : Nat) : Int) + ((b : Nat) : Int)) = ((a * W + b : Nat) : Int) := by rw [wrap64 (by omega) (by omega)]; omega
    have w5 : IntKind.i64.wrap (((j : Nat) : Int) + 1) = ((j + 1 : Nat) : Int) := by rw [wrap64 (by omega) (by omega)]; omega
    have e1 : idx ((x.drop (j * P)).take P) ((a * W + b : Nat) : Int) = some (x.getD (j * P + (a * W + b)) 0) := get_row hab (by omega)
    have e2 : idx ((y.drop (q * C + j)).take 1) 0 = some (y.getD (q * C + j) 0) := by
      have := get_row (a := y) (K := 1) (i := q * C + j) (m := 0) (by omega) (by omega)
      rw [Nat.mul_one, Nat.add_zero] at this
      exact this
    rw [cnv_s1, decide_eq_true (show ((j : Nat) : Int) < ((C : Nat) : Int) by omega), cond_true, if_neg (show ¬ (((M : Nat) : Int) = 0) by omega), Option.bind_some, g0, z0, z1, z2, z3, slA (by omega), Option.bind_some, slB (by rw [List.length_drop]; omega), Option.bind_some, y1, y2, y3, slA (by omega), Option.bind_some, slC (by rw [List.length_drop]; omega), Option.bind_some, c1, c2, c3, c4,
      decide_eq_false (show ¬ (((a : Nat) : Int) < 0) by omega), decide_eq_false (show ¬ (((a : Nat) : Int) ≥ ((H : Nat) : Int)) by omega), decide_eq_false (show ¬ (((b : Nat) : Int) < 0) by omega), decide_eq_false (show ¬ (((b : Nat) : Int) ≥ ((W : Nat) : Int)) by omega), cond_false, cond_false, cond_false, cond_false, e1, Option.bind_some, e2, Option.bind_some, w5]
    exact key
end Go.Proofs.XPT
namespace Go.Proofs.XPT
open Go.Vm Go
set_option maxRecDepth 100000
set_option maxHeartbeats 4000000
noncomputable def C_mcs : Code := codeOf Tryz.f51
noncomputable def cf_mcs : Cfg := ⟨97, 7, 0, [(7, [2, 6, 7, 8, 10, 56, 57]), (14, [2, 6, 7, 14, 71, 72, 73])], true⟩
theorem mcs_eqH (hl : Hl) (t a b : Int) (x : List Int) : runH g202 Tryz.f51 7 [(7, [2, 6, 7, 8, 10, 56, 57]), (14, [2, 6, 7, 14, 71, 72, 73])] [7] hl [.d (Y0) (t, [a, b], x, ()), .d (.slice i64T) []] [] ah = (if IntKind.i64.wrap (a * b) = 0 then none else some (IntKind.i64.wrap ((Int.ofNat x.length).tdiv (IntKind.i64.wrap (a * b))))).bind fun v0 => (if 0 ≤ v0 ∧ v0 ≤ 4294967296 then some (List.replicate v0.toNat 0) else none).bind fun v1 => hl (cL (cL (cR (cL (cR (cR (cR (cR (cR (cR C_mcs)))))))))) _ { fr := mkFr 7 [(2, AV.op 0 [] 0), (6, I a), (7, I b), (8, AV.op 1 [] 0), (10, AV.os 3 0), (56, I (Int.ofNat v1.length)), (57, I 0)], hp := [(0, AObj.box (AV.d Y0 (t, [a, b], x, ()))), (1, AObj.box ((I 0).pr (AV.emp.pr ((AV.os 2 0).pr (AV.d Ty.unit PUnit.unit))))), (2, AObj.arr 3 (i64T) 0 false []), (3, AObj.arr 2 (i64T) 0 false v1)], nx := 4 } (blkK 0 (seqH g202 cf_mcs [7] hl (cR (cR (cR (cR (cR (cR (cR C_mcs))))))) (endC Tryz.prog 0 Tryz.f51.results.toList ah))) := by kernel_rfl
theorem mcs_eq (t a b : Int) (x : List Int) : runC g202 Tryz.f51 7 [(7, [2, 6, 7, 8, 10, 56, 57]), (14, [2, 6, 7, 14, 71, 72, 73])] [.d (Y0) (t, [a, b], x, ()), .d (.slice i64T) []] [] ah = (if IntKind.i64.wrap (a * b) = 0 then none else some (IntKind.i64.wrap ((Int.ofNat x.length).tdiv (IntKind.i64.wrap (a * b))))).bind fun v0 => (if 0 ≤ v0 ∧ v0 ≤ 4294967296 then some (List.replicate v0.toNat 0) else none).bind fun v1 => (hlp g202 cf_mcs) (cL (cL (cR (cL (cR (cR (cR (cR (cR (cR C_mcs)))))))))) _ { fr := mkFr 7 [(2, AV.op 0 [] 0), (6, I a), (7, I b), (8, AV.op 1 [] 0), (10, AV.os 3 0), (56, I (Int.ofNat v1.length)), (57, I 0)], hp := [(0, AObj.box (AV.d Y0 (t, [a, b], x, ()))), (1, AObj.box ((I 0).pr (AV.emp.pr ((AV.os 2 0).pr (AV.d Ty.unit PUnit.unit))))), (2, AObj.arr 3 (i64T) 0 false []), (3, AObj.arr 2 (i64T) 0 false v1)], nx := 4 } (blkK 0 (seqH g202 cf_mcs [7] (hlp g202 cf_mcs) (cR (cR (cR (cR (cR (cR (cR C_mcs))))))) (endC Tryz.prog 0 Tryz.f51.results.toList ah))) := runH_runC.trans (mcs_eqH (hlp g202 cf_mcs) t a b x)
def stM (t a b : Int) (x l : List Int) : LSt := { fr := mkFr 7 [(2, AV.op 0 [] 0), (6, I a), (7, I b), (8, AV.op 1 [] 0), (10, AV.os 3 0), (56, I (Int.ofNat l.length)), (57, I 0)], hp := [(0, AObj.box (AV.d (Y0) (t, [a, b], x, PUnit.unit))), (1, AObj.box ((I 0).pr (AV.emp.pr ((AV.os 2 0).pr (AV.d Ty.unit PUnit.unit))))), (2, AObj.arr 3 (i64T) 0 false []), (3, AObj.arr 2 (i64T) 0 false l)], nx := 4 }
noncomputable def MK : AEx → LSt → Option (AEnd × LHp) := (blkK 0 (seqH g202 cf_mcs [7] (hlp g202 cf_mcs) (cR (cR (cR (cR (cR (cR (cR C_mcs))))))) (endC Tryz.prog 0 Tryz.f51.results.toList ah)))
theorem mcs_one (t a b : Int) (x : List Int) : lp g202 cf_mcs (cL (cL (cR (cL (cR (cR (cR (cR (cR (cR C_mcs)))))))))) fu (stM t a b x [0]) MK = (if 0 ≤ IntKind.i64.wrap (IntKind.i64.wrap (0 * a) * b) ∧ IntKind.i64.wrap (IntKind.i64.wrap (0 * a) * b) ≤ Int.ofNat x.length ∧ Int.ofNat x.length ≤ Int.ofNat x.length then some (List.drop (IntKind.i64.wrap (IntKind.i64.wrap (0 * a) * b)).toNat (List.take (Int.ofNat x.length).toNat x)) else none).bind fun v0 => (if (0 : Int) ≤ 0 ∧ 0 ≤ IntKind.i64.wrap (a * b) ∧ IntKind.i64.wrap (a * b) ≤ Int.ofNat v0.length then some (List.drop 0 (List.take (IntKind.i64.wrap (a * b)).toNat v0)) else none).bind fun v1 => some (AEnd.ret [AV.os 0 0], [(0, AObj.arr 98 ((i64T).pair ((i64T).pair ((i64T).slice.pair Ty.unit))) 0 false [(a, b, v1, ())])]) := by kernel_rfl
end Go.Proofs.XPT
namespace Go.Proofs.XPT
open Go.Vm Go
set_option maxRecDepth 100000
set_option maxHeartbeats 1000000
theorem mcs_key {a b : Int} {t : Int} {x : List Int} (w1 : IntKind.i64.wrap (a * b) = a * b) (h1 : 1 ≤ a * b) (w2 : IntKind.i64.wrap ((Int.ofNat x.length).tdiv (a * b)) = 1) : runC g202 Tryz.f51 7 [(7, [2, 6, 7, 8, 10, 56, 57]), (14, [2, 6, 7, 14, 71, 72, 73])] [.d (Y0) (t, [a, b], x, ()), .d (.slice i64T) []] [] ah = lp g202 cf_mcs (cL (cL (cR (cL (cR (cR (cR (cR (cR (cR C_mcs)))))))))) fu (stM t a b x [0]) MK := by
  obtain ⟨R, hR⟩ : ∃ R, lp g202 cf_mcs (cL (cL (cR (cL (cR (cR (cR (cR (cR (cR C_mcs)))))))))) fu (stM t a b x [0]) MK = R := ⟨_, rfl⟩
  rw [hR]
  refine (mcs_eq t a b x).trans ?_
  rw [w1, if_neg (by omega), w2]
  rw [Option.bind_some, if_pos (by omega), Option.bind_some, show List.replicate (1 : Int).toNat (0 : Int) = [0] from rfl, ← hR]
  kernel_rfl
theorem mcs_run {a b : Int} {t : Int} {x : List Int} (ha : 1 ≤ a) (hb : 1 ≤ b) (hab : a * b ≤ 65536) (hx : (x.length : Int) = a * b) :
    runC g202 Tryz.f51 7 [(7, [2, 6, 7, 8, 10, 56, 57]), (14, [2, 6, 7, 14, 71, 72, 73])] [.d (Y0) (t, [a, b], x, ()), .d (.slice i64T) []] [] ah = some (.ret [.os 0 0], [(0, .arr 98 (Y6) 0 false [(a, b, x, ())])]) := by
  have h1 : 1 ≤ a * b := by have := Int.mul_le_mul ha hb (by omega) (by omega); omega
  have w1 : IntKind.i64.wrap (a * b) = a * b := wrap64 (by omega) (by omega)
  have w2 : IntKind.i64.wrap ((Int.ofNat x.length).tdiv (a * b)) = 1 := by
    rw [show Int.ofNat x.length = a * b from hx, Int.tdiv_self (by omega)]
    rfl
  have w3 : IntKind.i64.wrap (IntKind.i64.wrap (0 * a) * b) = 0 := by
    rw [Int.zero_mul, show IntKind.i64.wrap 0 = 0 from wrap64 (by omega) (by omega), Int.zero_mul]
    exact wrap64 (by omega) (by omega)
  refine (mcs_key w1 h1 w2).trans ((mcs_one t a b x).trans ?_)
  rw [w3, w1, if_pos ⟨Int.le_refl _, Int.natCast_nonneg _, Int.le_refl _⟩, Option.bind_some, Int.toNat_zero, List.drop_zero, show (Int.ofNat x.length).toNat = x.length from rfl, List.take_length, if_pos ⟨Int.le_refl _, by omega, by rw [show Int.ofNat x.length = a * b from hx]; exact Int.le_refl _⟩, Option.bind_some, ← hx, Int.toNat_natCast, List.take_length]
  rfl
def mcsT1 : List AV → LHp → Tq
  | [.d ((.pair (.int .i64) (.pair (.slice (.int .i64)) (.pair (.slice (.int .i64)) .unit)))) (_, [a, b], x, ()), .d (.slice (.int .i64)) []], [] =>
    .br (decide (1 ≤ a ∧ 1 ≤ b ∧ a * b ≤ 65536 ∧ (x.length : Int) = a * b)) (.leaf (.ret [.os 0 0]) [(0, .arr 98 (Y6) 0 false [(a, b, x, ())])]) .no
  | _, _ => .no
theorem mcsT1_ok : FnE.OK e0.P e0.gam 51 (treeE mcsT1) := by
  have h1 : FnE.OK e0.P e0.gam 51 (execFnC g202 Tryz.f51 7 [(7, [2, 6, 7, 8, 10, 56, 57]), (14, [2, 6, 7, 14, 71, 72, 73])]) := y51_ok
  refine ⟨fun _ _ _ => Tq.eq _ _, fun args hs ae hs' h => ?_⟩
  have h' : (mcsT1 args hs).run ah = some (ae, hs') := h
  clear h
  unfold mcsT1 at h'
  split at h'
  · obtain ⟨hb, h2⟩ := Tq.br_no h'
    obtain ⟨c1, c2, c3, c4⟩ := of_decide_eq_true hb
    cases h2
    exact h1.okC (mcs_run c1 c2 c3 c4)
  · cases h'
end Go.Proofs.XPT
namespace Go.Proofs.XPT
open Go.Vm Go
set_option maxRecDepth 100000
set_option maxHeartbeats 4000000
def hpL (z : Bool) (t1 : Int) (d1 x1 : List Int) (t2 : Int) (d2 x2 : List Int) : LHp := [(0, .arr 25 (Y0) 0 z [(t1, d1, x1, ()), (t2, d2, x2, ())]), (1, .arr 9 .str 0 false [[120], [119]])]
theorem bgm_eq (t1 a b t2 c d : Int) (x y : List Int) : runC g201 Tryz.f26 6 [(3, [2, 4, 6, 9, 10, 11])] [nodeA strMM [] [122] (.os 1 0) .nils, .os 0 0] (hpL false t1 [a, b] x t2 [c, d] y) ah = bif decide (2 ≤ 9223372036854775807 ∧ x.length ≤ 9223372036854775807) then  bif tenE t1 [a, b] x != 0 then some (AEnd.ret [(AV.d Ty.str []).pr ((I 0).pr (AV.nils.pr (AV.d Ty.unit PUnit.unit))), I 1], [(0, AObj.arr 25 Y0 0 false [(t1, [a, b], x, ()), (t2, [c, d], y, ())]), (1, AObj.arr 9 Ty.str 0 false [[120], [119]])]) else  bif decide (2 ≤ 9223372036854775807 ∧ y.length ≤ 9223372036854775807) then  bif tenE t2 [c, d] y != 0 then some (AEnd.ret [(AV.d Ty.str []).pr ((I 0).pr (AV.nils.pr (AV.d Ty.unit PUnit.unit))), I 1], [(0, AObj.arr 25 Y0 0 false [(t1, [a, b], x, ()), (t2, [c, d], y, ())]), (1, AObj.arr 9 Ty.str 0 false [[120], [119]])]) else  bif !numOk t1 0 then some (AEnd.ret [(AV.d Ty.str []).pr ((I 0).pr (AV.nils.pr (AV.d Ty.unit PUnit.unit))), I 5], [(0, AObj.arr 25 Y0 0 false [(t1, [a, b], x, ()), (t2, [c, d], y, ())]), (1, AObj.arr 9 Ty.str 0 false [[120], [119]])]) else  bif countE [a, b] != 0 then some (AEnd.ret [(AV.d Ty.str []).pr ((I 0).pr (AV.nils.pr (AV.d Ty.unit PUnit.unit))), I (countE [a, b])], [(0, AObj.arr 25 Y0 0 false [(t1, [a, b], x, ()), (t2, [c, d], y, ())]), (1, AObj.arr 9 Ty.str 0 false [[120], [119]])]) else  bif !numOk t2 0 then some (AEnd.ret [(AV.d Ty.str []).pr ((I 0).pr (AV.nils.pr (AV.d Ty.unit PUnit.unit))), I 5], [(0, AObj.arr 25 Y0 0 false [(t1, [a, b], x, ()), (t2, [c, d], y, ())]), (1, AObj.arr 9 Ty.str 0 false [[120], [119]])]) else  bif countE [c, d] != 0 then some (AEnd.ret [(AV.d Ty.str []).pr ((I 0).pr (AV.nils.pr (AV.d Ty.unit PUnit.unit))), I (countE [c, d])], [(0, AObj.arr 25 Y0 0 false [(t1, [a, b], x, ()), (t2, [c, d], y, ())]), (1, AObj.arr 9 Ty.str 0 false [[120], [119]])]) else  bif t1 == 6 then  bif t1 != 1 then some (AEnd.ret [(AV.d Ty.str []).pr ((I 0).pr (AV.nils.pr (AV.d Ty.unit PUnit.unit))), I 4], [(0, AObj.arr 25 Y0 0 false [(t1, [a, b], x, ()), (t2, [c, d], y, ())]), (1, AObj.arr 9 Ty.str 0 false [[120], [119]])]) else  bif t2 != 1 then some (AEnd.ret [(AV.d Ty.str []).pr ((I 0).pr (AV.nils.pr (AV.d Ty.unit PUnit.unit))), I 4], [(0, AObj.arr 25 Y0 0 false [(t1, [a, b], x, ()), (t2, [c, d], y, ())]), (1, AObj.arr 9 Ty.str 0 false [[120], [119]])]) else  bif !b == c then some (AEnd.ret [(AV.d Ty.str []).pr ((I 0).pr (AV.nils.pr (AV.d Ty.unit PUnit.unit))), I 4], [(0, AObj.arr 25 Y0 0 false [(t1, [a, b], x, ()), (t2, [c, d], y, ())]), (1, AObj.arr 9 Ty.str 0 false [[120], [119]])]) else  bif countE [a, d] != 0 then some (AEnd.ret [(AV.d Ty.str []).pr ((I 0).pr (AV.nils.pr (AV.d Ty.unit PUnit.unit))), I (countE [a, d])], [(0, AObj.arr 25 Y0 0 false [(t1, [a, b], x, ()), (t2, [c, d], y, ())]), (1, AObj.arr 9 Ty.str 0 false [[120], [119]])]) else some (AEnd.ret [(AV.d Ty.str [122]).pr ((I t1).pr ((AV.os 2 0).pr (AV.d Ty.unit PUnit.unit))), I 0], [(0, AObj.arr 25 Y0 0 false [(t1, [a, b], x, ()), (t2, [c, d], y, ())]), (1, AObj.arr 9 Ty.str 0 false [[120], [119]]), (2, AObj.arr 3 (i64T) 0 false [a, d])]) else  bif t1 != 1 then some (AEnd.ret [(AV.d Ty.str []).pr ((I 0).pr (AV.nils.pr (AV.d Ty.unit PUnit.unit))), I 4], [(0, AObj.arr 25 Y0 0 false [(t1, [a, b], x, ()), (t2, [c, d], y, ())]), (1, AObj.arr 9 Ty.str 0 false [[120], [119]])]) else  bif t2 != 1 then some (AEnd.ret [(AV.d Ty.str []).pr ((I 0).pr (AV.nils.pr (AV.d Ty.unit PUnit.unit))), I 4], [(0, AObj.arr 25 Y0 0 false [(t1, [a, b], x, ()), (t2, [c, d], y, ())]), (1, AObj.arr 9 Ty.str 0 false [[120], [119]])]) else  bif !b == c then some (AEnd.ret [(AV.d Ty.str []).pr ((I 0).pr (AV.nils.pr (AV.d Ty.unit PUnit.unit))), I 4], [(0, AObj.arr 25 Y0 0 false [(t1, [a, b], x, ()), (t2, [c, d], y, ())]), (1, AObj.arr 9 Ty.str 0 false [[120], [119]])]) else  bif countE [a, d] != 0 then some (AEnd.ret [(AV.d Ty.str []).pr ((I 0).pr (AV.nils.pr (AV.d Ty.unit PUnit.unit))), I (countE [a, d])], [(0, AObj.arr 25 Y0 0 false [(t1, [a, b], x, ()), (t2, [c, d], y, ())]), (1, AObj.arr 9 Ty.str 0 false [[120], [119]])]) else some (AEnd.ret [(AV.d Ty.str [122]).pr ((I t1).pr ((AV.os 2 0).pr (AV.d Ty.unit PUnit.unit))), I 0], [(0, AObj.arr 25 Y0 0 false [(t1, [a, b], x, ()), (t2, [c, d], y, ())]), (1, AObj.arr 9 Ty.str 0 false [[120], [119]]), (2, AObj.arr 3 (i64T) 0 false [a, d])]) else none else none := by kernel_rfl
theorem bgg_eq (t1 a b t2 c d : Int) (x y : List Int) : runC g201 Tryz.f26 6 [(3, [2, 4, 6, 9, 10, 11])] [nodeA strGM [] [122] (.os 1 0) .nils, .os 0 0] (hpL false t1 [a, b] x t2 [c, d] y) ah = bif decide (2 ≤ 9223372036854775807 ∧ x.length ≤ 9223372036854775807) then  bif tenE t1 [a, b] x != 0 then some (AEnd.ret [(AV.d Ty.str []).pr ((I 0).pr (AV.nils.pr (AV.d Ty.unit PUnit.unit))), I 1], [(0, AObj.arr 25 Y0 0 false [(t1, [a, b], x, ()), (t2, [c, d], y, ())]), (1, AObj.arr 9 Ty.str 0 false [[120], [119]])]) else  bif decide (2 ≤ 9223372036854775807 ∧ y.length ≤ 9223372036854775807) then  bif tenE t2 [c, d] y != 0 then some (AEnd.ret [(AV.d Ty.str []).pr ((I 0).pr (AV.nils.pr (AV.d Ty.unit PUnit.unit))), I 1], [(0, AObj.arr 25 Y0 0 false [(t1, [a, b], x, ()), (t2, [c, d], y, ())]), (1, AObj.arr 9 Ty.str 0 false [[120], [119]])]) else  bif !numOk t1 0 then some (AEnd.ret [(AV.d Ty.str []).pr ((I 0).pr (AV.nils.pr (AV.d Ty.unit PUnit.unit))), I 5], [(0, AObj.arr 25 Y0 0 false [(t1, [a, b], x, ()), (t2, [c, d], y, ())]), (1, AObj.arr 9 Ty.str 0 false [[120], [119]])]) else  bif countE [a, b] != 0 then some (AEnd.ret [(AV.d Ty.str []).pr ((I 0).pr (AV.nils.pr (AV.d Ty.unit PUnit.unit))), I (countE [a, b])], [(0, AObj.arr 25 Y0 0 false [(t1, [a, b], x, ()), (t2, [c, d], y, ())]), (1, AObj.arr 9 Ty.str 0 false [[120], [119]])]) else  bif !numOk t2 0 then some (AEnd.ret [(AV.d Ty.str []).pr ((I 0).pr (AV.nils.pr (AV.d Ty.unit PUnit.unit))), I 5], [(0, AObj.arr 25 Y0 0 false [(t1, [a, b], x, ()), (t2, [c, d], y, ())]), (1, AObj.arr 9 Ty.str 0 false [[120], [119]])]) else  bif countE [c, d] != 0 then some (AEnd.ret [(AV.d Ty.str []).pr ((I 0).pr (AV.nils.pr (AV.d Ty.unit PUnit.unit))), I (countE [c, d])], [(0, AObj.arr 25 Y0 0 false [(t1, [a, b], x, ()), (t2, [c, d], y, ())]), (1, AObj.arr 9 Ty.str 0 false [[120], [119]])]) else  bif t1 == 6 then  bif t1 != 1 then some (AEnd.ret [(AV.d Ty.str []).pr ((I 0).pr (AV.nils.pr (AV.d Ty.unit PUnit.unit))), I 4], [(0, AObj.arr 25 Y0 0 false [(t1, [a, b], x, ()), (t2, [c, d], y, ())]), (1, AObj.arr 9 Ty.str 0 false [[120], [119]])]) else  bif t2 != 1 then some (AEnd.ret [(AV.d Ty.str []).pr ((I 0).pr (AV.nils.pr (AV.d Ty.unit PUnit.unit))), I 4], [(0, AObj.arr 25 Y0 0 false [(t1, [a, b], x, ()), (t2, [c, d], y, ())]), (1, AObj.arr 9 Ty.str 0 false [[120], [119]])]) else  bif !b == c then some (AEnd.ret [(AV.d Ty.str []).pr ((I 0).pr (AV.nils.pr (AV.d Ty.unit PUnit.unit))), I 4], [(0, AObj.arr 25 Y0 0 false [(t1, [a, b], x, ()), (t2, [c, d], y, ())]), (1, AObj.arr 9 Ty.str 0 false [[120], [119]])]) else  bif countE [a, d] != 0 then some (AEnd.ret [(AV.d Ty.str []).pr ((I 0).pr (AV.nils.pr (AV.d Ty.unit PUnit.unit))), I (countE [a, d])], [(0, AObj.arr 25 Y0 0 false [(t1, [a, b], x, ()), (t2, [c, d], y, ())]), (1, AObj.arr 9 Ty.str 0 false [[120], [119]])]) else some (AEnd.ret [(AV.d Ty.str [122]).pr ((I t1).pr ((AV.os 2 0).pr (AV.d Ty.unit PUnit.unit))), I 0], [(0, AObj.arr 25 Y0 0 false [(t1, [a, b], x, ()), (t2, [c, d], y, ())]), (1, AObj.arr 9 Ty.str 0 false [[120], [119]]), (2, AObj.arr 3 (i64T) 0 false [a, d])]) else  bif t1 != 1 then some (AEnd.ret [(AV.d Ty.str []).pr ((I 0).pr (AV.nils.pr (AV.d Ty.unit PUnit.unit))), I 4], [(0, AObj.arr 25 Y0 0 false [(t1, [a, b], x, ()), (t2, [c, d], y, ())]), (1, AObj.arr 9 Ty.str 0 false [[120], [119]])]) else  bif t2 != 1 then some (AEnd.ret [(AV.d Ty.str []).pr ((I 0).pr (AV.nils.pr (AV.d Ty.unit PUnit.unit))), I 4], [(0, AObj.arr 25 Y0 0 false [(t1, [a, b], x, ()), (t2, [c, d], y, ())]), (1, AObj.arr 9 Ty.str 0 false [[120], [119]])]) else  bif !b == c then some (AEnd.ret [(AV.d Ty.str []).pr ((I 0).pr (AV.nils.pr (AV.d Ty.unit PUnit.unit))), I 4], [(0, AObj.arr 25 Y0 0 false [(t1, [a, b], x, ()), (t2, [c, d], y, ())]), (1, AObj.arr 9 Ty.str 0 false [[120], [119]])]) else  bif countE [a, d] != 0 then some (AEnd.ret [(AV.d Ty.str []).pr ((I 0).pr (AV.nils.pr (AV.d Ty.unit PUnit.unit))), I (countE [a, d])], [(0, AObj.arr 25 Y0 0 false [(t1, [a, b], x, ()), (t2, [c, d], y, ())]), (1, AObj.arr 9 Ty.str 0 false [[120], [119]])]) else some (AEnd.ret [(AV.d Ty.str [122]).pr ((I t1).pr ((AV.os 2 0).pr (AV.d Ty.unit PUnit.unit))), I 0], [(0, AObj.arr 25 Y0 0 false [(t1, [a, b], x, ()), (t2, [c, d], y, ())]), (1, AObj.arr 9 Ty.str 0 false [[120], [119]]), (2, AObj.arr 3 (i64T) 0 false [a, d])]) else none else none := by kernel_rfl
/-- the error with which a product of two matrices begins -/
def bgnE (t1 a b : Int) (x : List Int) (t2 c d : Int) (y : List Int) : Int := bif tenE t1 [a, b] x != 0 then 1 else bif tenE t2 [c, d] y != 0 then 1 else bif t1 != 1 then 4 else bif t2 != 1 then 4 else bif !b == c then 4 else countE [a, d]
def zeroV : AV := (AV.d Ty.str []).pr ((I 0).pr (AV.nils.pr (AV.d Ty.unit PUnit.unit)))
def bgnR (t1 a b : Int) (x : List Int) (t2 c d : Int) (y : List Int) : Option (AEnd × LHp) := bif bgnE t1 a b x t2 c d y != 0 then some (.ret [zeroV, I (bgnE t1 a b x t2 c d y)], hpL false t1 [a, b] x t2 [c, d] y) else some (.ret [(AV.d Ty.str [122]).pr ((I t1).pr ((AV.os 2 0).pr (AV.d Ty.unit PUnit.unit))), I 0], hpL false t1 [a, b] x t2 [c, d] y ++ [(2, .arr 3 i64T 0 false [a, d])])
theorem bgm_run {t1 a b t2 c d : Int} {x y : List Int} (h1 : x.length ≤ maxLen) (h2 : y.length ≤ maxLen) : runC g201 Tryz.f26 6 [(3, [2, 4, 6, 9, 10, 11])] [nodeA strMM [] [122] (.os 1 0) .nils, .os 0 0] (hpL false t1 [a, b] x t2 [c, d] y) ah = bgnR t1 a b x t2 c d y := by
  rw [bgm_eq, decide_eq_true (show 2 ≤ 9223372036854775807 ∧ x.length ≤ 9223372036854775807 from ⟨by decide, h1⟩), decide_eq_true (show 2 ≤ 9223372036854775807 ∧ y.length ≤ 9223372036854775807 from ⟨by decide, h2⟩)]
  unfold bgnR bgnE
  cases e1 : tenE t1 [a, b] x != 0 with
  | true => rfl
  | false =>
    cases e2 : tenE t2 [c, d] y != 0 with
    | true => rfl
    | false =>
      obtain ⟨n1, n2, _⟩ := ten_ok (show tenE t1 [a, b] x = 0 by simpa using e1)
      obtain ⟨m1, m2, _⟩ := ten_ok (show tenE t2 [c, d] y = 0 by simpa using e2)
      rw [n1, n2, m1, m2]
      cases t1 == 6 <;> cases t1 != 1 <;> cases t2 != 1 <;> cases !b == c <;> first | rfl | (cases h : countE [a, d] != 0 <;> simp only [cond_true, cond_false, Bool.not_true, bne_self_eq_false, h] <;> rfl)
theorem bgg_run {t1 a b t2 c d : Int} {x y : List Int} (h1 : x.length ≤ maxLen) (h2 : y.length ≤ maxLen) : runC g201 Tryz.f26 6 [(3, [2, 4, 6, 9, 10, 11])] [nodeA strGM [] [122] (.os 1 0) .nils, .os 0 0] (hpL false t1 [a, b] x t2 [c, d] y) ah = bgnR t1 a b x t2 c d y := by
  rw [bgg_eq, decide_eq_true (show 2 ≤ 9223372036854775807 ∧ x.length ≤ 9223372036854775807 from ⟨by decide, h1⟩), decide_eq_true (show 2 ≤ 9223372036854775807 ∧ y.length ≤ 9223372036854775807 from ⟨by decide, h2⟩)]
  unfold bgnR bgnE
  cases e1 : tenE t1 [a, b] x != 0 with
  | true => rfl
  | false =>
    cases e2 : tenE t2 [c, d] y != 0 with
    | true => rfl
    | false =>
      obtain ⟨n1, n2, _⟩ := ten_ok (show tenE t1 [a, b] x = 0 by simpa using e1)
      obtain ⟨m1, m2, _⟩ := ten_ok (show tenE t2 [c, d] y = 0 by simpa using e2)
      rw [n1, n2, m1, m2]
      cases t1 == 6 <;> cases t1 != 1 <;> cases t2 != 1 <;> cases !b == c <;> first | rfl | (cases h : countE [a, d] != 0 <;> simp only [cond_true, cond_false, Bool.not_true, bne_self_eq_false, h] <;> rfl)
def bgnT : List AV → LHp → Tq
  | [n, .os 0 0], [(0, .arr 25 ((.pair (.int .i64) (.pair (.slice (.int .i64)) (.pair (.slice (.int .i64)) .unit)))) 0 false [(t1, [a, b], x, ()), (t2, [c, d], y, ())]), (1, .arr 9 .str 0 false ins)] =>
    (match nodeP n with
    | some (op, nm, out, .os 1 0, .nils) => gate ((decide (op = strMM) || decide (op = strGM)) && decide (nm = []) && decide (out = [122]) && decide (ins = [[120], [119]]))
        (.br (decide (x.length ≤ maxLen ∧ y.length ≤ maxLen)) (.br (bgnE t1 a b x t2 c d y != 0) (.leaf (.ret [zeroV, I (bgnE t1 a b x t2 c d y)]) (hpL false t1 [a, b] x t2 [c, d] y)) (.leaf (.ret [(AV.d Ty.str [122]).pr ((I t1).pr ((AV.os 2 0).pr (AV.d Ty.unit PUnit.unit))), I 0]) (hpL false t1 [a, b] x t2 [c, d] y ++ [(2, .arr 3 i64T 0 false [a, d])]))) .no)
    | _ => .no)
  | _, _ => .no
theorem bgnT_ok : FnE.OK e0.P e0.gam 26 (treeE bgnT) := by
  have h1 : FnE.OK e0.P e0.gam 26 (execFnC g201 Tryz.f26 6 [(3, [2, 4, 6, 9, 10, 11])]) := y26_ok
  refine ⟨fun _ _ _ => Tq.eq _ _, fun args hs ae hs' h => ?_⟩
  have h' : (bgnT args hs).run ah = some (ae, hs') := h
  clear h
  unfold bgnT at h'
  split at h'
  · split at h'
    · rename_i hn
      rw [nodeP_some hn]
      obtain ⟨hb, h2⟩ := gate_run h'
      clear h'
      simp only [Bool.and_eq_true, Bool.or_eq_true, decide_eq_true_eq] at hb
      obtain ⟨⟨⟨b1, b2⟩, b3⟩, b4⟩ := hb
      subst b2 b3 b4
      obtain ⟨hl, h3⟩ := Tq.br_no h2
      obtain ⟨l1, l2⟩ := of_decide_eq_true hl
      rcases b1 with b1 | b1
      · subst b1
        exact h1.okC ((bgm_run l1 l2).trans h3)
      · subst b1
        exact h1.okC ((bgg_run l1 l2).trans h3)
    · cases h'
  · cases h'
end Go.Proofs.XPT
namespace Go.Proofs.XPT
open Go.Vm Go
set_option maxRecDepth 100000
set_option maxHeartbeats 4000000
noncomputable def gMm : Env := (g209.add 51 (treeE mcsT1)).add 53 (treeE prdT)
theorem gMm_good : gMm.Good := (g209_good.add mcsT1_ok).add prdT_ok
def hpMm (z : Bool) (t1 : Int) (d1 x1 : List Int) (t2 : Int) (d2 x2 : List Int) (d3 : List Int) : LHp := [(0, .arr 3 i64T 0 z d3), (1, .arr 25 (Y0) 0 z [(t1, d1, x1, ()), (t2, d2, x2, ())])]
theorem mml_eq (t1 a b t2 c d e f : Int) (x y : List Int) : runC gMm Tryz.f27 6 [(6, [8, 9, 10, 32, 33])] [.os 1 0, .os 0 0] (hpMm false t1 [a, b] x t2 [c, d] y [e, f]) ah = bif decide (1 ≤ a ∧ 1 ≤ b ∧ a * b ≤ 65536 ∧ Int.ofNat x.length = a * b) then  bif decide (1 ≤ c ∧ 1 ≤ d ∧ c * d ≤ 65536 ∧ Int.ofNat y.length = c * d) then  bif prdOk a b c d x y then  bif decide (IntKind.i64.wrap (Int.ofNat (0 + (prodL a.toNat b.toNat d.toNat x y).length)) < 0) then none else  bif decide (IntKind.i64.wrap (Int.ofNat (0 + (prodL a.toNat b.toNat d.toNat x y).length)) < 0) then none else  bif decide (IntKind.i64.wrap (IntKind.i64.wrap (Int.ofNat (0 + (prodL a.toNat b.toNat d.toNat x y).length)) - 0) > 0) then  bif decide (0 < IntKind.i64.wrap (IntKind.i64.wrap (Int.ofNat (0 + (prodL a.toNat b.toNat d.toNat x y).length)) - 0)) && decide (IntKind.i64.wrap (IntKind.i64.wrap (Int.ofNat (0 + (prodL a.toNat b.toNat d.toNat x y).length)) - 0) ≤ 4294967296) then (app [] (prodL a.toNat b.toNat d.toNat x y)).bind fun v7 => some (AEnd.ret [AV.os 2 0], [(0, AObj.arr 3 (i64T) 0 true [e, f]), (1, AObj.arr 25 Y0 0 false [(t1, [a, b], x, ()), (t2, [c, d], y, ())]), (2, AObj.arr 2 (i64T) 0 false v7)]) else none else (app [] (prodL a.toNat b.toNat d.toNat x y)).bind fun v6 => some (AEnd.ret [AV.os 2 0], [(0, AObj.arr 3 (i64T) 0 true [e, f]), (1, AObj.arr 25 Y0 0 false [(t1, [a, b], x, ()), (t2, [c, d], y, ())]), (2, AObj.arr 2 (i64T) 0 false v6)]) else none else none else none := by kernel_rfl
def mmOk (a b c d : Int) (x y : List Int) : Bool := decide ((1 ≤ a ∧ 1 ≤ b ∧ a * b ≤ 65536 ∧ (x.length : Int) = a * b) ∧ (1 ≤ c ∧ 1 ≤ d ∧ c * d ≤ 65536 ∧ (y.length : Int) = c * d) ∧ c = b ∧ a * d ≤ 65536)
theorem mmOk_prd {a b c d : Int} {x y : List Int} (h : mmOk a b c d x y = true) : prdOk a b c d x y = true := by
  obtain ⟨⟨a1, a2, a3, a4⟩, ⟨b1, b2, b3, b4⟩, c1, c2⟩ := of_decide_eq_true h
  subst c1
  unfold prdOk
  apply decide_eq_true
  obtain ⟨m, rfl⟩ := Int.eq_ofNat_of_zero_le (show 0 ≤ a by omega)
  obtain ⟨k, rfl⟩ := Int.eq_ofNat_of_zero_le (show 0 ≤ c by omega)
  obtain ⟨n, rfl⟩ := Int.eq_ofNat_of_zero_le (show 0 ≤ d by omega)
  rw [← Int.natCast_mul] at a3 a4 b3 b4 c2
  simp only [Int.toNat_natCast]
  have hk : k ≤ m * k := Nat.le_mul_of_pos_left _ (by omega)
  exact ⟨⟨by omega, by omega, trivial, by omega⟩, by omega, by omega, by omega, by omega, by omega, by omega⟩
theorem prodL_length {M K C : Nat} {a b : List Int} : (prodL M K C a b).length = M * C := mT_length _ _ _ _ _ _ _
theorem mml_run {t1 a b t2 c d e f : Int} {x y : List Int} (h : mmOk a b c d x y = true) : runC gMm Tryz.f27 6 [(6, [8, 9, 10, 32, 33])] [.os 1 0, .os 0 0] (hpMm false t1 [a, b] x t2 [c, d] y [e, f]) ah = some (.ret [.os 2 0], [(0, .arr 3 i64T 0 true [e, f]), (1, .arr 25 (Y0) 0 false [(t1, [a, b], x, ()), (t2, [c, d], y, ())]), (2, .arr 2 i64T 0 false (prodL a.toNat b.toNat d.toNat x y))]) := by
  have hp := mmOk_prd h
  obtain ⟨hA, hB, c1, c2⟩ := of_decide_eq_true h
  have hlen : (prodL a.toNat b.toNat d.toNat x y).length ≤ 65536 := by
    obtain ⟨_, _, h3, _⟩ := of_decide_eq_true hp
    rw [prodL_length]
    exact h3
  rw [mml_eq]
  generalize prodL a.toNat b.toNat d.toNat x y = L at *
  have w1 : IntKind.i64.wrap (Int.ofNat (0 + L.length)) = (L.length : Int) := by
    rw [Nat.zero_add]
    exact wrap64 (by simp only [Int.ofNat_eq_natCast]; omega) (by simp only [Int.ofNat_eq_natCast]; omega)
  have w2 : IntKind.i64.wrap ((L.length : Int) - 0) = (L.length : Int) := by
    rw [Int.sub_zero]
    exact wrap64 (by omega) (by omega)
  have ha : app ([] : List Int) L = some L := by
    unfold app
    rw [if_pos (by unfold lim; simp; omega)]
    rfl
  rw [decide_eq_true (show 1 ≤ a ∧ 1 ≤ b ∧ a * b ≤ 65536 ∧ Int.ofNat x.length = a * b from hA), decide_eq_true (show 1 ≤ c ∧ 1 ≤ d ∧ c * d ≤ 65536 ∧ Int.ofNat y.length = c * d from hB), hp, w1, w2, decide_eq_false (show ¬ ((L.length : Int) < 0) by omega), ha]
  simp only [cond_true, cond_false, Option.bind_some]
  by_cases h0 : (L.length : Int) > 0
  · rw [decide_eq_true h0, decide_eq_true (show (L.length : Int) ≤ 4294967296 by omega)]
    rfl
  · rw [decide_eq_false h0]
    rfl
def mmlT : List AV → LHp → Tq
  | [.os 1 0, .os 0 0], [(0, .arr 3 (.int .i64) 0 false [e, f]), (1, .arr 25 ((.pair (.int .i64) (.pair (.slice (.int .i64)) (.pair (.slice (.int .i64)) .unit)))) 0 false [(t1, [a, b], x, ()), (t2, [c, d], y, ())])] =>
    .br (mmOk a b c d x y) (.leaf (.ret [.os 2 0]) [(0, .arr 3 i64T 0 true [e, f]), (1, .arr 25 (Y0) 0 false [(t1, [a, b], x, ()), (t2, [c, d], y, ())]), (2, .arr 2 i64T 0 false (prodL a.toNat b.toNat d.toNat x y))]) .no
  | _, _ => .no
theorem mmlT_ok : FnE.OK e0.P e0.gam 27 (treeE mmlT) := by
  have h1 : FnE.OK e0.P e0.gam 27 (execFnC gMm Tryz.f27 6 [(6, [8, 9, 10, 32, 33])]) := execFnC_ok gMm_good hmix Tryz.func27 Tryz.call27 (by decide +kernel) rfl
  refine ⟨fun _ _ _ => Tq.eq _ _, fun args hs ae hs' h => ?_⟩
  have h' : (mmlT args hs).run ah = some (ae, hs') := h
  clear h
  unfold mmlT at h'
  split at h'
  · obtain ⟨hb, h2⟩ := Tq.br_no h'
    cases h2
    exact h1.okC (mml_run hb)
  · cases h'
end Go.Proofs.XPT
namespace Go.Proofs.XPT
open Go.Vm Go
set_option maxRecDepth 100000
set_option maxHeartbeats 4000000
def hpCb (t1 : Int) (d1 x : List Int) (t2 : Int) (d2 y : List Int) : LHp := [(0, .arr 25 (Y0) 0 false [(t1, d1, x, ()), (t2, d2, y, ())]), (1, .arr 9 .str 0 false [[120], [119]])]
theorem cbg_eq (t1 c h w t2 m e : Int) (x y : List Int) : runC g153 Tryz.f9 6 [(3, [2, 4, 6, 9, 10, 11])] [nodeA strCV [] [122] (.os 1 0) .nils, .os 0 0] (hpCb t1 [1, c, h, w] x t2 [m, e, 1, 1] y) ah = bif decide (4 ≤ 9223372036854775807 ∧ x.length ≤ 9223372036854775807) then  bif tenE t1 [1, c, h, w] x != 0 then some (AEnd.ret [(AV.d Ty.str []).pr ((I 0).pr (AV.nils.pr (AV.d Ty.unit PUnit.unit))), I 1], [(0, AObj.arr 25 Y0 0 false [(t1, [1, c, h, w], x, ()), (t2, [m, e, 1, 1], y, ())]), (1, AObj.arr 9 Ty.str 0 false [[120], [119]])]) else  bif decide (4 ≤ 9223372036854775807 ∧ y.length ≤ 9223372036854775807) then  bif tenE t2 [m, e, 1, 1] y != 0 then some (AEnd.ret [(AV.d Ty.str []).pr ((I 0).pr (AV.nils.pr (AV.d Ty.unit PUnit.unit))), I 1], [(0, AObj.arr 25 Y0 0 false [(t1, [1, c, h, w], x, ()), (t2, [m, e, 1, 1], y, ())]), (1, AObj.arr 9 Ty.str 0 false [[120], [119]])]) else  bif !numOk t1 0 then some (AEnd.ret [(AV.d Ty.str []).pr ((I 0).pr (AV.nils.pr (AV.d Ty.unit PUnit.unit))), I 5], [(0, AObj.arr 25 Y0 0 false [(t1, [1, c, h, w], x, ()), (t2, [m, e, 1, 1], y, ())]), (1, AObj.arr 9 Ty.str 0 false [[120], [119]])]) else  bif countE [1, c, h, w] != 0 then some (AEnd.ret [(AV.d Ty.str []).pr ((I 0).pr (AV.nils.pr (AV.d Ty.unit PUnit.unit))), I (countE [1, c, h, w])], [(0, AObj.arr 25 Y0 0 false [(t1, [1, c, h, w], x, ()), (t2, [m, e, 1, 1], y, ())]), (1, AObj.arr 9 Ty.str 0 false [[120], [119]])]) else  bif !numOk t2 0 then some (AEnd.ret [(AV.d Ty.str []).pr ((I 0).pr (AV.nils.pr (AV.d Ty.unit PUnit.unit))), I 5], [(0, AObj.arr 25 Y0 0 false [(t1, [1, c, h, w], x, ()), (t2, [m, e, 1, 1], y, ())]), (1, AObj.arr 9 Ty.str 0 false [[120], [119]])]) else  bif countE [m, e, 1, 1] != 0 then some (AEnd.ret [(AV.d Ty.str []).pr ((I 0).pr (AV.nils.pr (AV.d Ty.unit PUnit.unit))), I (countE [m, e, 1, 1])], [(0, AObj.arr 25 Y0 0 false [(t1, [1, c, h, w], x, ()), (t2, [m, e, 1, 1], y, ())]), (1, AObj.arr 9 Ty.str 0 false [[120], [119]])]) else  bif t1 == 6 then  bif t1 != 1 then some (AEnd.ret [(AV.d Ty.str []).pr ((I 0).pr (AV.nils.pr (AV.d Ty.unit PUnit.unit))), I 4], [(0, AObj.arr 25 Y0 0 false [(t1, [1, c, h, w], x, ()), (t2, [m, e, 1, 1], y, ())]), (1, AObj.arr 9 Ty.str 0 false [[120], [119]])]) else  bif t2 != 1 then some (AEnd.ret [(AV.d Ty.str []).pr ((I 0).pr (AV.nils.pr (AV.d Ty.unit PUnit.unit))), I 4], [(0, AObj.arr 25 Y0 0 false [(t1, [1, c, h, w], x, ()), (t2, [m, e, 1, 1], y, ())]), (1, AObj.arr 9 Ty.str 0 false [[120], [119]])]) else  bif c.tmod 1 == 0 then  bif m.tmod 1 == 0 then  bif !e == IntKind.i64.wrap (c.tdiv 1) then some (AEnd.ret [(AV.d Ty.str []).pr ((I 0).pr (AV.nils.pr (AV.d Ty.unit PUnit.unit))), I 4], [(0, AObj.arr 25 Y0 0 false [(t1, [1, c, h, w], x, ()), (t2, [m, e, 1, 1], y, ())]), (1, AObj.arr 9 Ty.str 0 false [[120], [119]])]) else  bif !decide (IntKind.i64.wrap (IntKind.i64.wrap (IntKind.i64.wrap (IntKind.i64.wrap (h + 0) + 0) - 0) - 1) ≥ 0) then some (AEnd.ret [(AV.d Ty.str []).pr ((I 0).pr (AV.nils.pr (AV.d Ty.unit PUnit.unit))), I 4], [(0, AObj.arr 25 Y0 0 false [(t1, [1, c, h, w], x, ()), (t2, [m, e, 1, 1], y, ())]), (1, AObj.arr 9 Ty.str 0 false [[120], [119]])]) else  bif !decide (IntKind.i64.wrap (IntKind.i64.wrap (IntKind.i64.wrap (IntKind.i64.wrap (w + 0) + 0) - 0) - 1) ≥ 0) then some (AEnd.ret [(AV.d Ty.str []).pr ((I 0).pr (AV.nils.pr (AV.d Ty.unit PUnit.unit))), I 4], [(0, AObj.arr 25 Y0 0 false [(t1, [1, c, h, w], x, ()), (t2, [m, e, 1, 1], y, ())]), (1, AObj.arr 9 Ty.str 0 false [[120], [119]])]) else  bif countE [1, m, IntKind.i64.wrap (IntKind.i64.wrap ((IntKind.i64.wrap (IntKind.i64.wrap (IntKind.i64.wrap (IntKind.i64.wrap (h + 0) + 0) - 0) - 1)).tdiv 1) + 1), IntKind.i64.wrap (IntKind.i64.wrap ((IntKind.i64.wrap (IntKind.i64.wrap (IntKind.i64.wrap (IntKind.i64.wrap (w + 0) + 0) - 0) - 1)).tdiv 1) + 1)] != 0 then some (AEnd.ret [(AV.d Ty.str []).pr ((I 0).pr (AV.nils.pr (AV.d Ty.unit PUnit.unit))), I (countE [1, m, IntKind.i64.wrap (IntKind.i64.wrap ((IntKind.i64.wrap (IntKind.i64.wrap (IntKind.i64.wrap (IntKind.i64.wrap (h + 0) + 0) - 0) - 1)).tdiv 1) + 1), IntKind.i64.wrap (IntKind.i64.wrap ((IntKind.i64.wrap (IntKind.i64.wrap (IntKind.i64.wrap (IntKind.i64.wrap (w + 0) + 0) - 0) - 1)).tdiv 1) + 1)])], [(0, AObj.arr 25 Y0 0 false [(t1, [1, c, h, w], x, ()), (t2, [m, e, 1, 1], y, ())]), (1, AObj.arr 9 Ty.str 0 false [[120], [119]])]) else some (AEnd.ret [(AV.d Ty.str [122]).pr ((I t1).pr ((AV.os 2 0).pr (AV.d Ty.unit PUnit.unit))), I 0], [(0, AObj.arr 25 Y0 0 false [(t1, [1, c, h, w], x, ()), (t2, [m, e, 1, 1], y, ())]), (1, AObj.arr 9 Ty.str 0 false [[120], [119]]), (2, AObj.arr 3 (i64T) 0 false [1, m, IntKind.i64.wrap (IntKind.i64.wrap ((IntKind.i64.wrap (IntKind.i64.wrap (IntKind.i64.wrap (IntKind.i64.wrap (h + 0) + 0) - 0) - 1)).tdiv 1) + 1), IntKind.i64.wrap (IntKind.i64.wrap ((IntKind.i64.wrap (IntKind.i64.wrap (IntKind.i64.wrap (IntKind.i64.wrap (w + 0) + 0) - 0) - 1)).tdiv 1) + 1)])]) else some (AEnd.ret [(AV.d Ty.str []).pr ((I 0).pr (AV.nils.pr (AV.d Ty.unit PUnit.unit))), I 4], [(0, AObj.arr 25 Y0 0 false [(t1, [1, c, h, w], x, ()), (t2, [m, e, 1, 1], y, ())]), (1, AObj.arr 9 Ty.str 0 false [[120], [119]])]) else some (AEnd.ret [(AV.d Ty.str []).pr ((I 0).pr (AV.nils.pr (AV.d Ty.unit PUnit.unit))), I 4], [(0, AObj.arr 25 Y0 0 false [(t1, [1, c, h, w], x, ()), (t2, [m, e, 1, 1], y, ())]), (1, AObj.arr 9 Ty.str 0 false [[120], [119]])]) else  bif t1 != 1 then some (AEnd.ret [(AV.d Ty.str []).pr ((I 0).pr (AV.nils.pr (AV.d Ty.unit PUnit.unit))), I 4], [(0, AObj.arr 25 Y0 0 false [(t1, [1, c, h, w], x, ()), (t2, [m, e, 1, 1], y, ())]), (1, AObj.arr 9 Ty.str 0 false [[120], [119]])]) else  bif t2 != 1 then some (AEnd.ret [(AV.d Ty.str []).pr ((I 0).pr (AV.nils.pr (AV.d Ty.unit PUnit.unit))), I 4], [(0, AObj.arr 25 Y0 0 false [(t1, [1, c, h, w], x, ()), (t2, [m, e, 1, 1], y, ())]), (1, AObj.arr 9 Ty.str 0 false [[120], [119]])]) else  bif c.tmod 1 == 0 then  bif m.tmod 1 == 0 then  bif !e == IntKind.i64.wrap (c.tdiv 1) then some (AEnd.ret [(AV.d Ty.str []).pr ((I 0).pr (AV.nils.pr (AV.d Ty.unit PUnit.unit))), I 4], [(0, AObj.arr 25 Y0 0 false [(t1, [1, c, h, w], x, ()), (t2, [m, e, 1, 1], y, ())]), (1, AObj.arr 9 Ty.str 0 false [[120], [119]])]) else  bif !decide (IntKind.i64.wrap (IntKind.i64.wrap (IntKind.i64.wrap (IntKind.i64.wrap (h + 0) + 0) - 0) - 1) ≥ 0) then some (AEnd.ret [(AV.d Ty.str []).pr ((I 0).pr (AV.nils.pr (AV.d Ty.unit PUnit.unit))), I 4], [(0, AObj.arr 25 Y0 0 false [(t1, [1, c, h, w], x, ()), (t2, [m, e, 1, 1], y, ())]), (1, AObj.arr 9 Ty.str 0 false [[120], [119]])]) else  bif !decide (IntKind.i64.wrap (IntKind.i64.wrap (IntKind.i64.wrap (IntKind.i64.wrap (w + 0) + 0) - 0) - 1) ≥ 0) then some (AEnd.ret [(AV.d Ty.str []).pr ((I 0).pr (AV.nils.pr (AV.d Ty.unit PUnit.unit))), I 4], [(0, AObj.arr 25 Y0 0 false [(t1, [1, c, h, w], x, ()), (t2, [m, e, 1, 1], y, ())]), (1, AObj.arr 9 Ty.str 0 false [[120], [119]])]) else  bif countE [1, m, IntKind.i64.wrap (IntKind.i64.wrap ((IntKind.i64.wrap (IntKind.i64.wrap (IntKind.i64.wrap (IntKind.i64.wrap (h + 0) + 0) - 0) - 1)).tdiv 1) + 1), IntKind.i64.wrap (IntKind.i64.wrap ((IntKind.i64.wrap (IntKind.i64.wrap (IntKind.i64.wrap (IntKind.i64.wrap (w + 0) + 0) - 0) - 1)).tdiv 1) + 1)] != 0 then some (AEnd.ret [(AV.d Ty.str []).pr ((I 0).pr (AV.nils.pr (AV.d Ty.unit PUnit.unit))), I (countE [1, m, IntKind.i64.wrap (IntKind.i64.wrap ((IntKind.i64.wrap (IntKind.i64.wrap (IntKind.i64.wrap (IntKind.i64.wrap (h + 0) + 0) - 0) - 1)).tdiv 1) + 1), IntKind.i64.wrap (IntKind.i64.wrap ((IntKind.i64.wrap (IntKind.i64.wrap (IntKind.i64.wrap (IntKind.i64.wrap (w + 0) + 0) - 0) - 1)).tdiv 1) + 1)])], [(0, AObj.arr 25 Y0 0 false [(t1, [1, c, h, w], x, ()), (t2, [m, e, 1, 1], y, ())]), (1, AObj.arr 9 Ty.str 0 false [[120], [119]])]) else some (AEnd.ret [(AV.d Ty.str [122]).pr ((I t1).pr ((AV.os 2 0).pr (AV.d Ty.unit PUnit.unit))), I 0], [(0, AObj.arr 25 Y0 0 false [(t1, [1, c, h, w], x, ()), (t2, [m, e, 1, 1], y, ())]), (1, AObj.arr 9 Ty.str 0 false [[120], [119]]), (2, AObj.arr 3 (i64T) 0 false [1, m, IntKind.i64.wrap (IntKind.i64.wrap ((IntKind.i64.wrap (IntKind.i64.wrap (IntKind.i64.wrap (IntKind.i64.wrap (h + 0) + 0) - 0) - 1)).tdiv 1) + 1), IntKind.i64.wrap (IntKind.i64.wrap ((IntKind.i64.wrap (IntKind.i64.wrap (IntKind.i64.wrap (IntKind.i64.wrap (w + 0) + 0) - 0) - 1)).tdiv 1) + 1)])]) else some (AEnd.ret [(AV.d Ty.str []).pr ((I 0).pr (AV.nils.pr (AV.d Ty.unit PUnit.unit))), I 4], [(0, AObj.arr 25 Y0 0 false [(t1, [1, c, h, w], x, ()), (t2, [m, e, 1, 1], y, ())]), (1, AObj.arr 9 Ty.str 0 false [[120], [119]])]) else some (AEnd.ret [(AV.d Ty.str []).pr ((I 0).pr (AV.nils.pr (AV.d Ty.unit PUnit.unit))), I 4], [(0, AObj.arr 25 Y0 0 false [(t1, [1, c, h, w], x, ()), (t2, [m, e, 1, 1], y, ())]), (1, AObj.arr 9 Ty.str 0 false [[120], [119]])]) else none else none := by kernel_rfl
end Go.Proofs.XPT
