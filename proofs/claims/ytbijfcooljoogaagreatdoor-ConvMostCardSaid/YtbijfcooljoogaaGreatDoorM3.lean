/- what comes out of a pool, as lists. -/
import Derived.Test.YtbijfcooljoogaaGreatDoorM2

namespace Go.Proofs.XGT
open Go.Vm Go
theorem app_some2 {α : Type} {xs ys : List α} (h : xs.length + ys.length ≤ lim) : app xs ys = some (xs ++ ys) := by
  unfold app
  rw [if_pos h]
def rowL (op : List UInt8) (pic : List Int) (W KH KW D a : Nat) : List Int := (List.range' 0 D).map (togR op pic W KH KW a)
def planeL (op : List UInt8) (dt : List Int) (PE W KH KW D2 D i : Nat) : List Int := (List.range' 0 D2).flatMap (rowL op ((dt.drop (i * PE)).take PE) W KH KW D)
def poolL (op : List UInt8) (dt : List Int) (P PE W KH KW D2 D : Nat) : List Int := (List.range' 0 P).flatMap (planeL op dt PE W KH KW D2 D)
theorem flat_length {α β : Type} {f : α → List β} {n : Nat} (h : ∀ a, (f a).length = n) : ∀ l : List α, (l.flatMap f).length = l.length * n
  | [] => by simp
  | a :: l => by rw [List.flatMap_cons, List.length_append, h, flat_length h l, List.length_cons, Nat.add_mul]; omega
theorem rowL_length (op : List UInt8) (pic : List Int) (W KH KW D a : Nat) : (rowL op pic W KH KW D a).length = D := by simp [rowL]
theorem planeL_length (op : List UInt8) (dt : List Int) (PE W KH KW D2 D i : Nat) : (planeL op dt PE W KH KW D2 D i).length = D2 * D := by
  unfold planeL
  rw [flat_length (rowL_length _ _ _ _ _ _), List.length_range']
theorem poolL_length (op : List UInt8) (dt : List Int) (P PE W KH KW D2 D : Nat) : (poolL op dt P PE W KH KW D2 D).length = P * (D2 * D) := by
  unfold poolL
  rw [flat_length (planeL_length _ _ _ _ _ _ _ _), List.length_range']
theorem ne_of_length {α : Type} : ∀ (l : List α), 1 ≤ l.length → ∃ o r, l = o :: r
  | [], h => by simp at h
  | o :: r, _ => ⟨o, r, rfl⟩
theorem ne_row {op : List UInt8} {pic : List Int} {W KH KW D a : Nat} (out : List Int) (h : 1 ≤ D) : ∃ o r, out ++ rowL op pic W KH KW D a = o :: r :=
  ne_of_length _ (by rw [List.length_append, rowL_length]; omega)
theorem ne_plane {op : List UInt8} {dt : List Int} {PE W KH KW D2 D i : Nat} (out : List Int) (h2 : 1 ≤ D2) (h : 1 ≤ D) : ∃ o r, out ++ planeL op dt PE W KH KW D2 D i = o :: r :=
  ne_of_length _ (by rw [List.length_append, planeL_length]; have : 1 ≤ D2 * D := Nat.mul_pos h2 h; omega)
theorem ne_pool {op : List UInt8} {dt : List Int} {P PE W KH KW D2 D : Nat} (hP : 1 ≤ P) (h2 : 1 ≤ D2) (h : 1 ≤ D) : ∃ o r, poolL op dt P PE W KH KW D2 D = o :: r :=
  ne_of_length _ (by rw [poolL_length]; exact Nat.mul_pos hP (Nat.mul_pos h2 h))
end Go.Proofs.XGT
/- conv.pool over windows that stand wholly in the picture (nodes with attributes). -/
namespace Go.Proofs.XGT
open Go.Vm Go
set_option maxRecDepth 100000
set_option maxHeartbeats 4000000
noncomputable def C_poolA : Code := codeOf Tryz.f31
noncomputable def cf_poolA : Cfg := ⟨56, 6, 3, [(3, [3, 4, 5, 6, 9, 15, 16]), (7, [3, 4, 5, 6, 9, 11, 15, 16, 31, 32]), (10, [3, 4, 5, 6, 9, 11, 12, 15, 16, 31, 32, 37, 38])], true⟩
def hpPA (ds : List Int) (ats : List (Y1).den) (ins : List (List UInt8)) : LHp := [(0, .arr 3 i64T 0 false ds), (1, .arr 37 (Y1) 0 true ats), (2, .arr 9 .str 0 false ins)]
def nodA (op : List UInt8) : AV := nodeA op [] [122] (.os 2 0) (.os 1 0)
def hpQA (op : List UInt8) (ds : List Int) (ats : List (Y1).den) (ins : List (List UInt8)) (t : Int) (xd dt : List Int) (hh ww kh kw pl pe : Int) : LHp := hpPA ds ats ins ++ [(3, .box (nodA op)), (4, .box (.d (Y0) (t, xd, dt, ()))), (5, .box (win1 hh ww kh kw pl pe))]
def oSlA (out : List Int) : AV := match out with | [] => .nils | _ :: _ => .os 6 0
def oHpA (out : List Int) : LHp := match out with | [] => [] | _ :: _ => [(6, .arr 2 i64T 0 false out)]
def oNxA (out : List Int) : Nat := match out with | [] => 9 | _ :: _ => 10
def st2A (op : List UInt8) (ds : List Int) (ats : List (Y1).den) (ins : List (List UInt8)) (t : Int) (xd dt : List Int) (hh ww kh kw pl pe : Int) (pic : List Int) (i a b na nb : Int) (out : List Int) : LSt := ⟨mkFr 6 [(3, .os 0 0), (4, .op 3 [] 0), (5, .op 4 [] 0), (6, .op 5 [] 0), (9, oSlA out), (11, .d (.slice i64T) pic), (12, I a), (15, I pl), (16, I i), (31, I na), (32, I a), (37, I nb), (38, I b)], hpQA op ds ats ins t xd dt hh ww kh kw pl pe ++ oHpA out, oNxA out⟩
def st1A (op : List UInt8) (ds : List Int) (ats : List (Y1).den) (ins : List (List UInt8)) (t : Int) (xd dt : List Int) (hh ww kh kw pl pe : Int) (pic : List Int) (i a na : Int) (out : List Int) : LSt := ⟨mkFr 6 [(3, .os 0 0), (4, .op 3 [] 0), (5, .op 4 [] 0), (6, .op 5 [] 0), (9, oSlA out), (11, .d (.slice i64T) pic), (15, I pl), (16, I i), (31, I na), (32, I a)], hpQA op ds ats ins t xd dt hh ww kh kw pl pe ++ oHpA out, oNxA out⟩
def st0A (op : List UInt8) (ds : List Int) (ats : List (Y1).den) (ins : List (List UInt8)) (t : Int) (xd dt : List Int) (hh ww kh kw pl pe : Int) (i : Int) (out : List Int) : LSt := ⟨mkFr 6 [(3, .os 0 0), (4, .op 3 [] 0), (5, .op 4 [] 0), (6, .op 5 [] 0), (9, oSlA out), (15, I pl), (16, I i)], hpQA op ds ats ins t xd dt hh ww kh kw pl pe ++ oHpA out, oNxA out⟩
theorem pool_eqAH (hl : Hl) (op : List UInt8) (ds : List Int) (ats : List (Y1).den) (ins : List (List UInt8)) (t : Int) (xd dt : List Int) (hh ww kh kw pl pe : Int) : runH gQ Tryz.f31 6 [(3, [3, 4, 5, 6, 9, 15, 16]), (7, [3, 4, 5, 6, 9, 11, 15, 16, 31, 32]), (10, [3, 4, 5, 6, 9, 11, 12, 15, 16, 31, 32, 37, 38])] [3, 7, 10] hl [nodA op, .d (Y0) (t, xd, dt, ()), win1 hh ww kh kw pl pe, .os 0 0] (hpPA ds ats ins) ah =
  hl (cL (cL (cR (cL (cR (cR C_poolA)))))) _ { fr := mkFr 6 [(3, AV.os 0 0), (4, AV.op 3 [] 0), (5, AV.op 4 [] 0), (6, AV.op 5 [] 0), (9, AV.nils), (15, I pl), (16, I 0)], hp := [(0, AObj.arr 3 (i64T) 0 false ds), (1, AObj.arr 37 (Ty.str.pair ((i64T).pair ((i64T).pair ((i64T).pair (Ty.str.pair (((i64T).pair ((i64T).slice.pair ((i64T).slice.pair Ty.unit))).pair ((i64T).slice.pair Ty.unit))))))) 0 true ats), (2, AObj.arr 9 Ty.str 0 false ins), (3, AObj.box ((AV.d Ty.str op).pr ((AV.d Ty.str []).pr ((AV.os 2 0).pr ((AV.d Ty.str [122]).pr ((AV.os 1 0).pr (AV.d Ty.unit PUnit.unit))))))), (4, AObj.box (AV.d ((i64T).pair ((i64T).slice.pair ((i64T).slice.pair Ty.unit))) (t, xd, dt, PUnit.unit))), (5, AObj.box (AV.d ((i64T).pair ((i64T).pair ((i64T).pair ((i64T).pair ((Ty.arr 2 (i64T)).pair ((Ty.arr 2 (i64T)).pair ((i64T).pair ((i64T).pair ((i64T).pair ((i64T).pair Ty.unit)))))))))) (hh, ww, kh, kw, [1, 1], [1, 1], 0, 0, pl, pe, PUnit.unit)))], nx := 9 } (blkK 0 (seqH gQ cf_poolA [3, 7, 10] hl (cR (cR (cR C_poolA))) (endC Tryz.prog 3 Tryz.f31.results.toList ah))) := by kernel_rfl
theorem pool_eqA (op : List UInt8) (ds : List Int) (ats : List (Y1).den) (ins : List (List UInt8)) (t : Int) (xd dt : List Int) (hh ww kh kw pl pe : Int) : runC gQ Tryz.f31 6 [(3, [3, 4, 5, 6, 9, 15, 16]), (7, [3, 4, 5, 6, 9, 11, 15, 16, 31, 32]), (10, [3, 4, 5, 6, 9, 11, 12, 15, 16, 31, 32, 37, 38])] [nodA op, .d (Y0) (t, xd, dt, ()), win1 hh ww kh kw pl pe, .os 0 0] (hpPA ds ats ins) ah =
  (hlp gQ cf_poolA) (cL (cL (cR (cL (cR (cR C_poolA)))))) _ { fr := mkFr 6 [(3, AV.os 0 0), (4, AV.op 3 [] 0), (5, AV.op 4 [] 0), (6, AV.op 5 [] 0), (9, AV.nils), (15, I pl), (16, I 0)], hp := [(0, AObj.arr 3 (i64T) 0 false ds), (1, AObj.arr 37 (Ty.str.pair ((i64T).pair ((i64T).pair ((i64T).pair (Ty.str.pair (((i64T).pair ((i64T).slice.pair ((i64T).slice.pair Ty.unit))).pair ((i64T).slice.pair Ty.unit))))))) 0 true ats), (2, AObj.arr 9 Ty.str 0 false ins), (3, AObj.box ((AV.d Ty.str op).pr ((AV.d Ty.str []).pr ((AV.os 2 0).pr ((AV.d Ty.str [122]).pr ((AV.os 1 0).pr (AV.d Ty.unit PUnit.unit))))))), (4, AObj.box (AV.d ((i64T).pair ((i64T).slice.pair ((i64T).slice.pair Ty.unit))) (t, xd, dt, PUnit.unit))), (5, AObj.box (AV.d ((i64T).pair ((i64T).pair ((i64T).pair ((i64T).pair ((Ty.arr 2 (i64T)).pair ((Ty.arr 2 (i64T)).pair ((i64T).pair ((i64T).pair ((i64T).pair ((i64T).pair Ty.unit)))))))))) (hh, ww, kh, kw, [1, 1], [1, 1], 0, 0, pl, pe, PUnit.unit)))], nx := 9 } (blkK 0 (seqH gQ cf_poolA [3, 7, 10] (hlp gQ cf_poolA) (cR (cR (cR C_poolA))) (endC Tryz.prog 3 Tryz.f31.results.toList ah))) := runH_runC.trans (pool_eqAH (hlp gQ cf_poolA) op ds ats ins t xd dt hh ww kh kw pl pe)
theorem in_step0AH (hl : Hl) (op : List UInt8) (ds : List Int) (ats : List (Y1).den) (ins : List (List UInt8)) (t : Int) (xd dt : List Int) (hh ww kh kw pl pe : Int) (pic : List Int) (i a b na nb : Int) (n : Nat) {R : Type} (k : AEx → LSt → Option R) : lpH gQ cf_poolA [3, 7, 10] hl (cL (cL (cR (cR (cL (cL (cR (cR (cL (cL (cR (cR (cR (cL (cL (cR (cR (cL (cL (cR (cL (cR (cR C_poolA))))))))))))))))))))))) (n + 1) (st2A op ds ats ins t xd dt hh ww kh kw pl pe pic i a b na nb []) k =
  bif decide (b < nb) then 
    bif true && inside hh ww kh kw a b pic.length then lpH gQ cf_poolA [3, 7, 10] hl (cL (cL (cR (cR (cL (cL (cR (cR (cL (cL (cR (cR (cR (cL (cL (cR (cR (cL (cL (cR (cL (cR (cR C_poolA))))))))))))))))))))))) n { fr := mkFr 6 [(3, AV.os 0 0), (4, AV.op 3 [] 0), (5, AV.op 4 [] 0), (6, AV.op 5 [] 0), (9, AV.os 6 0), (11, AV.d (i64T).slice pic), (12, I a), (15, I pl), (16, I i), (31, I na), (32, I a), (37, I nb), (38, I (IntKind.i64.wrap (b + 1)))], hp := [(0, AObj.arr 3 (i64T) 0 false ds), (1, AObj.arr 37 (Ty.str.pair ((i64T).pair ((i64T).pair ((i64T).pair (Ty.str.pair (((i64T).pair ((i64T).slice.pair ((i64T).slice.pair Ty.unit))).pair ((i64T).slice.pair Ty.unit))))))) 0 true ats), (2, AObj.arr 9 Ty.str 0 false ins), (3, AObj.box ((AV.d Ty.str op).pr ((AV.d Ty.str []).pr ((AV.os 2 0).pr ((AV.d Ty.str [122]).pr ((AV.os 1 0).pr (AV.d Ty.unit PUnit.unit))))))), (4, AObj.box (AV.d ((i64T).pair ((i64T).slice.pair ((i64T).slice.pair Ty.unit))) (t, xd, dt, PUnit.unit))), (5, AObj.box (AV.d ((i64T).pair ((i64T).pair ((i64T).pair ((i64T).pair ((Ty.arr 2 (i64T)).pair ((Ty.arr 2 (i64T)).pair ((i64T).pair ((i64T).pair ((i64T).pair ((i64T).pair Ty.unit)))))))))) (hh, ww, kh, kw, [1, 1], [1, 1], 0, 0, pl, pe, PUnit.unit))), (6, AObj.arr 2 (i64T) 0 false [togR op pic ww.toNat kh.toNat kw.toNat a.toNat b.toNat])], nx := 10 } k
    else none
  else k (AEx.exit 4) { fr := mkFr 6 [(3, AV.os 0 0), (4, AV.op 3 [] 0), (5, AV.op 4 [] 0), (6, AV.op 5 [] 0), (9, AV.nils), (11, AV.d (i64T).slice pic), (12, I a), (15, I pl), (16, I i), (31, I na), (32, I a), (37, I nb), (38, I b), (39, B false)], hp := [(0, AObj.arr 3 (i64T) 0 false ds), (1, AObj.arr 37 (Ty.str.pair ((i64T).pair ((i64T).pair ((i64T).pair (Ty.str.pair (((i64T).pair ((i64T).slice.pair ((i64T).slice.pair Ty.unit))).pair ((i64T).slice.pair Ty.unit))))))) 0 true ats), (2, AObj.arr 9 Ty.str 0 false ins), (3, AObj.box ((AV.d Ty.str op).pr ((AV.d Ty.str []).pr ((AV.os 2 0).pr ((AV.d Ty.str [122]).pr ((AV.os 1 0).pr (AV.d Ty.unit PUnit.unit))))))), (4, AObj.box (AV.d ((i64T).pair ((i64T).slice.pair ((i64T).slice.pair Ty.unit))) (t, xd, dt, PUnit.unit))), (5, AObj.box (AV.d ((i64T).pair ((i64T).pair ((i64T).pair ((i64T).pair ((Ty.arr 2 (i64T)).pair ((Ty.arr 2 (i64T)).pair ((i64T).pair ((i64T).pair ((i64T).pair ((i64T).pair Ty.unit)))))))))) (hh, ww, kh, kw, [1, 1], [1, 1], 0, 0, pl, pe, PUnit.unit)))], nx := 9 } := by kernel_rfl
theorem in_step0A (op : List UInt8) (ds : List Int) (ats : List (Y1).den) (ins : List (List UInt8)) (t : Int) (xd dt : List Int) (hh ww kh kw pl pe : Int) (pic : List Int) (i a b na nb : Int) (n : Nat) {R : Type} (k : AEx → LSt → Option R) : lp gQ cf_poolA (cL (cL (cR (cR (cL (cL (cR (cR (cL (cL (cR (cR (cR (cL (cL (cR (cR (cL (cL (cR (cL (cR (cR C_poolA))))))))))))))))))))))) (n + 1) (st2A op ds ats ins t xd dt hh ww kh kw pl pe pic i a b na nb []) k =
  bif decide (b < nb) then 
    bif true && inside hh ww kh kw a b pic.length then lp gQ cf_poolA (cL (cL (cR (cR (cL (cL (cR (cR (cL (cL (cR (cR (cR (cL (cL (cR (cR (cL (cL (cR (cL (cR (cR C_poolA))))))))))))))))))))))) n { fr := mkFr 6 [(3, AV.os 0 0), (4, AV.op 3 [] 0), (5, AV.op 4 [] 0), (6, AV.op 5 [] 0), (9, AV.os 6 0), (11, AV.d (i64T).slice pic), (12, I a), (15, I pl), (16, I i), (31, I na), (32, I a), (37, I nb), (38, I (IntKind.i64.wrap (b + 1)))], hp := [(0, AObj.arr 3 (i64T) 0 false ds), (1, AObj.arr 37 (Ty.str.pair ((i64T).pair ((i64T).pair ((i64T).pair (Ty.str.pair (((i64T).pair ((i64T).slice.pair ((i64T).slice.pair Ty.unit))).pair ((i64T).slice.pair Ty.unit))))))) 0 true ats), (2, AObj.arr 9 Ty.str 0 false ins), (3, AObj.box ((AV.d Ty.str op).pr ((AV.d Ty.str []).pr ((AV.os 2 0).pr ((AV.d Ty.str [122]).pr ((AV.os 1 0).pr (AV.d Ty.unit PUnit.unit))))))), (4, AObj.box (AV.d ((i64T).pair ((i64T).slice.pair ((i64T).slice.pair Ty.unit))) (t, xd, dt, PUnit.unit))), (5, AObj.box (AV.d ((i64T).pair ((i64T).pair ((i64T).pair ((i64T).pair ((Ty.arr 2 (i64T)).pair ((Ty.arr 2 (i64T)).pair ((i64T).pair ((i64T).pair ((i64T).pair ((i64T).pair Ty.unit)))))))))) (hh, ww, kh, kw, [1, 1], [1, 1], 0, 0, pl, pe, PUnit.unit))), (6, AObj.arr 2 (i64T) 0 false [togR op pic ww.toNat kh.toNat kw.toNat a.toNat b.toNat])], nx := 10 } k
    else none
  else k (AEx.exit 4) { fr := mkFr 6 [(3, AV.os 0 0), (4, AV.op 3 [] 0), (5, AV.op 4 [] 0), (6, AV.op 5 [] 0), (9, AV.nils), (11, AV.d (i64T).slice pic), (12, I a), (15, I pl), (16, I i), (31, I na), (32, I a), (37, I nb), (38, I b), (39, B false)], hp := [(0, AObj.arr 3 (i64T) 0 false ds), (1, AObj.arr 37 (Ty.str.pair ((i64T).pair ((i64T).pair ((i64T).pair (Ty.str.pair (((i64T).pair ((i64T).slice.pair ((i64T).slice.pair Ty.unit))).pair ((i64T).slice.pair Ty.unit))))))) 0 true ats), (2, AObj.arr 9 Ty.str 0 false ins), (3, AObj.box ((AV.d Ty.str op).pr ((AV.d Ty.str []).pr ((AV.os 2 0).pr ((AV.d Ty.str [122]).pr ((AV.os 1 0).pr (AV.d Ty.unit PUnit.unit))))))), (4, AObj.box (AV.d ((i64T).pair ((i64T).slice.pair ((i64T).slice.pair Ty.unit))) (t, xd, dt, PUnit.unit))), (5, AObj.box (AV.d ((i64T).pair ((i64T).pair ((i64T).pair ((i64T).pair ((Ty.arr 2 (i64T)).pair ((Ty.arr 2 (i64T)).pair ((i64T).pair ((i64T).pair ((i64T).pair ((i64T).pair Ty.unit)))))))))) (hh, ww, kh, kw, [1, 1], [1, 1], 0, 0, pl, pe, PUnit.unit)))], nx := 9 } := by
  have h := in_step0AH (hlp gQ cf_poolA) op ds ats ins t xd dt hh ww kh kw pl pe pic i a b na nb n k
  simp only [lpH_lp] at h
  exact h
theorem in_stepAH (hl : Hl) (op : List UInt8) (ds : List Int) (ats : List (Y1).den) (ins : List (List UInt8)) (t : Int) (xd dt : List Int) (hh ww kh kw pl pe : Int) (pic : List Int) (i a b na nb : Int) (o : Int) (out : List Int) (n : Nat) {R : Type} (k : AEx → LSt → Option R) : lpH gQ cf_poolA [3, 7, 10] hl (cL (cL (cR (cR (cL (cL (cR (cR (cL (cL (cR (cR (cR (cL (cL (cR (cR (cL (cL (cR (cL (cR (cR C_poolA))))))))))))))))))))))) (n + 1) (st2A op ds ats ins t xd dt hh ww kh kw pl pe pic i a b na nb (o :: out)) k =
  bif decide (b < nb) then 
    bif true && inside hh ww kh kw a b pic.length then (app (o :: out) [togR op pic ww.toNat kh.toNat kw.toNat a.toNat b.toNat]).bind fun v2 =>
        lpH gQ cf_poolA [3, 7, 10] hl (cL (cL (cR (cR (cL (cL (cR (cR (cL (cL (cR (cR (cR (cL (cL (cR (cR (cL (cL (cR (cL (cR (cR C_poolA))))))))))))))))))))))) n { fr := mkFr 6 [(3, AV.os 0 0), (4, AV.op 3 [] 0), (5, AV.op 4 [] 0), (6, AV.op 5 [] 0), (9, AV.os 6 0), (11, AV.d (i64T).slice pic), (12, I a), (15, I pl), (16, I i), (31, I na), (32, I a), (37, I nb), (38, I (IntKind.i64.wrap (b + 1)))], hp := [(0, AObj.arr 3 (i64T) 0 false ds), (1, AObj.arr 37 (Ty.str.pair ((i64T).pair ((i64T).pair ((i64T).pair (Ty.str.pair (((i64T).pair ((i64T).slice.pair ((i64T).slice.pair Ty.unit))).pair ((i64T).slice.pair Ty.unit))))))) 0 true ats), (2, AObj.arr 9 Ty.str 0 false ins), (3, AObj.box ((AV.d Ty.str op).pr ((AV.d Ty.str []).pr ((AV.os 2 0).pr ((AV.d Ty.str [122]).pr ((AV.os 1 0).pr (AV.d Ty.unit PUnit.unit))))))), (4, AObj.box (AV.d ((i64T).pair ((i64T).slice.pair ((i64T).slice.pair Ty.unit))) (t, xd, dt, PUnit.unit))), (5, AObj.box (AV.d ((i64T).pair ((i64T).pair ((i64T).pair ((i64T).pair ((Ty.arr 2 (i64T)).pair ((Ty.arr 2 (i64T)).pair ((i64T).pair ((i64T).pair ((i64T).pair ((i64T).pair Ty.unit)))))))))) (hh, ww, kh, kw, [1, 1], [1, 1], 0, 0, pl, pe, PUnit.unit))), (6, AObj.arr 2 (i64T) 0 false v2)], nx := 10 } k
    else none
  else k (AEx.exit 4) { fr := mkFr 6 [(3, AV.os 0 0), (4, AV.op 3 [] 0), (5, AV.op 4 [] 0), (6, AV.op 5 [] 0), (9, AV.os 6 0), (11, AV.d (i64T).slice pic), (12, I a), (15, I pl), (16, I i), (31, I na), (32, I a), (37, I nb), (38, I b), (39, B false)], hp := [(0, AObj.arr 3 (i64T) 0 false ds), (1, AObj.arr 37 (Ty.str.pair ((i64T).pair ((i64T).pair ((i64T).pair (Ty.str.pair (((i64T).pair ((i64T).slice.pair ((i64T).slice.pair Ty.unit))).pair ((i64T).slice.pair Ty.unit))))))) 0 true ats), (2, AObj.arr 9 Ty.str 0 false ins), (3, AObj.box ((AV.d Ty.str op).pr ((AV.d Ty.str []).pr ((AV.os 2 0).pr ((AV.d Ty.str [122]).pr ((AV.os 1 0).pr (AV.d Ty.unit PUnit.unit))))))), (4, AObj.box (AV.d ((i64T).pair ((i64T).slice.pair ((i64T).slice.pair Ty.unit))) (t, xd, dt, PUnit.unit))), (5, AObj.box (AV.d ((i64T).pair ((i64T).pair ((i64T).pair ((i64T).pair ((Ty.arr 2 (i64T)).pair ((Ty.arr 2 (i64T)).pair ((i64T).pair ((i64T).pair ((i64T).pair ((i64T).pair Ty.unit)))))))))) (hh, ww, kh, kw, [1, 1], [1, 1], 0, 0, pl, pe, PUnit.unit))), (6, AObj.arr 2 (i64T) 0 false (o :: out))], nx := 10 } := by kernel_rfl
theorem in_stepA (op : List UInt8) (ds : List Int) (ats : List (Y1).den) (ins : List (List UInt8)) (t : Int) (xd dt : List Int) (hh ww kh kw pl pe : Int) (pic : List Int) (i a b na nb : Int) (o : Int) (out : List Int) (n : Nat) {R : Type} (k : AEx → LSt → Option R) : lp gQ cf_poolA (cL (cL (cR (cR (cL (cL (cR (cR (cL (cL (cR (cR (cR (cL (cL (cR (cR (cL (cL (cR (cL (cR (cR C_poolA))))))))))))))))))))))) (n + 1) (st2A op ds ats ins t xd dt hh ww kh kw pl pe pic i a b na nb (o :: out)) k =
  bif decide (b < nb) then 
    bif true && inside hh ww kh kw a b pic.length then (app (o :: out) [togR op pic ww.toNat kh.toNat kw.toNat a.toNat b.toNat]).bind fun v2 =>
        lp gQ cf_poolA (cL (cL (cR (cR (cL (cL (cR (cR (cL (cL (cR (cR (cR (cL (cL (cR (cR (cL (cL (cR (cL (cR (cR C_poolA))))))))))))))))))))))) n { fr := mkFr 6 [(3, AV.os 0 0), (4, AV.op 3 [] 0), (5, AV.op 4 [] 0), (6, AV.op 5 [] 0), (9, AV.os 6 0), (11, AV.d (i64T).slice pic), (12, I a), (15, I pl), (16, I i), (31, I na), (32, I a), (37, I nb), (38, I (IntKind.i64.wrap (b + 1)))], hp := [(0, AObj.arr 3 (i64T) 0 false ds), (1, AObj.arr 37 (Ty.str.pair ((i64T).pair ((i64T).pair ((i64T).pair (Ty.str.pair (((i64T).pair ((i64T).slice.pair ((i64T).slice.pair Ty.unit))).pair ((i64T).slice.pair Ty.unit))))))) 0 true ats), (2, AObj.arr 9 Ty.str 0 false ins), (3, AObj.box ((AV.d Ty.str op).pr ((AV.d Ty.str []).pr ((AV.os 2 0).pr ((AV.d Ty.str [122]).pr ((AV.os 1 0).pr (AV.d Ty.unit PUnit.unit))))))), (4, AObj.box (AV.d ((i64T).pair ((i64T).slice.pair ((i64T).slice.pair Ty.unit))) (t, xd, dt, PUnit.unit))), (5, AObj.box (AV.d ((i64T).pair ((i64T).pair ((i64T).pair ((i64T).pair ((Ty.arr 2 (i64T)).pair ((Ty.arr 2 (i64T)).pair ((i64T).pair ((i64T).pair ((i64T).pair ((i64T).pair Ty.unit)))))))))) (hh, ww, kh, kw, [1, 1], [1, 1], 0, 0, pl, pe, PUnit.unit))), (6, AObj.arr 2 (i64T) 0 false v2)], nx := 10 } k
    else none
  else k (AEx.exit 4) { fr := mkFr 6 [(3, AV.os 0 0), (4, AV.op 3 [] 0), (5, AV.op 4 [] 0), (6, AV.op 5 [] 0), (9, AV.os 6 0), (11, AV.d (i64T).slice pic), (12, I a), (15, I pl), (16, I i), (31, I na), (32, I a), (37, I nb), (38, I b), (39, B false)], hp := [(0, AObj.arr 3 (i64T) 0 false ds), (1, AObj.arr 37 (Ty.str.pair ((i64T).pair ((i64T).pair ((i64T).pair (Ty.str.pair (((i64T).pair ((i64T).slice.pair ((i64T).slice.pair Ty.unit))).pair ((i64T).slice.pair Ty.unit))))))) 0 true ats), (2, AObj.arr 9 Ty.str 0 false ins), (3, AObj.box ((AV.d Ty.str op).pr ((AV.d Ty.str []).pr ((AV.os 2 0).pr ((AV.d Ty.str [122]).pr ((AV.os 1 0).pr (AV.d Ty.unit PUnit.unit))))))), (4, AObj.box (AV.d ((i64T).pair ((i64T).slice.pair ((i64T).slice.pair Ty.unit))) (t, xd, dt, PUnit.unit))), (5, AObj.box (AV.d ((i64T).pair ((i64T).pair ((i64T).pair ((i64T).pair ((Ty.arr 2 (i64T)).pair ((Ty.arr 2 (i64T)).pair ((i64T).pair ((i64T).pair ((i64T).pair ((i64T).pair Ty.unit)))))))))) (hh, ww, kh, kw, [1, 1], [1, 1], 0, 0, pl, pe, PUnit.unit))), (6, AObj.arr 2 (i64T) 0 false (o :: out))], nx := 10 } := by
  have h := in_stepAH (hlp gQ cf_poolA) op ds ats ins t xd dt hh ww kh kw pl pe pic i a b na nb o out n k
  simp only [lpH_lp] at h
  exact h
theorem mid_step0AH (hl : Hl) (op : List UInt8) (ds : List Int) (ats : List (Y1).den) (ins : List (List UInt8)) (t : Int) (xd dt : List Int) (hh ww kh kw pl pe : Int) (pic : List Int) (i a na : Int) (n : Nat) {R : Type} (k : AEx → LSt → Option R) : lpH gQ cf_poolA [3, 7, 10] hl (cL (cL (cR (cR (cR (cL (cL (cR (cR (cL (cL (cR (cL (cR (cR C_poolA))))))))))))))) (n + 1) (st1A op ds ats ins t xd dt hh ww kh kw pl pe pic i a na []) k =
  bif decide (a < na) then (idx ds 3).bind fun v1 =>
      (ds[3]?).bind fun v2 =>
        hl (cL (cL (cR (cR (cL (cL (cR (cR (cL (cL (cR (cR (cR (cL (cL (cR (cR (cL (cL (cR (cL (cR (cR C_poolA))))))))))))))))))))))) _ { fr := mkFr 6 [(3, AV.os 0 0), (4, AV.op 3 [] 0), (5, AV.op 4 [] 0), (6, AV.op 5 [] 0), (9, AV.nils), (11, AV.d (i64T).slice pic), (12, I a), (15, I pl), (16, I i), (31, I na), (32, I a), (37, I v2), (38, I 0)], hp := [(0, AObj.arr 3 (i64T) 0 false ds), (1, AObj.arr 37 (Ty.str.pair ((i64T).pair ((i64T).pair ((i64T).pair (Ty.str.pair (((i64T).pair ((i64T).slice.pair ((i64T).slice.pair Ty.unit))).pair ((i64T).slice.pair Ty.unit))))))) 0 true ats), (2, AObj.arr 9 Ty.str 0 false ins), (3, AObj.box ((AV.d Ty.str op).pr ((AV.d Ty.str []).pr ((AV.os 2 0).pr ((AV.d Ty.str [122]).pr ((AV.os 1 0).pr (AV.d Ty.unit PUnit.unit))))))), (4, AObj.box (AV.d ((i64T).pair ((i64T).slice.pair ((i64T).slice.pair Ty.unit))) (t, xd, dt, PUnit.unit))), (5, AObj.box (AV.d ((i64T).pair ((i64T).pair ((i64T).pair ((i64T).pair ((Ty.arr 2 (i64T)).pair ((Ty.arr 2 (i64T)).pair ((i64T).pair ((i64T).pair ((i64T).pair ((i64T).pair Ty.unit)))))))))) (hh, ww, kh, kw, [1, 1], [1, 1], 0, 0, pl, pe, PUnit.unit)))], nx := 9 } (blkK 4 (blkK 3 (seqH gQ cf_poolA [3, 7, 10] hl (cR (cR (cR (cL (cL (cR (cR (cR (cL (cL (cR (cR (cL (cL (cR (cL (cR (cR C_poolA)))))))))))))))))) (nxtH gQ cf_poolA [3, 7, 10] hl (cL (cL (cR (cR (cR (cL (cL (cR (cR (cL (cL (cR (cL (cR (cR C_poolA))))))))))))))) n k))))
  else k (AEx.exit 2) { fr := mkFr 6 [(3, AV.os 0 0), (4, AV.op 3 [] 0), (5, AV.op 4 [] 0), (6, AV.op 5 [] 0), (9, AV.nils), (11, AV.d (i64T).slice pic), (15, I pl), (16, I i), (31, I na), (32, I a), (33, B false)], hp := [(0, AObj.arr 3 (i64T) 0 false ds), (1, AObj.arr 37 (Ty.str.pair ((i64T).pair ((i64T).pair ((i64T).pair (Ty.str.pair (((i64T).pair ((i64T).slice.pair ((i64T).slice.pair Ty.unit))).pair ((i64T).slice.pair Ty.unit))))))) 0 true ats), (2, AObj.arr 9 Ty.str 0 false ins), (3, AObj.box ((AV.d Ty.str op).pr ((AV.d Ty.str []).pr ((AV.os 2 0).pr ((AV.d Ty.str [122]).pr ((AV.os 1 0).pr (AV.d Ty.unit PUnit.unit))))))), (4, AObj.box (AV.d ((i64T).pair ((i64T).slice.pair ((i64T).slice.pair Ty.unit))) (t, xd, dt, PUnit.unit))), (5, AObj.box (AV.d ((i64T).pair ((i64T).pair ((i64T).pair ((i64T).pair ((Ty.arr 2 (i64T)).pair ((Ty.arr 2 (i64T)).pair ((i64T).pair ((i64T).pair ((i64T).pair ((i64T).pair Ty.unit)))))))))) (hh, ww, kh, kw, [1, 1], [1, 1], 0, 0, pl, pe, PUnit.unit)))], nx := 9 } := by kernel_rfl
theorem mid_step0A (op : List UInt8) (ds : List Int) (ats : List (Y1).den) (ins : List (List UInt8)) (t : Int) (xd dt : List Int) (hh ww kh kw pl pe : Int) (pic : List Int) (i a na : Int) (n : Nat) {R : Type} (k : AEx → LSt → Option R) : lp gQ cf_poolA (cL (cL (cR (cR (cR (cL (cL (cR (cR (cL (cL (cR (cL (cR (cR C_poolA))))))))))))))) (n + 1) (st1A op ds ats ins t xd dt hh ww kh kw pl pe pic i a na []) k =
  bif decide (a < na) then (idx ds 3).bind fun v1 =>
      (ds[3]?).bind fun v2 =>
        (hlp gQ cf_poolA) (cL (cL (cR (cR (cL (cL (cR (cR (cL (cL (cR (cR (cR (cL (cL (cR (cR (cL (cL (cR (cL (cR (cR C_poolA))))))))))))))))))))))) _ { fr := mkFr 6 [(3, AV.os 0 0), (4, AV.op 3 [] 0), (5, AV.op 4 [] 0), (6, AV.op 5 [] 0), (9, AV.nils), (11, AV.d (i64T).slice pic), (12, I a), (15, I pl), (16, I i), (31, I na), (32, I a), (37, I v2), (38, I 0)], hp := [(0, AObj.arr 3 (i64T) 0 false ds), (1, AObj.arr 37 (Ty.str.pair ((i64T).pair ((i64T).pair ((i64T).pair (Ty.str.pair (((i64T).pair ((i64T).slice.pair ((i64T).slice.pair Ty.unit))).pair ((i64T).slice.pair Ty.unit))))))) 0 true ats), (2, AObj.arr 9 Ty.str 0 false ins), (3, AObj.box ((AV.d Ty.str op).pr ((AV.d Ty.str []).pr ((AV.os 2 0).pr ((AV.d Ty.str [122]).pr ((AV.os 1 0).pr (AV.d Ty.unit PUnit.unit))))))), (4, AObj.box (AV.d ((i64T).pair ((i64T).slice.pair ((i64T).slice.pair Ty.unit))) (t, xd, dt, PUnit.unit))), (5, AObj.box (AV.d ((i64T).pair ((i64T).pair ((i64T).pair ((i64T).pair ((Ty.arr 2 (i64T)).pair ((Ty.arr 2 (i64T)).pair ((i64T).pair ((i64T).pair ((i64T).pair ((i64T).pair Ty.unit)))))))))) (hh, ww, kh, kw, [1, 1], [1, 1], 0, 0, pl, pe, PUnit.unit)))], nx := 9 } (blkK 4 (blkK 3 (seqH gQ cf_poolA [3, 7, 10] (hlp gQ cf_poolA) (cR (cR (cR (cL (cL (cR (cR (cR (cL (cL (cR (cR (cL (cL (cR (cL (cR (cR C_poolA)))))))))))))))))) (nxtH gQ cf_poolA [3, 7, 10] (hlp gQ cf_poolA) (cL (cL (cR (cR (cR (cL (cL (cR (cR (cL (cL (cR (cL (cR (cR C_poolA))))))))))))))) n k))))
  else k (AEx.exit 2) { fr := mkFr 6 [(3, AV.os 0 0), (4, AV.op 3 [] 0), (5, AV.op 4 [] 0), (6, AV.op 5 [] 0), (9, AV.nils), (11, AV.d (i64T).slice pic), (15, I pl), (16, I i), (31, I na), (32, I a), (33, B false)], hp := [(0, AObj.arr 3 (i64T) 0 false ds), (1, AObj.arr 37 (Ty.str.pair ((i64T).pair ((i64T).pair ((i64T).pair (Ty.str.pair (((i64T).pair ((i64T).slice.pair ((i64T).slice.pair Ty.unit))).pair ((i64T).slice.pair Ty.unit))))))) 0 true ats), (2, AObj.arr 9 Ty.str 0 false ins), (3, AObj.box ((AV.d Ty.str op).pr ((AV.d Ty.str []).pr ((AV.os 2 0).pr ((AV.d Ty.str [122]).pr ((AV.os 1 0).pr (AV.d Ty.unit PUnit.unit))))))), (4, AObj.box (AV.d ((i64T).pair ((i64T).slice.pair ((i64T).slice.pair Ty.unit))) (t, xd, dt, PUnit.unit))), (5, AObj.box (AV.d ((i64T).pair ((i64T).pair ((i64T).pair ((i64T).pair ((Ty.arr 2 (i64T)).pair ((Ty.arr 2 (i64T)).pair ((i64T).pair ((i64T).pair ((i64T).pair ((i64T).pair Ty.unit)))))))))) (hh, ww, kh, kw, [1, 1], [1, 1], 0, 0, pl, pe, PUnit.unit)))], nx := 9 } := by
  have h := mid_step0AH (hlp gQ cf_poolA) op ds ats ins t xd dt hh ww kh kw pl pe pic i a na n k
  simp only [lpH_lp] at h
  exact h
theorem mid_stepAH (hl : Hl) (op : List UInt8) (ds : List Int) (ats : List (Y1).den) (ins : List (List UInt8)) (t : Int) (xd dt : List Int) (hh ww kh kw pl pe : Int) (pic : List Int) (i a na : Int) (o : Int) (out : List Int) (n : Nat) {R : Type} (k : AEx → LSt → Option R) : lpH gQ cf_poolA [3, 7, 10] hl (cL (cL (cR (cR (cR (cL (cL (cR (cR (cL (cL (cR (cL (cR (cR C_poolA))))))))))))))) (n + 1) (st1A op ds ats ins t xd dt hh ww kh kw pl pe pic i a na (o :: out)) k =
  bif decide (a < na) then (idx ds 3).bind fun v1 =>
      (ds[3]?).bind fun v2 =>
        hl (cL (cL (cR (cR (cL (cL (cR (cR (cL (cL (cR (cR (cR (cL (cL (cR (cR (cL (cL (cR (cL (cR (cR C_poolA))))))))))))))))))))))) _ { fr := mkFr 6 [(3, AV.os 0 0), (4, AV.op 3 [] 0), (5, AV.op 4 [] 0), (6, AV.op 5 [] 0), (9, AV.os 6 0), (11, AV.d (i64T).slice pic), (12, I a), (15, I pl), (16, I i), (31, I na), (32, I a), (37, I v2), (38, I 0)], hp := [(0, AObj.arr 3 (i64T) 0 false ds), (1, AObj.arr 37 (Ty.str.pair ((i64T).pair ((i64T).pair ((i64T).pair (Ty.str.pair (((i64T).pair ((i64T).slice.pair ((i64T).slice.pair Ty.unit))).pair ((i64T).slice.pair Ty.unit))))))) 0 true ats), (2, AObj.arr 9 Ty.str 0 false ins), (3, AObj.box ((AV.d Ty.str op).pr ((AV.d Ty.str []).pr ((AV.os 2 0).pr ((AV.d Ty.str [122]).pr ((AV.os 1 0).pr (AV.d Ty.unit PUnit.unit))))))), (4, AObj.box (AV.d ((i64T).pair ((i64T).slice.pair ((i64T).slice.pair Ty.unit))) (t, xd, dt, PUnit.unit))), (5, AObj.box (AV.d ((i64T).pair ((i64T).pair ((i64T).pair ((i64T).pair ((Ty.arr 2 (i64T)).pair ((Ty.arr 2 (i64T)).pair ((i64T).pair ((i64T).pair ((i64T).pair ((i64T).pair Ty.unit)))))))))) (hh, ww, kh, kw, [1, 1], [1, 1], 0, 0, pl, pe, PUnit.unit))), (6, AObj.arr 2 (i64T) 0 false (o :: out))], nx := 10 } (blkK 4 (blkK 3 (seqH gQ cf_poolA [3, 7, 10] hl (cR (cR (cR (cL (cL (cR (cR (cR (cL (cL (cR (cR (cL (cL (cR (cL (cR (cR C_poolA)))))))))))))))))) (nxtH gQ cf_poolA [3, 7, 10] hl (cL (cL (cR (cR (cR (cL (cL (cR (cR (cL (cL (cR (cL (cR (cR C_poolA))))))))))))))) n k))))
  else k (AEx.exit 2) { fr := mkFr 6 [(3, AV.os 0 0), (4, AV.op 3 [] 0), (5, AV.op 4 [] 0), (6, AV.op 5 [] 0), (9, AV.os 6 0), (11, AV.d (i64T).slice pic), (15, I pl), (16, I i), (31, I na), (32, I a), (33, B false)], hp := [(0, AObj.arr 3 (i64T) 0 false ds), (1, AObj.arr 37 (Ty.str.pair ((i64T).pair ((i64T).pair ((i64T).pair (Ty.str.pair (((i64T).pair ((i64T).slice.pair ((i64T).slice.pair Ty.unit))).pair ((i64T).slice.pair Ty.unit))))))) 0 true ats), (2, AObj.arr 9 Ty.str 0 false ins), (3, AObj.box ((AV.d Ty.str op).pr ((AV.d Ty.str []).pr ((AV.os 2 0).pr ((AV.d Ty.str [122]).pr ((AV.os 1 0).pr (AV.d Ty.unit PUnit.unit))))))), (4, AObj.box (AV.d ((i64T).pair ((i64T).slice.pair ((i64T).slice.pair Ty.unit))) (t, xd, dt, PUnit.unit))), (5, AObj.box (AV.d ((i64T).pair ((i64T).pair ((i64T).pair ((i64T).pair ((Ty.arr 2 (i64T)).pair ((Ty.arr 2 (i64T)).pair ((i64T).pair ((i64T).pair ((i64T).pair ((i64T).pair Ty.unit)))))))))) (hh, ww, kh, kw, [1, 1], [1, 1], 0, 0, pl, pe, PUnit.unit))), (6, AObj.arr 2 (i64T) 0 false (o :: out))], nx := 10 } := by kernel_rfl
theorem mid_stepA (op : List UInt8) (ds : List Int) (ats : List (Y1).den) (ins : List (List UInt8)) (t : Int) (xd dt : List Int) (hh ww kh kw pl pe : Int) (pic : List Int) (i a na : Int) (o : Int) (out : List Int) (n : Nat) {R : Type} (k : AEx → LSt → Option R) : lp gQ cf_poolA (cL (cL (cR (cR (cR (cL (cL (cR (cR (cL (cL (cR (cL (cR (cR C_poolA))))))))))))))) (n + 1) (st1A op ds ats ins t xd dt hh ww kh kw pl pe pic i a na (o :: out)) k =
  bif decide (a < na) then (idx ds 3).bind fun v1 =>
      (ds[3]?).bind fun v2 =>
        (hlp gQ cf_poolA) (cL (cL (cR (cR (cL (cL (cR (cR (cL (cL (cR (cR (cR (cL (cL (cR (cR (cL (cL (cR (cL (cR (cR C_poolA))))))))))))))))))))))) _ { fr := mkFr 6 [(3, AV.os 0 0), (4, AV.op 3 [] 0), (5, AV.op 4 [] 0), (6, AV.op 5 [] 0), (9, AV.os 6 0), (11, AV.d (i64T).slice pic), (12, I a), (15, I pl), (16, I i), (31, I na), (32, I a), (37, I v2), (38, I 0)], hp := [(0, AObj.arr 3 (i64T) 0 false ds), (1, AObj.arr 37 (Ty.str.pair ((i64T).pair ((i64T).pair ((i64T).pair (Ty.str.pair (((i64T).pair ((i64T).slice.pair ((i64T).slice.pair Ty.unit))).pair ((i64T).slice.pair Ty.unit))))))) 0 true ats), (2, AObj.arr 9 Ty.str 0 false ins), (3, AObj.box ((AV.d Ty.str op).pr ((AV.d Ty.str []).pr ((AV.os 2 0).pr ((AV.d Ty.str [122]).pr ((AV.os 1 0).pr (AV.d Ty.unit PUnit.unit))))))), (4, AObj.box (AV.d ((i64T).pair ((i64T).slice.pair ((i64T).slice.pair Ty.unit))) (t, xd, dt, PUnit.unit))), (5, AObj.box (AV.d ((i64T).pair ((i64T).pair ((i64T).pair ((i64T).pair ((Ty.arr 2 (i64T)).pair ((Ty.arr 2 (i64T)).pair ((i64T).pair ((i64T).pair ((i64T).pair ((i64T).pair Ty.unit)))))))))) (hh, ww, kh, kw, [1, 1], [1, 1], 0, 0, pl, pe, PUnit.unit))), (6, AObj.arr 2 (i64T) 0 false (o :: out))], nx := 10 } (blkK 4 (blkK 3 (seqH gQ cf_poolA [3, 7, 10] (hlp gQ cf_poolA) (cR (cR (cR (cL (cL (cR (cR (cR (cL (cL (cR (cR (cL (cL (cR (cL (cR (cR C_poolA)))))))))))))))))) (nxtH gQ cf_poolA [3, 7, 10] (hlp gQ cf_poolA) (cL (cL (cR (cR (cR (cL (cL (cR (cR (cL (cL (cR (cL (cR (cR C_poolA))))))))))))))) n k))))
  else k (AEx.exit 2) { fr := mkFr 6 [(3, AV.os 0 0), (4, AV.op 3 [] 0), (5, AV.op 4 [] 0), (6, AV.op 5 [] 0), (9, AV.os 6 0), (11, AV.d (i64T).slice pic), (15, I pl), (16, I i), (31, I na), (32, I a), (33, B false)], hp := [(0, AObj.arr 3 (i64T) 0 false ds), (1, AObj.arr 37 (Ty.str.pair ((i64T).pair ((i64T).pair ((i64T).pair (Ty.str.pair (((i64T).pair ((i64T).slice.pair ((i64T).slice.pair Ty.unit))).pair ((i64T).slice.pair Ty.unit))))))) 0 true ats), (2, AObj.arr 9 Ty.str 0 false ins), (3, AObj.box ((AV.d Ty.str op).pr ((AV.d Ty.str []).pr ((AV.os 2 0).pr ((AV.d Ty.str [122]).pr ((AV.os 1 0).pr (AV.d Ty.unit PUnit.unit))))))), (4, AObj.box (AV.d ((i64T).pair ((i64T).slice.pair ((i64T).slice.pair Ty.unit))) (t, xd, dt, PUnit.unit))), (5, AObj.box (AV.d ((i64T).pair ((i64T).pair ((i64T).pair ((i64T).pair ((Ty.arr 2 (i64T)).pair ((Ty.arr 2 (i64T)).pair ((i64T).pair ((i64T).pair ((i64T).pair ((i64T).pair Ty.unit)))))))))) (hh, ww, kh, kw, [1, 1], [1, 1], 0, 0, pl, pe, PUnit.unit))), (6, AObj.arr 2 (i64T) 0 false (o :: out))], nx := 10 } := by
  have h := mid_stepAH (hlp gQ cf_poolA) op ds ats ins t xd dt hh ww kh kw pl pe pic i a na o out n k
  simp only [lpH_lp] at h
  exact h
theorem out_step0AH (hl : Hl) (op : List UInt8) (ds : List Int) (ats : List (Y1).den) (ins : List (List UInt8)) (t : Int) (xd dt : List Int) (hh ww kh kw pl pe : Int) (i : Int) (n : Nat) {R : Type} (k : AEx → LSt → Option R) : lpH gQ cf_poolA [3, 7, 10] hl (cL (cL (cR (cL (cR (cR C_poolA)))))) (n + 1) (st0A op ds ats ins t xd dt hh ww kh kw pl pe i []) k =
  bif decide (i < pl) then (if 0 ≤ IntKind.i64.wrap (i * pe) ∧ IntKind.i64.wrap (i * pe) ≤ Int.ofNat dt.length ∧ Int.ofNat dt.length ≤ Int.ofNat dt.length then some (List.drop (IntKind.i64.wrap (i * pe)).toNat (List.take (Int.ofNat dt.length).toNat dt)) else none).bind fun v1 =>
      (if (0 : Int) ≤ 0 ∧ 0 ≤ pe ∧ pe ≤ Int.ofNat v1.length then some (List.drop 0 (List.take pe.toNat v1)) else none).bind fun v2 =>
        (idx ds 2).bind fun v3 =>
          (ds[2]?).bind fun v4 =>
            hl (cL (cL (cR (cR (cR (cL (cL (cR (cR (cL (cL (cR (cL (cR (cR C_poolA))))))))))))))) _ { fr := mkFr 6 [(3, AV.os 0 0), (4, AV.op 3 [] 0), (5, AV.op 4 [] 0), (6, AV.op 5 [] 0), (9, AV.nils), (11, AV.d (i64T).slice v2), (15, I pl), (16, I i), (31, I v4), (32, I 0)], hp := [(0, AObj.arr 3 (i64T) 0 false ds), (1, AObj.arr 37 (Ty.str.pair ((i64T).pair ((i64T).pair ((i64T).pair (Ty.str.pair (((i64T).pair ((i64T).slice.pair ((i64T).slice.pair Ty.unit))).pair ((i64T).slice.pair Ty.unit))))))) 0 true ats), (2, AObj.arr 9 Ty.str 0 false ins), (3, AObj.box ((AV.d Ty.str op).pr ((AV.d Ty.str []).pr ((AV.os 2 0).pr ((AV.d Ty.str [122]).pr ((AV.os 1 0).pr (AV.d Ty.unit PUnit.unit))))))), (4, AObj.box (AV.d ((i64T).pair ((i64T).slice.pair ((i64T).slice.pair Ty.unit))) (t, xd, dt, PUnit.unit))), (5, AObj.box (AV.d ((i64T).pair ((i64T).pair ((i64T).pair ((i64T).pair ((Ty.arr 2 (i64T)).pair ((Ty.arr 2 (i64T)).pair ((i64T).pair ((i64T).pair ((i64T).pair ((i64T).pair Ty.unit)))))))))) (hh, ww, kh, kw, [1, 1], [1, 1], 0, 0, pl, pe, PUnit.unit)))], nx := 9 } (blkK 2 (blkK 1 (seqH gQ cf_poolA [3, 7, 10] hl (cR (cR (cR (cL (cL (cR (cL (cR (cR C_poolA))))))))) (nxtH gQ cf_poolA [3, 7, 10] hl (cL (cL (cR (cL (cR (cR C_poolA)))))) n k))))
  else k (AEx.exit 0) { fr := mkFr 6 [(3, AV.os 0 0), (4, AV.op 3 [] 0), (5, AV.op 4 [] 0), (6, AV.op 5 [] 0), (9, AV.nils), (15, I pl), (16, I i), (17, B false)], hp := [(0, AObj.arr 3 (i64T) 0 false ds), (1, AObj.arr 37 (Ty.str.pair ((i64T).pair ((i64T).pair ((i64T).pair (Ty.str.pair (((i64T).pair ((i64T).slice.pair ((i64T).slice.pair Ty.unit))).pair ((i64T).slice.pair Ty.unit))))))) 0 true ats), (2, AObj.arr 9 Ty.str 0 false ins), (3, AObj.box ((AV.d Ty.str op).pr ((AV.d Ty.str []).pr ((AV.os 2 0).pr ((AV.d Ty.str [122]).pr ((AV.os 1 0).pr (AV.d Ty.unit PUnit.unit))))))), (4, AObj.box (AV.d ((i64T).pair ((i64T).slice.pair ((i64T).slice.pair Ty.unit))) (t, xd, dt, PUnit.unit))), (5, AObj.box (AV.d ((i64T).pair ((i64T).pair ((i64T).pair ((i64T).pair ((Ty.arr 2 (i64T)).pair ((Ty.arr 2 (i64T)).pair ((i64T).pair ((i64T).pair ((i64T).pair ((i64T).pair Ty.unit)))))))))) (hh, ww, kh, kw, [1, 1], [1, 1], 0, 0, pl, pe, PUnit.unit)))], nx := 9 } := by kernel_rfl
theorem out_step0A (op : List UInt8) (ds : List Int) (ats : List (Y1).den) (ins : List (List UInt8)) (t : Int) (xd dt : List Int) (hh ww kh kw pl pe : Int) (i : Int) (n : Nat) {R : Type} (k : AEx → LSt → Option R) : lp gQ cf_poolA (cL (cL (cR (cL (cR (cR C_poolA)))))) (n + 1) (st0A op ds ats ins t xd dt hh ww kh kw pl pe i []) k =
  bif decide (i < pl) then (if 0 ≤ IntKind.i64.wrap (i * pe) ∧ IntKind.i64.wrap (i * pe) ≤ Int.ofNat dt.length ∧ Int.ofNat dt.length ≤ Int.ofNat dt.length then some (List.drop (IntKind.i64.wrap (i * pe)).toNat (List.take (Int.ofNat dt.length).toNat dt)) else none).bind fun v1 =>
      (if (0 : Int) ≤ 0 ∧ 0 ≤ pe ∧ pe ≤ Int.ofNat v1.length then some (List.drop 0 (List.take pe.toNat v1)) else none).bind fun v2 =>
        (idx ds 2).bind fun v3 =>
          (ds[2]?).bind fun v4 =>
            (hlp gQ cf_poolA) (cL (cL (cR (cR (cR (cL (cL (cR (cR (cL (cL (cR (cL (cR (cR C_poolA))))))))))))))) _ { fr := mkFr 6 [(3, AV.os 0 0), (4, AV.op 3 [] 0), (5, AV.op 4 [] 0), (6, AV.op 5 [] 0), (9, AV.nils), (11, AV.d (i64T).slice v2), (15, I pl), (16, I i), (31, I v4), (32, I 0)], hp := [(0, AObj.arr 3 (i64T) 0 false ds), (1, AObj.arr 37 (Ty.str.pair ((i64T).pair ((i64T).pair ((i64T).pair (Ty.str.pair (((i64T).pair ((i64T).slice.pair ((i64T).slice.pair Ty.unit))).pair ((i64T).slice.pair Ty.unit))))))) 0 true ats), (2, AObj.arr 9 Ty.str 0 false ins), (3, AObj.box ((AV.d Ty.str op).pr ((AV.d Ty.str []).pr ((AV.os 2 0).pr ((AV.d Ty.str [122]).pr ((AV.os 1 0).pr (AV.d Ty.unit PUnit.unit))))))), (4, AObj.box (AV.d ((i64T).pair ((i64T).slice.pair ((i64T).slice.pair Ty.unit))) (t, xd, dt, PUnit.unit))), (5, AObj.box (AV.d ((i64T).pair ((i64T).pair ((i64T).pair ((i64T).pair ((Ty.arr 2 (i64T)).pair ((Ty.arr 2 (i64T)).pair ((i64T).pair ((i64T).pair ((i64T).pair ((i64T).pair Ty.unit)))))))))) (hh, ww, kh, kw, [1, 1], [1, 1], 0, 0, pl, pe, PUnit.unit)))], nx := 9 } (blkK 2 (blkK 1 (seqH gQ cf_poolA [3, 7, 10] (hlp gQ cf_poolA) (cR (cR (cR (cL (cL (cR (cL (cR (cR C_poolA))))))))) (nxtH gQ cf_poolA [3, 7, 10] (hlp gQ cf_poolA) (cL (cL (cR (cL (cR (cR C_poolA)))))) n k))))
  else k (AEx.exit 0) { fr := mkFr 6 [(3, AV.os 0 0), (4, AV.op 3 [] 0), (5, AV.op 4 [] 0), (6, AV.op 5 [] 0), (9, AV.nils), (15, I pl), (16, I i), (17, B false)], hp := [(0, AObj.arr 3 (i64T) 0 false ds), (1, AObj.arr 37 (Ty.str.pair ((i64T).pair ((i64T).pair ((i64T).pair (Ty.str.pair (((i64T).pair ((i64T).slice.pair ((i64T).slice.pair Ty.unit))).pair ((i64T).slice.pair Ty.unit))))))) 0 true ats), (2, AObj.arr 9 Ty.str 0 false ins), (3, AObj.box ((AV.d Ty.str op).pr ((AV.d Ty.str []).pr ((AV.os 2 0).pr ((AV.d Ty.str [122]).pr ((AV.os 1 0).pr (AV.d Ty.unit PUnit.unit))))))), (4, AObj.box (AV.d ((i64T).pair ((i64T).slice.pair ((i64T).slice.pair Ty.unit))) (t, xd, dt, PUnit.unit))), (5, AObj.box (AV.d ((i64T).pair ((i64T).pair ((i64T).pair ((i64T).pair ((Ty.arr 2 (i64T)).pair ((Ty.arr 2 (i64T)).pair ((i64T).pair ((i64T).pair ((i64T).pair ((i64T).pair Ty.unit)))))))))) (hh, ww, kh, kw, [1, 1], [1, 1], 0, 0, pl, pe, PUnit.unit)))], nx := 9 } := by
  have h := out_step0AH (hlp gQ cf_poolA) op ds ats ins t xd dt hh ww kh kw pl pe i n k
  simp only [lpH_lp] at h
  exact h
theorem out_stepAH (hl : Hl) (op : List UInt8) (ds : List Int) (ats : List (Y1).den) (ins : List (List UInt8)) (t : Int) (xd dt : List Int) (hh ww kh kw pl pe : Int) (i : Int) (o : Int) (out : List Int) (n : Nat) {R : Type} (k : AEx → LSt → Option R) : lpH gQ cf_poolA [3, 7, 10] hl (cL (cL (cR (cL (cR (cR C_poolA)))))) (n + 1) (st0A op ds ats ins t xd dt hh ww kh kw pl pe i (o :: out)) k =
  bif decide (i < pl) then (if 0 ≤ IntKind.i64.wrap (i * pe) ∧ IntKind.i64.wrap (i * pe) ≤ Int.ofNat dt.length ∧ Int.ofNat dt.length ≤ Int.ofNat dt.length then some (List.drop (IntKind.i64.wrap (i * pe)).toNat (List.take (Int.ofNat dt.length).toNat dt)) else none).bind fun v1 =>
      (if (0 : Int) ≤ 0 ∧ 0 ≤ pe ∧ pe ≤ Int.ofNat v1.length then some (List.drop 0 (List.take pe.toNat v1)) else none).bind fun v2 =>
        (idx ds 2).bind fun v3 =>
          (ds[2]?).bind fun v4 =>
            hl (cL (cL (cR (cR (cR (cL (cL (cR (cR (cL (cL (cR (cL (cR (cR C_poolA))))))))))))))) _ { fr := mkFr 6 [(3, AV.os 0 0), (4, AV.op 3 [] 0), (5, AV.op 4 [] 0), (6, AV.op 5 [] 0), (9, AV.os 6 0), (11, AV.d (i64T).slice v2), (15, I pl), (16, I i), (31, I v4), (32, I 0)], hp := [(0, AObj.arr 3 (i64T) 0 false ds), (1, AObj.arr 37 (Ty.str.pair ((i64T).pair ((i64T).pair ((i64T).pair (Ty.str.pair (((i64T).pair ((i64T).slice.pair ((i64T).slice.pair Ty.unit))).pair ((i64T).slice.pair Ty.unit))))))) 0 true ats), (2, AObj.arr 9 Ty.str 0 false ins), (3, AObj.box ((AV.d Ty.str op).pr ((AV.d Ty.str []).pr ((AV.os 2 0).pr ((AV.d Ty.str [122]).pr ((AV.os 1 0).pr (AV.d Ty.unit PUnit.unit))))))), (4, AObj.box (AV.d ((i64T).pair ((i64T).slice.pair ((i64T).slice.pair Ty.unit))) (t, xd, dt, PUnit.unit))), (5, AObj.box (AV.d ((i64T).pair ((i64T).pair ((i64T).pair ((i64T).pair ((Ty.arr 2 (i64T)).pair ((Ty.arr 2 (i64T)).pair ((i64T).pair ((i64T).pair ((i64T).pair ((i64T).pair Ty.unit)))))))))) (hh, ww, kh, kw, [1, 1], [1, 1], 0, 0, pl, pe, PUnit.unit))), (6, AObj.arr 2 (i64T) 0 false (o :: out))], nx := 10 } (blkK 2 (blkK 1 (seqH gQ cf_poolA [3, 7, 10] hl (cR (cR (cR (cL (cL (cR (cL (cR (cR C_poolA))))))))) (nxtH gQ cf_poolA [3, 7, 10] hl (cL (cL (cR (cL (cR (cR C_poolA)))))) n k))))
  else k (AEx.exit 0) { fr := mkFr 6 [(3, AV.os 0 0), (4, AV.op 3 [] 0), (5, AV.op 4 [] 0), (6, AV.op 5 [] 0), (9, AV.os 6 0), (15, I pl), (16, I i), (17, B false)], hp := [(0, AObj.arr 3 (i64T) 0 false ds), (1, AObj.arr 37 (Ty.str.pair ((i64T).pair ((i64T).pair ((i64T).pair (Ty.str.pair (((i64T).pair ((i64T).slice.pair ((i64T).slice.pair Ty.unit))).pair ((i64T).slice.pair Ty.unit))))))) 0 true ats), (2, AObj.arr 9 Ty.str 0 false ins), (3, AObj.box ((AV.d Ty.str op).pr ((AV.d Ty.str []).pr ((AV.os 2 0).pr ((AV.d Ty.str [122]).pr ((AV.os 1 0).pr (AV.d Ty.unit PUnit.unit))))))), (4, AObj.box (AV.d ((i64T).pair ((i64T).slice.pair ((i64T).slice.pair Ty.unit))) (t, xd, dt, PUnit.unit))), (5, AObj.box (AV.d ((i64T).pair ((i64T).pair ((i64T).pair ((i64T).pair ((Ty.arr 2 (i64T)).pair ((Ty.arr 2 (i64T)).pair ((i64T).pair ((i64T).pair ((i64T).pair ((i64T).pair Ty.unit)))))))))) (hh, ww, kh, kw, [1, 1], [1, 1], 0, 0, pl, pe, PUnit.unit))), (6, AObj.arr 2 (i64T) 0 false (o :: out))], nx := 10 } := by kernel_rfl
theorem out_stepA (op : List UInt8) (ds : List Int) (ats : List (Y1).den) (ins : List (List UInt8)) (t : Int) (xd dt : List Int) (hh ww kh kw pl pe : Int) (i : Int) (o : Int) (out : List Int) (n : Nat) {R : Type} (k : AEx → LSt → Option R) : lp gQ cf_poolA (cL (cL (cR (cL (cR (cR C_poolA)))))) (n + 1) (st0A op ds ats ins t xd dt hh ww kh kw pl pe i (o :: out)) k =
  bif decide (i < pl) then (if 0 ≤ IntKind.i64.wrap (i * pe) ∧ IntKind.i64.wrap (i * pe) ≤ Int.ofNat dt.length ∧ Int.ofNat dt.length ≤ Int.ofNat dt.length then some (List.drop (IntKind.i64.wrap (i * pe)).toNat (List.take (Int.ofNat dt.length).toNat dt)) else none).bind fun v1 =>
      (if (0 : Int) ≤ 0 ∧ 0 ≤ pe ∧ pe ≤ Int.ofNat v1.length then some (List.drop 0 (List.take pe.toNat v1)) else none).bind fun v2 =>
        (idx ds 2).bind fun v3 =>
          (ds[2]?).bind fun v4 =>
            (hlp gQ cf_poolA) (cL (cL (cR (cR (cR (cL (cL (cR (cR (cL (cL (cR (cL (cR (cR C_poolA))))))))))))))) _ { fr := mkFr 6 [(3, AV.os 0 0), (4, AV.op 3 [] 0), (5, AV.op 4 [] 0), (6, AV.op 5 [] 0), (9, AV.os 6 0), (11, AV.d (i64T).slice v2), (15, I pl), (16, I i), (31, I v4), (32, I 0)], hp := [(0, AObj.arr 3 (i64T) 0 false ds), (1, AObj.arr 37 (Ty.str.pair ((i64T).pair ((i64T).pair ((i64T).pair (Ty.str.pair (((i64T).pair ((i64T).slice.pair ((i64T).slice.pair Ty.unit))).pair ((i64T).slice.pair Ty.unit))))))) 0 true ats), (2, AObj.arr 9 Ty.str 0 false ins), (3, AObj.box ((AV.d Ty.str op).pr ((AV.d Ty.str []).pr ((AV.os 2 0).pr ((AV.d Ty.str [122]).pr ((AV.os 1 0).pr (AV.d Ty.unit PUnit.unit))))))), (4, AObj.box (AV.d ((i64T).pair ((i64T).slice.pair ((i64T).slice.pair Ty.unit))) (t, xd, dt, PUnit.unit))), (5, AObj.box (AV.d ((i64T).pair ((i64T).pair ((i64T).pair ((i64T).pair ((Ty.arr 2 (i64T)).pair ((Ty.arr 2 (i64T)).pair ((i64T).pair ((i64T).pair ((i64T).pair ((i64T).pair Ty.unit)))))))))) (hh, ww, kh, kw, [1, 1], [1, 1], 0, 0, pl, pe, PUnit.unit))), (6, AObj.arr 2 (i64T) 0 false (o :: out))], nx := 10 } (blkK 2 (blkK 1 (seqH gQ cf_poolA [3, 7, 10] (hlp gQ cf_poolA) (cR (cR (cR (cL (cL (cR (cL (cR (cR C_poolA))))))))) (nxtH gQ cf_poolA [3, 7, 10] (hlp gQ cf_poolA) (cL (cL (cR (cL (cR (cR C_poolA)))))) n k))))
  else k (AEx.exit 0) { fr := mkFr 6 [(3, AV.os 0 0), (4, AV.op 3 [] 0), (5, AV.op 4 [] 0), (6, AV.op 5 [] 0), (9, AV.os 6 0), (15, I pl), (16, I i), (17, B false)], hp := [(0, AObj.arr 3 (i64T) 0 false ds), (1, AObj.arr 37 (Ty.str.pair ((i64T).pair ((i64T).pair ((i64T).pair (Ty.str.pair (((i64T).pair ((i64T).slice.pair ((i64T).slice.pair Ty.unit))).pair ((i64T).slice.pair Ty.unit))))))) 0 true ats), (2, AObj.arr 9 Ty.str 0 false ins), (3, AObj.box ((AV.d Ty.str op).pr ((AV.d Ty.str []).pr ((AV.os 2 0).pr ((AV.d Ty.str [122]).pr ((AV.os 1 0).pr (AV.d Ty.unit PUnit.unit))))))), (4, AObj.box (AV.d ((i64T).pair ((i64T).slice.pair ((i64T).slice.pair Ty.unit))) (t, xd, dt, PUnit.unit))), (5, AObj.box (AV.d ((i64T).pair ((i64T).pair ((i64T).pair ((i64T).pair ((Ty.arr 2 (i64T)).pair ((Ty.arr 2 (i64T)).pair ((i64T).pair ((i64T).pair ((i64T).pair ((i64T).pair Ty.unit)))))))))) (hh, ww, kh, kw, [1, 1], [1, 1], 0, 0, pl, pe, PUnit.unit))), (6, AObj.arr 2 (i64T) 0 false (o :: out))], nx := 10 } := by
  have h := out_stepAH (hlp gQ cf_poolA) op ds ats ins t xd dt hh ww kh kw pl pe i o out n k
  simp only [lpH_lp] at h
  exact h
/-! ### the loops -/
noncomputable def PK0A : AEx → LSt → Option (AEnd × LHp) := (blkK 0 (seqH gQ cf_poolA [3, 7, 10] (hlp gQ cf_poolA) (cR (cR (cR C_poolA))) (endC Tryz.prog 3 Tryz.f31.results.toList ah)))
theorem pool_lpA (op : List UInt8) (ds : List Int) (ats : List (Y1).den) (ins : List (List UInt8)) (t : Int) (xd dt : List Int) (hh ww kh kw pl pe : Int) : runC gQ Tryz.f31 6 [(3, [3, 4, 5, 6, 9, 15, 16]), (7, [3, 4, 5, 6, 9, 11, 15, 16, 31, 32]), (10, [3, 4, 5, 6, 9, 11, 12, 15, 16, 31, 32, 37, 38])] [nodA op, .d (Y0) (t, xd, dt, ()), win1 hh ww kh kw pl pe, .os 0 0] (hpPA ds ats ins) ah = lp gQ cf_poolA (cL (cL (cR (cL (cR (cR C_poolA)))))) fu (st0A op ds ats ins t xd dt hh ww kh kw pl pe ((0 : Nat) : Int) []) PK0A := (pool_eqA op ds ats ins t xd dt hh ww kh kw pl pe).trans (by kernel_rfl)
def st2eA (op : List UInt8) (ds : List Int) (ats : List (Y1).den) (ins : List (List UInt8)) (t : Int) (xd dt : List Int) (hh ww kh kw pl pe : Int) (pic : List Int) (i a b na nb : Int) (out : List Int) : LSt := ⟨mkFr 6 [(3, .os 0 0), (4, .op 3 [] 0), (5, .op 4 [] 0), (6, .op 5 [] 0), (9, oSlA out), (11, .d (.slice i64T) pic), (12, I a), (15, I pl), (16, I i), (31, I na), (32, I a), (37, I nb), (38, I b), (39, B false)], hpQA op ds ats ins t xd dt hh ww kh kw pl pe ++ oHpA out, oNxA out⟩
def st1eA (op : List UInt8) (ds : List Int) (ats : List (Y1).den) (ins : List (List UInt8)) (t : Int) (xd dt : List Int) (hh ww kh kw pl pe : Int) (pic : List Int) (i a na : Int) (out : List Int) : LSt := ⟨mkFr 6 [(3, .os 0 0), (4, .op 3 [] 0), (5, .op 4 [] 0), (6, .op 5 [] 0), (9, oSlA out), (11, .d (.slice i64T) pic), (15, I pl), (16, I i), (31, I na), (32, I a), (33, B false)], hpQA op ds ats ins t xd dt hh ww kh kw pl pe ++ oHpA out, oNxA out⟩
def st0eA (op : List UInt8) (ds : List Int) (ats : List (Y1).den) (ins : List (List UInt8)) (t : Int) (xd dt : List Int) (hh ww kh kw pl pe : Int) (i : Int) (out : List Int) : LSt := ⟨mkFr 6 [(3, .os 0 0), (4, .op 3 [] 0), (5, .op 4 [] 0), (6, .op 5 [] 0), (9, oSlA out), (15, I pl), (16, I i), (17, B false)], hpQA op ds ats ins t xd dt hh ww kh kw pl pe ++ oHpA out, oNxA out⟩
theorem pool_k2A (op : List UInt8) (ds : List Int) (ats : List (Y1).den) (ins : List (List UInt8)) (t : Int) (xd dt : List Int) (hh ww kh kw pl pe : Int) (pic : List Int) (i a b na nb : Int) (o : Int) (out : List Int) (n : Nat) {R : Type} (k : AEx → LSt → Option R) : (blkK 4 (blkK 3 (seqH gQ cf_poolA [3, 7, 10] (hlp gQ cf_poolA) (cR (cR (cR (cL (cL (cR (cR (cR (cL (cL (cR (cR (cL (cL (cR (cL (cR (cR C_poolA)))))))))))))))))) (nxtH gQ cf_poolA [3, 7, 10] (hlp gQ cf_poolA) (cL (cL (cR (cR (cR (cL (cL (cR (cR (cL (cL (cR (cL (cR (cR C_poolA))))))))))))))) n k)))) (.exit 4) (st2eA op ds ats ins t xd dt hh ww kh kw pl pe pic i a b na nb (o :: out)) = lp gQ cf_poolA (cL (cL (cR (cR (cR (cL (cL (cR (cR (cL (cL (cR (cL (cR (cR C_poolA))))))))))))))) n (st1A op ds ats ins t xd dt hh ww kh kw pl pe pic i (IntKind.i64.wrap (a + 1)) na (o :: out)) k :=
  Eq.trans (b := lpH gQ cf_poolA [3, 7, 10] (hlp gQ cf_poolA) (cL (cL (cR (cR (cR (cL (cL (cR (cR (cL (cL (cR (cL (cR (cR C_poolA))))))))))))))) n (st1A op ds ats ins t xd dt hh ww kh kw pl pe pic i (IntKind.i64.wrap (a + 1)) na (o :: out)) k) (by kernel_rfl) lpH_lp
theorem pool_k1A (op : List UInt8) (ds : List Int) (ats : List (Y1).den) (ins : List (List UInt8)) (t : Int) (xd dt : List Int) (hh ww kh kw pl pe : Int) (pic : List Int) (i a na : Int) (o : Int) (out : List Int) (n : Nat) {R : Type} (k : AEx → LSt → Option R) : (blkK 2 (blkK 1 (seqH gQ cf_poolA [3, 7, 10] (hlp gQ cf_poolA) (cR (cR (cR (cL (cL (cR (cL (cR (cR C_poolA))))))))) (nxtH gQ cf_poolA [3, 7, 10] (hlp gQ cf_poolA) (cL (cL (cR (cL (cR (cR C_poolA)))))) n k)))) (.exit 2) (st1eA op ds ats ins t xd dt hh ww kh kw pl pe pic i a na (o :: out)) = lp gQ cf_poolA (cL (cL (cR (cL (cR (cR C_poolA)))))) n (st0A op ds ats ins t xd dt hh ww kh kw pl pe (IntKind.i64.wrap (i + 1)) (o :: out)) k :=
  Eq.trans (b := lpH gQ cf_poolA [3, 7, 10] (hlp gQ cf_poolA) (cL (cL (cR (cL (cR (cR C_poolA)))))) n (st0A op ds ats ins t xd dt hh ww kh kw pl pe (IntKind.i64.wrap (i + 1)) (o :: out)) k) (by kernel_rfl) lpH_lp
theorem pool_k0A (op : List UInt8) (ds : List Int) (ats : List (Y1).den) (ins : List (List UInt8)) (t : Int) (xd dt : List Int) (hh ww kh kw pl pe : Int) (i : Int) (o : Int) (out : List Int) : PK0A (.exit 0) (st0eA op ds ats ins t xd dt hh ww kh kw pl pe i (o :: out)) = some (.ret [.os 3 0], hpPA ds ats ins ++ [(3, .arr 2 i64T 0 false (o :: out))]) := by kernel_rfl
end Go.Proofs.XGT
/- conv.pool over windows that stand wholly in the picture (nodes without attributes). -/
namespace Go.Proofs.XGT
open Go.Vm Go
set_option maxRecDepth 100000
set_option maxHeartbeats 4000000
noncomputable def C_poolG : Code := codeOf Tryz.f31
noncomputable def cf_poolG : Cfg := ⟨56, 6, 2, [(3, [3, 4, 5, 6, 9, 15, 16]), (7, [3, 4, 5, 6, 9, 11, 15, 16, 31, 32]), (10, [3, 4, 5, 6, 9, 11, 12, 15, 16, 31, 32, 37, 38])], true⟩
def hpPG (ds : List Int) (ins : List (List UInt8)) : LHp := [(0, .arr 3 i64T 0 false ds), (1, .arr 9 .str 0 false ins)]
def nodG (op : List UInt8) : AV := nodeA op [] [122] (.os 1 0) .nils
def hpQG (op : List UInt8) (ds : List Int) (ins : List (List UInt8)) (t : Int) (xd dt : List Int) (hh ww kh kw pl pe : Int) : LHp := hpPG ds ins ++ [(2, .box (nodG op)), (3, .box (.d (Y0) (t, xd, dt, ()))), (4, .box (win1 hh ww kh kw pl pe))]
def oSlG (out : List Int) : AV := match out with | [] => .nils | _ :: _ => .os 5 0
def oHpG (out : List Int) : LHp := match out with | [] => [] | _ :: _ => [(5, .arr 2 i64T 0 false out)]
def oNxG (out : List Int) : Nat := match out with | [] => 7 | _ :: _ => 8
def st2G (op : List UInt8) (ds : List Int) (ins : List (List UInt8)) (t : Int) (xd dt : List Int) (hh ww kh kw pl pe : Int) (pic : List Int) (i a b na nb : Int) (out : List Int) : LSt := ⟨mkFr 6 [(3, .os 0 0), (4, .op 2 [] 0), (5, .op 3 [] 0), (6, .op 4 [] 0), (9, oSlG out), (11, .d (.slice i64T) pic), (12, I a), (15, I pl), (16, I i), (31, I na), (32, I a), (37, I nb), (38, I b)], hpQG op ds ins t xd dt hh ww kh kw pl pe ++ oHpG out, oNxG out⟩
def st1G (op : List UInt8) (ds : List Int) (ins : List (List UInt8)) (t : Int) (xd dt : List Int) (hh ww kh kw pl pe : Int) (pic : List Int) (i a na : Int) (out : List Int) : LSt := ⟨mkFr 6 [(3, .os 0 0), (4, .op 2 [] 0), (5, .op 3 [] 0), (6, .op 4 [] 0), (9, oSlG out), (11, .d (.slice i64T) pic), (15, I pl), (16, I i), (31, I na), (32, I a)], hpQG op ds ins t xd dt hh ww kh kw pl pe ++ oHpG out, oNxG out⟩
def st0G (op : List UInt8) (ds : List Int) (ins : List (List UInt8)) (t : Int) (xd dt : List Int) (hh ww kh kw pl pe : Int) (i : Int) (out : List Int) : LSt := ⟨mkFr 6 [(3, .os 0 0), (4, .op 2 [] 0), (5, .op 3 [] 0), (6, .op 4 [] 0), (9, oSlG out), (15, I pl), (16, I i)], hpQG op ds ins t xd dt hh ww kh kw pl pe ++ oHpG out, oNxG out⟩
theorem pool_eqGH (hl : Hl) (op : List UInt8) (ds : List Int) (ins : List (List UInt8)) (t : Int) (xd dt : List Int) (hh ww kh kw pl pe : Int) : runH gQ Tryz.f31 6 [(3, [3, 4, 5, 6, 9, 15, 16]), (7, [3, 4, 5, 6, 9, 11, 15, 16, 31, 32]), (10, [3, 4, 5, 6, 9, 11, 12, 15, 16, 31, 32, 37, 38])] [3, 7, 10] hl [nodG op, .d (Y0) (t, xd, dt, ()), win1 hh ww kh kw pl pe, .os 0 0] (hpPG ds ins) ah =
  hl (cL (cL (cR (cL (cR (cR C_poolG)))))) _ { fr := mkFr 6 [(3, AV.os 0 0), (4, AV.op 2 [] 0), (5, AV.op 3 [] 0), (6, AV.op 4 [] 0), (9, AV.nils), (15, I pl), (16, I 0)], hp := [(0, AObj.arr 3 (i64T) 0 false ds), (1, AObj.arr 9 Ty.str 0 false ins), (2, AObj.box ((AV.d Ty.str op).pr ((AV.d Ty.str []).pr ((AV.os 1 0).pr ((AV.d Ty.str [122]).pr (AV.nils.pr (AV.d Ty.unit PUnit.unit))))))), (3, AObj.box (AV.d ((i64T).pair ((i64T).slice.pair ((i64T).slice.pair Ty.unit))) (t, xd, dt, PUnit.unit))), (4, AObj.box (AV.d ((i64T).pair ((i64T).pair ((i64T).pair ((i64T).pair ((Ty.arr 2 (i64T)).pair ((Ty.arr 2 (i64T)).pair ((i64T).pair ((i64T).pair ((i64T).pair ((i64T).pair Ty.unit)))))))))) (hh, ww, kh, kw, [1, 1], [1, 1], 0, 0, pl, pe, PUnit.unit)))], nx := 7 } (blkK 0 (seqH gQ cf_poolG [3, 7, 10] hl (cR (cR (cR C_poolG))) (endC Tryz.prog 2 Tryz.f31.results.toList ah))) := by kernel_rfl
theorem pool_eqG (op : List UInt8) (ds : List Int) (ins : List (List UInt8)) (t : Int) (xd dt : List Int) (hh ww kh kw pl pe : Int) : runC gQ Tryz.f31 6 [(3, [3, 4, 5, 6, 9, 15, 16]), (7, [3, 4, 5, 6, 9, 11, 15, 16, 31, 32]), (10, [3, 4, 5, 6, 9, 11, 12, 15, 16, 31, 32, 37, 38])] [nodG op, .d (Y0) (t, xd, dt, ()), win1 hh ww kh kw pl pe, .os 0 0] (hpPG ds ins) ah =
  (hlp gQ cf_poolG) (cL (cL (cR (cL (cR (cR C_poolG)))))) _ { fr := mkFr 6 [(3, AV.os 0 0), (4, AV.op 2 [] 0), (5, AV.op 3 [] 0), (6, AV.op 4 [] 0), (9, AV.nils), (15, I pl), (16, I 0)], hp := [(0, AObj.arr 3 (i64T) 0 false ds), (1, AObj.arr 9 Ty.str 0 false ins), (2, AObj.box ((AV.d Ty.str op).pr ((AV.d Ty.str []).pr ((AV.os 1 0).pr ((AV.d Ty.str [122]).pr (AV.nils.pr (AV.d Ty.unit PUnit.unit))))))), (3, AObj.box (AV.d ((i64T).pair ((i64T).slice.pair ((i64T).slice.pair Ty.unit))) (t, xd, dt, PUnit.unit))), (4, AObj.box (AV.d ((i64T).pair ((i64T).pair ((i64T).pair ((i64T).pair ((Ty.arr 2 (i64T)).pair ((Ty.arr 2 (i64T)).pair ((i64T).pair ((i64T).pair ((i64T).pair ((i64T).pair Ty.unit)))))))))) (hh, ww, kh, kw, [1, 1], [1, 1], 0, 0, pl, pe, PUnit.unit)))], nx := 7 } (blkK 0 (seqH gQ cf_poolG [3, 7, 10] (hlp gQ cf_poolG) (cR (cR (cR C_poolG))) (endC Tryz.prog 2 Tryz.f31.results.toList ah))) := runH_runC.trans (pool_eqGH (hlp gQ cf_poolG) op ds ins t xd dt hh ww kh kw pl pe)
theorem in_step0GH (hl : Hl) (op : List UInt8) (ds : List Int) (ins : List (List UInt8)) (t : Int) (xd dt : List Int) (hh ww kh kw pl pe : Int) (pic : List Int) (i a b na nb : Int) (n : Nat) {R : Type} (k : AEx → LSt → Option R) : lpH gQ cf_poolG [3, 7, 10] hl (cL (cL (cR (cR (cL (cL (cR (cR (cL (cL (cR (cR (cR (cL (cL (cR (cR (cL (cL (cR (cL (cR (cR C_poolG))))))))))))))))))))))) (n + 1) (st2G op ds ins t xd dt hh ww kh kw pl pe pic i a b na nb []) k =
  bif decide (b < nb) then 
    bif true && inside hh ww kh kw a b pic.length then lpH gQ cf_poolG [3, 7, 10] hl (cL (cL (cR (cR (cL (cL (cR (cR (cL (cL (cR (cR (cR (cL (cL (cR (cR (cL (cL (cR (cL (cR (cR C_poolG))))))))))))))))))))))) n { fr := mkFr 6 [(3, AV.os 0 0), (4, AV.op 2 [] 0), (5, AV.op 3 [] 0), (6, AV.op 4 [] 0), (9, AV.os 5 0), (11, AV.d (i64T).slice pic), (12, I a), (15, I pl), (16, I i), (31, I na), (32, I a), (37, I nb), (38, I (IntKind.i64.wrap (b + 1)))], hp := [(0, AObj.arr 3 (i64T) 0 false ds), (1, AObj.arr 9 Ty.str 0 false ins), (2, AObj.box ((AV.d Ty.str op).pr ((AV.d Ty.str []).pr ((AV.os 1 0).pr ((AV.d Ty.str [122]).pr (AV.nils.pr (AV.d Ty.unit PUnit.unit))))))), (3, AObj.box (AV.d ((i64T).pair ((i64T).slice.pair ((i64T).slice.pair Ty.unit))) (t, xd, dt, PUnit.unit))), (4, AObj.box (AV.d ((i64T).pair ((i64T).pair ((i64T).pair ((i64T).pair ((Ty.arr 2 (i64T)).pair ((Ty.arr 2 (i64T)).pair ((i64T).pair ((i64T).pair ((i64T).pair ((i64T).pair Ty.unit)))))))))) (hh, ww, kh, kw, [1, 1], [1, 1], 0, 0, pl, pe, PUnit.unit))), (5, AObj.arr 2 (i64T) 0 false [togR op pic ww.toNat kh.toNat kw.toNat a.toNat b.toNat])], nx := 8 } k
    else none
  else k (AEx.exit 4) { fr := mkFr 6 [(3, AV.os 0 0), (4, AV.op 2 [] 0), (5, AV.op 3 [] 0), (6, AV.op 4 [] 0), (9, AV.nils), (11, AV.d (i64T).slice pic), (12, I a), (15, I pl), (16, I i), (31, I na), (32, I a), (37, I nb), (38, I b), (39, B false)], hp := [(0, AObj.arr 3 (i64T) 0 false ds), (1, AObj.arr 9 Ty.str 0 false ins), (2, AObj.box ((AV.d Ty.str op).pr ((AV.d Ty.str []).pr ((AV.os 1 0).pr ((AV.d Ty.str [122]).pr (AV.nils.pr (AV.d Ty.unit PUnit.unit))))))), (3, AObj.box (AV.d ((i64T).pair ((i64T).slice.pair ((i64T).slice.pair Ty.unit))) (t, xd, dt, PUnit.unit))), (4, AObj.box (AV.d ((i64T).pair ((i64T).pair ((i64T).pair ((i64T).pair ((Ty.arr 2 (i64T)).pair ((Ty.arr 2 (i64T)).pair ((i64T).pair ((i64T).pair ((i64T).pair ((i64T).pair Ty.unit)))))))))) (hh, ww, kh, kw, [1, 1], [1, 1], 0, 0, pl, pe, PUnit.unit)))], nx := 7 } := by kernel_rfl
theorem in_step0G (op : List UInt8) (ds : List Int) (ins : List (List UInt8)) (t : Int) (xd dt : List Int) (hh ww kh kw pl pe : Int) (pic : List Int) (i a b na nb : Int) (n : Nat) {R : Type} (k : AEx → LSt → Option R) : lp gQ cf_poolG (cL (cL (cR (cR (cL (cL (cR (cR (cL (cL (cR (cR (cR (cL (cL (cR (cR (cL (cL (cR (cL (cR (cR C_poolG))))))))))))))))))))))) (n + 1) (st2G op ds ins t xd dt hh ww kh kw pl pe pic i a b na nb []) k =
  bif decide (b < nb) then 
    bif true && inside hh ww kh kw a b pic.length then lp gQ cf_poolG (cL (cL (cR (cR (cL (cL (cR (cR (cL (cL (cR (cR (cR (cL (cL (cR (cR (cL (cL (cR (cL (cR (cR C_poolG))))))))))))))))))))))) n { fr := mkFr 6 [(3, AV.os 0 0), (4, AV.op 2 [] 0), (5, AV.op 3 [] 0), (6, AV.op 4 [] 0), (9, AV.os 5 0), (11, AV.d (i64T).slice pic), (12, I a), (15, I pl), (16, I i), (31, I na), (32, I a), (37, I nb), (38, I (IntKind.i64.wrap (b + 1)))], hp := [(0, AObj.arr 3 (i64T) 0 false ds), (1, AObj.arr 9 Ty.str 0 false ins), (2, AObj.box ((AV.d Ty.str op).pr ((AV.d Ty.str []).pr ((AV.os 1 0).pr ((AV.d Ty.str [122]).pr (AV.nils.pr (AV.d Ty.unit PUnit.unit))))))), (3, AObj.box (AV.d ((i64T).pair ((i64T).slice.pair ((i64T).slice.pair Ty.unit))) (t, xd, dt, PUnit.unit))), (4, AObj.box (AV.d ((i64T).pair ((i64T).pair ((i64T).pair ((i64T).pair ((Ty.arr 2 (i64T)).pair ((Ty.arr 2 (i64T)).pair ((i64T).pair ((i64T).pair ((i64T).pair ((i64T).pair Ty.unit)))))))))) (hh, ww, kh, kw, [1, 1], [1, 1], 0, 0, pl, pe, PUnit.unit))), (5, AObj.arr 2 (i64T) 0 false [togR op pic ww.toNat kh.toNat kw.toNat a.toNat b.toNat])], nx := 8 } k
    else none
  else k (AEx.exit 4) { fr := mkFr 6 [(3, AV.os 0 0), (4, AV.op 2 [] 0), (5, AV.op 3 [] 0), (6, AV.op 4 [] 0), (9, AV.nils), (11, AV.d (i64T).slice pic), (12, I a), (15, I pl), (16, I i), (31, I na), (32, I a), (37, I nb), (38, I b), (39, B false)], hp := [(0, AObj.arr 3 (i64T) 0 false ds), (1, AObj.arr 9 Ty.str 0 false ins), (2, AObj.box ((AV.d Ty.str op).pr ((AV.d Ty.str []).pr ((AV.os 1 0).pr ((AV.d Ty.str [122]).pr (AV.nils.pr (AV.d Ty.unit PUnit.unit))))))), (3, AObj.box (AV.d ((i64T).pair ((i64T).slice.pair ((i64T).slice.pair Ty.unit))) (t, xd, dt, PUnit.unit))), (4, AObj.box (AV.d ((i64T).pair ((i64T).pair ((i64T).pair ((i64T).pair ((Ty.arr 2 (i64T)).pair ((Ty.arr 2 (i64T)).pair ((i64T).pair ((i64T).pair ((i64T).pair ((i64T).pair Ty.unit)))))))))) (hh, ww, kh, kw, [1, 1], [1, 1], 0, 0, pl, pe, PUnit.unit)))], nx := 7 } := by
  have h := in_step0GH (hlp gQ cf_poolG) op ds ins t xd dt hh ww kh kw pl pe pic i a b na nb n k
  simp only [lpH_lp] at h
  exact h
theorem in_stepGH (hl : Hl) (op : List UInt8) (ds : List Int) (ins : List (List UInt8)) (t : Int) (xd dt : List Int) (hh ww kh kw pl pe : Int) (pic : List Int) (i a b na nb : Int) (o : Int) (out : List Int) (n : Nat) {R : Type} (k : AEx → LSt → Option R) : lpH gQ cf_poolG [3, 7, 10] hl (cL (cL (cR (cR (cL (cL (cR (cR (cL (cL (cR (cR (cR (cL (cL (cR (cR (cL (cL (cR (cL (cR (cR C_poolG))))))))))))))))))))))) (n + 1) (st2G op ds ins t xd dt hh ww kh kw pl pe pic i a b na nb (o :: out)) k =
  bif decide (b < nb) then 
    bif true && inside hh ww kh kw a b pic.length then (app (o :: out) [togR op pic ww.toNat kh.toNat kw.toNat a.toNat b.toNat]).bind fun v2 =>
        lpH gQ cf_poolG [3, 7, 10] hl (cL (cL (cR (cR (cL (cL (cR (cR (cL (cL (cR (cR (cR (cL (cL (cR (cR (cL (cL (cR (cL (cR (cR C_poolG))))))))))))))))))))))) n { fr := mkFr 6 [(3, AV.os 0 0), (4, AV.op 2 [] 0), (5, AV.op 3 [] 0), (6, AV.op 4 [] 0), (9, AV.os 5 0), (11, AV.d (i64T).slice pic), (12, I a), (15, I pl), (16, I i), (31, I na), (32, I a), (37, I nb), (38, I (IntKind.i64.wrap (b + 1)))], hp := [(0, AObj.arr 3 (i64T) 0 false ds), (1, AObj.arr 9 Ty.str 0 false ins), (2, AObj.box ((AV.d Ty.str op).pr ((AV.d Ty.str []).pr ((AV.os 1 0).pr ((AV.d Ty.str [122]).pr (AV.nils.pr (AV.d Ty.unit PUnit.unit))))))), (3, AObj.box (AV.d ((i64T).pair ((i64T).slice.pair ((i64T).slice.pair Ty.unit))) (t, xd, dt, PUnit.unit))), (4, AObj.box (AV.d ((i64T).pair ((i64T).pair ((i64T).pair ((i64T).pair ((Ty.arr 2 (i64T)).pair ((Ty.arr 2 (i64T)).pair ((i64T).pair ((i64T).pair ((i64T).pair ((i64T).pair Ty.unit)))))))))) (hh, ww, kh, kw, [1, 1], [1, 1], 0, 0, pl, pe, PUnit.unit))), (5, AObj.arr 2 (i64T) 0 false v2)], nx := 8 } k
    else none
  else k (AEx.exit 4) { fr := mkFr 6 [(3, AV.os 0 0), (4, AV.op 2 [] 0), (5, AV.op 3 [] 0), (6, AV.op 4 [] 0), (9, AV.os 5 0), (11, AV.d (i64T).slice pic), (12, I a), (15, I pl), (16, I i), (31, I na), (32, I a), (37, I nb), (38, I b), (39, B false)], hp := [(0, AObj.arr 3 (i64T) 0 false ds), (1, AObj.arr 9 Ty.str 0 false ins), (2, AObj.box ((AV.d Ty.str op).pr ((AV.d Ty.str []).pr ((AV.os 1 0).pr ((AV.d Ty.str [122]).pr (AV.nils.pr (AV.d Ty.unit PUnit.unit))))))), (3, AObj.box (AV.d ((i64T).pair ((i64T).slice.pair ((i64T).slice.pair Ty.unit))) (t, xd, dt, PUnit.unit))), (4, AObj.box (AV.d ((i64T).pair ((i64T).pair ((i64T).pair ((i64T).pair ((Ty.arr 2 (i64T)).pair ((Ty.arr 2 (i64T)).pair ((i64T).pair ((i64T).pair ((i64T).pair ((i64T).pair Ty.unit)))))))))) (hh, ww, kh, kw, [1, 1], [1, 1], 0, 0, pl, pe, PUnit.unit))), (5, AObj.arr 2 (i64T) 0 false (o :: out))], nx := 8 } := by kernel_rfl
theorem in_stepG (op : List UInt8) (ds : List Int) (ins : List (List UInt8)) (t : Int) (xd dt : List Int) (hh ww kh kw pl pe : Int) (pic : List Int) (i a b na nb : Int) (o : Int) (out : List Int) (n : Nat) {R : Type} (k : AEx → LSt → Option R) : lp gQ cf_poolG (cL (cL (cR (cR (cL (cL (cR (cR (cL (cL (cR (cR (cR (cL (cL (cR (cR (cL (cL (cR (cL (cR (cR C_poolG))))))))))))))))))))))) (n + 1) (st2G op ds ins t xd dt hh ww kh kw pl pe pic i a b na nb (o :: out)) k =
  bif decide (b < nb) then 
    bif true && inside hh ww kh kw a b pic.length then (app (o :: out) [togR op pic ww.toNat kh.toNat kw.toNat a.toNat b.toNat]).bind fun v2 =>
        lp gQ cf_poolG (cL (cL (cR (cR (cL (cL (cR (cR (cL (cL (cR (cR (cR (cL (cL (cR (cR (cL (cL (cR (cL (cR (cR C_poolG))))))))))))))))))))))) n { fr := mkFr 6 [(3, AV.os 0 0), (4, AV.op 2 [] 0), (5, AV.op 3 [] 0), (6, AV.op 4 [] 0), (9, AV.os 5 0), (11, AV.d (i64T).slice pic), (12, I a), (15, I pl), (16, I i), (31, I na), (32, I a), (37, I nb), (38, I (IntKind.i64.wrap (b + 1)))], hp := [(0, AObj.arr 3 (i64T) 0 false ds), (1, AObj.arr 9 Ty.str 0 false ins), (2, AObj.box ((AV.d Ty.str op).pr ((AV.d Ty.str []).pr ((AV.os 1 0).pr ((AV.d Ty.str [122]).pr (AV.nils.pr (AV.d Ty.unit PUnit.unit))))))), (3, AObj.box (AV.d ((i64T).pair ((i64T).slice.pair ((i64T).slice.pair Ty.unit))) (t, xd, dt, PUnit.unit))), (4, AObj.box (AV.d ((i64T).pair ((i64T).pair ((i64T).pair ((i64T).pair ((Ty.arr 2 (i64T)).pair ((Ty.arr 2 (i64T)).pair ((i64T).pair ((i64T).pair ((i64T).pair ((i64T).pair Ty.unit)))))))))) (hh, ww, kh, kw, [1, 1], [1, 1], 0, 0, pl, pe, PUnit.unit))), (5, AObj.arr 2 (i64T) 0 false v2)], nx := 8 } k
    else none
  else k (AEx.exit 4) { fr := mkFr 6 [(3, AV.os 0 0), (4, AV.op 2 [] 0), (5, AV.op 3 [] 0), (6, AV.op 4 [] 0), (9, AV.os 5 0), (11, AV.d (i64T).slice pic), (12, I a), (15, I pl), (16, I i), (31, I na), (32, I a), (37, I nb), (38, I b), (39, B false)], hp := [(0, AObj.arr 3 (i64T) 0 false ds), (1, AObj.arr 9 Ty.str 0 false ins), (2, AObj.box ((AV.d Ty.str op).pr ((AV.d Ty.str []).pr ((AV.os 1 0).pr ((AV.d Ty.str [122]).pr (AV.nils.pr (AV.d Ty.unit PUnit.unit))))))), (3, AObj.box (AV.d ((i64T).pair ((i64T).slice.pair ((i64T).slice.pair Ty.unit))) (t, xd, dt, PUnit.unit))), (4, AObj.box (AV.d ((i64T).pair ((i64T).pair ((i64T).pair ((i64T).pair ((Ty.arr 2 (i64T)).pair ((Ty.arr 2 (i64T)).pair ((i64T).pair ((i64T).pair ((i64T).pair ((i64T).pair Ty.unit)))))))))) (hh, ww, kh, kw, [1, 1], [1, 1], 0, 0, pl, pe, PUnit.unit))), (5, AObj.arr 2 (i64T) 0 false (o :: out))], nx := 8 } := by
  have h := in_stepGH (hlp gQ cf_poolG) op ds ins t xd dt hh ww kh kw pl pe pic i a b na nb o out n k
  simp only [lpH_lp] at h
  exact h
theorem mid_step0GH (hl : Hl) (op : List UInt8) (ds : List Int) (ins : List (List UInt8)) (t : Int) (xd dt : List Int) (hh ww kh kw pl pe : Int) (pic : List Int) (i a na : Int) (n : Nat) {R : Type} (k : AEx → LSt → Option R) : lpH gQ cf_poolG [3, 7, 10] hl (cL (cL (cR (cR (cR (cL (cL (cR (cR (cL (cL (cR (cL (cR (cR C_poolG))))))))))))))) (n + 1) (st1G op ds ins t xd dt hh ww kh kw pl pe pic i a na []) k =
  bif decide (a < na) then (idx ds 3).bind fun v1 =>
      (ds[3]?).bind fun v2 =>
        hl (cL (cL (cR (cR (cL (cL (cR (cR (cL (cL (cR (cR (cR (cL (cL (cR (cR (cL (cL (cR (cL (cR (cR C_poolG))))))))))))))))))))))) _ { fr := mkFr 6 [(3, AV.os 0 0), (4, AV.op 2 [] 0), (5, AV.op 3 [] 0), (6, AV.op 4 [] 0), (9, AV.nils), (11, AV.d (i64T).slice pic), (12, I a), (15, I pl), (16, I i), (31, I na), (32, I a), (37, I v2), (38, I 0)], hp := [(0, AObj.arr 3 (i64T) 0 false ds), (1, AObj.arr 9 Ty.str 0 false ins), (2, AObj.box ((AV.d Ty.str op).pr ((AV.d Ty.str []).pr ((AV.os 1 0).pr ((AV.d Ty.str [122]).pr (AV.nils.pr (AV.d Ty.unit PUnit.unit))))))), (3, AObj.box (AV.d ((i64T).pair ((i64T).slice.pair ((i64T).slice.pair Ty.unit))) (t, xd, dt, PUnit.unit))), (4, AObj.box (AV.d ((i64T).pair ((i64T).pair ((i64T).pair ((i64T).pair ((Ty.arr 2 (i64T)).pair ((Ty.arr 2 (i64T)).pair ((i64T).pair ((i64T).pair ((i64T).pair ((i64T).pair Ty.unit)))))))))) (hh, ww, kh, kw, [1, 1], [1, 1], 0, 0, pl, pe, PUnit.unit)))], nx := 7 } (blkK 4 (blkK 3 (seqH gQ cf_poolG [3, 7, 10] hl (cR (cR (cR (cL (cL (cR (cR (cR (cL (cL (cR (cR (cL (cL (cR (cL (cR (cR C_poolG)))))))))))))))))) (nxtH gQ cf_poolG [3, 7, 10] hl (cL (cL (cR (cR (cR (cL (cL (cR (cR (cL (cL (cR (cL (cR (cR C_poolG))))))))))))))) n k))))
  else k (AEx.exit 2) { fr := mkFr 6 [(3, AV.os 0 0), (4, AV.op 2 [] 0), (5, AV.op 3 [] 0), (6, AV.op 4 [] 0), (9, AV.nils), (11, AV.d (i64T).slice pic), (15, I pl), (16, I i), (31, I na), (32, I a), (33, B false)], hp := [(0, AObj.arr 3 (i64T) 0 false ds), (1, AObj.arr 9 Ty.str 0 false ins), (2, AObj.box ((AV.d Ty.str op).pr ((AV.d Ty.str []).pr ((AV.os 1 0).pr ((AV.d Ty.str [122]).pr (AV.nils.pr (AV.d Ty.unit PUnit.unit))))))), (3, AObj.box (AV.d ((i64T).pair ((i64T).slice.pair ((i64T).slice.pair Ty.unit))) (t, xd, dt, PUnit.unit))), (4, AObj.box (AV.d ((i64T).pair ((i64T).pair ((i64T).pair ((i64T).pair ((Ty.arr 2 (i64T)).pair ((Ty.arr 2 (i64T)).pair ((i64T).pair ((i64T).pair ((i64T).pair ((i64T).pair Ty.unit)))))))))) (hh, ww, kh, kw, [1, 1], [1, 1], 0, 0, pl, pe, PUnit.unit)))], nx := 7 } := by kernel_rfl
theorem mid_step0G (op : List UInt8) (ds : List Int) (ins : List (List UInt8)) (t : Int) (xd dt : List Int) (hh ww kh kw pl pe : Int) (pic : List Int) (i a na : Int) (n : Nat) {R : Type} (k : AEx → LSt → Option R) : lp gQ cf_poolG (cL (cL (cR (cR (cR (cL (cL (cR (cR (cL (cL (cR (cL (cR (cR C_poolG))))))))))))))) (n + 1) (st1G op ds ins t xd dt hh ww kh kw pl pe pic i a na []) k =
  bif decide (a < na) then (idx ds 3).bind fun v1 =>
      (ds[3]?).bind fun v2 =>
        (hlp gQ cf_poolG) (cL (cL (cR (cR (cL (cL (cR (cR (cL (cL (cR (cR (cR (cL (cL (cR (cR (cL (cL (cR (cL (cR (cR C_poolG))))))))))))))))))))))) _ { fr := mkFr 6 [(3, AV.os 0 0), (4, AV.op 2 [] 0), (5, AV.op 3 [] 0), (6, AV.op 4 [] 0), (9, AV.nils), (11, AV.d (i64T).slice pic), (12, I a), (15, I pl), (16, I i), (31, I na), (32, I a), (37, I v2), (38, I 0)], hp := [(0, AObj.arr 3 (i64T) 0 false ds), (1, AObj.arr 9 Ty.str 0 false ins), (2, AObj.box ((AV.d Ty.str op).pr ((AV.d Ty.str []).pr ((AV.os 1 0).pr ((AV.d Ty.str [122]).pr (AV.nils.pr (AV.d Ty.unit PUnit.unit))))))), (3, AObj.box (AV.d ((i64T).pair ((i64T).slice.pair ((i64T).slice.pair Ty.unit))) (t, xd, dt, PUnit.unit))), (4, AObj.box (AV.d ((i64T).pair ((i64T).pair ((i64T).pair ((i64T).pair ((Ty.arr 2 (i64T)).pair ((Ty.arr 2 (i64T)).pair ((i64T).pair ((i64T).pair ((i64T).pair ((i64T).pair Ty.unit)))))))))) (hh, ww, kh, kw, [1, 1], [1, 1], 0, 0, pl, pe, PUnit.unit)))], nx := 7 } (blkK 4 (blkK 3 (seqH gQ cf_poolG [3, 7, 10] (hlp gQ cf_poolG) (cR (cR (cR (cL (cL (cR (cR (cR (cL (cL (cR (cR (cL (cL (cR (cL (cR (cR C_poolG)))))))))))))))))) (nxtH gQ cf_poolG [3, 7, 10] (hlp gQ cf_poolG) (cL (cL (cR (cR (cR (cL (cL (cR (cR (cL (cL (cR (cL (cR (cR C_poolG))))))))))))))) n k))))
  else k (AEx.exit 2) { fr := mkFr 6 [(3, AV.os 0 0), (4, AV.op 2 [] 0), (5, AV.op 3 [] 0), (6, AV.op 4 [] 0), (9, AV.nils), (11, AV.d (i64T).slice pic), (15, I pl), (16, I i), (31, I na), (32, I a), (33, B false)], hp := [(0, AObj.arr 3 (i64T) 0 false ds), (1, AObj.arr 9 Ty.str 0 false ins), (2, AObj.box ((AV.d Ty.str op).pr ((AV.d Ty.str []).pr ((AV.os 1 0).pr ((AV.d Ty.str [122]).pr (AV.nils.pr (AV.d Ty.unit PUnit.unit))))))), (3, AObj.box (AV.d ((i64T).pair ((i64T).slice.pair ((i64T).slice.pair Ty.unit))) (t, xd, dt, PUnit.unit))), (4, AObj.box (AV.d ((i64T).pair ((i64T).pair ((i64T).pair ((i64T).pair ((Ty.arr 2 (i64T)).pair ((Ty.arr 2 (i64T)).pair ((i64T).pair ((i64T).pair ((i64T).pair ((i64T).pair Ty.unit)))))))))) (hh, ww, kh, kw, [1, 1], [1, 1], 0, 0, pl, pe, PUnit.unit)))], nx := 7 } := by
  have h := mid_step0GH (hlp gQ cf_poolG) op ds ins t xd dt hh ww kh kw pl pe pic i a na n k
  simp only [lpH_lp] at h
  exact h
theorem mid_stepGH (hl : Hl) (op : List UInt8) (ds : List Int) (ins : List (List UInt8)) (t : Int) (xd dt : List Int) (hh ww kh kw pl pe : Int) (pic : List Int) (i a na : Int) (o : Int) (out : List Int) (n : Nat) {R : Type} (k : AEx → LSt → Option R) : lpH gQ cf_poolG [3, 7, 10] hl (cL (cL (cR (cR (cR (cL (cL (cR (cR (cL (cL (cR (cL (cR (cR C_poolG))))))))))))))) (n + 1) (st1G op ds ins t xd dt hh ww kh kw pl pe pic i a na (o :: out)) k =
  bif decide (a < na) then (idx ds 3).bind fun v1 =>
      (ds[3]?).bind fun v2 =>
        hl (cL (cL (cR (cR (cL (cL (cR (cR (cL (cL (cR (cR (cR (cL (cL (cR (cR (cL (cL (cR (cL (cR (cR C_poolG))))))))))))))))))))))) _ { fr := mkFr 6 [(3, AV.os 0 0), (4, AV.op 2 [] 0), (5, AV.op 3 [] 0), (6, AV.op 4 [] 0), (9, AV.os 5 0), (11, AV.d (i64T).slice pic), (12, I a), (15, I pl), (16, I i), (31, I na), (32, I a), (37, I v2), (38, I 0)], hp := [(0, AObj.arr 3 (i64T) 0 false ds), (1, AObj.arr 9 Ty.str 0 false ins), (2, AObj.box ((AV.d Ty.str op).pr ((AV.d Ty.str []).pr ((AV.os 1 0).pr ((AV.d Ty.str [122]).pr (AV.nils.pr (AV.d Ty.unit PUnit.unit))))))), (3, AObj.box (AV.d ((i64T).pair ((i64T).slice.pair ((i64T).slice.pair Ty.unit))) (t, xd, dt, PUnit.unit))), (4, AObj.box (AV.d ((i64T).pair ((i64T).pair ((i64T).pair ((i64T).pair ((Ty.arr 2 (i64T)).pair ((Ty.arr 2 (i64T)).pair ((i64T).pair ((i64T).pair ((i64T).pair ((i64T).pair Ty.unit)))))))))) (hh, ww, kh, kw, [1, 1], [1, 1], 0, 0, pl, pe, PUnit.unit))), (5, AObj.arr 2 (i64T) 0 false (o :: out))], nx := 8 } (blkK 4 (blkK 3 (seqH gQ cf_poolG [3, 7, 10] hl (cR (cR (cR (cL (cL (cR (cR (cR (cL (cL (cR (cR (cL (cL (cR (cL (cR (cR C_poolG)))))))))))))))))) (nxtH gQ cf_poolG [3, 7, 10] hl (cL (cL (cR (cR (cR (cL (cL (cR (cR (cL (cL (cR (cL (cR (cR C_poolG))))))))))))))) n k))))
  else k (AEx.exit 2) { fr := mkFr 6 [(3, AV.os 0 0), (4, AV.op 2 [] 0), (5, AV.op 3 [] 0), (6, AV.op 4 [] 0), (9, AV.os 5 0), (11, AV.d (i64T).slice pic), (15, I pl), (16, I i), (31, I na), (32, I a), (33, B false)], hp := [(0, AObj.arr 3 (i64T) 0 false ds), (1, AObj.arr 9 Ty.str 0 false ins), (2, AObj.box ((AV.d Ty.str op).pr ((AV.d Ty.str []).pr ((AV.os 1 0).pr ((AV.d Ty.str [122]).pr (AV.nils.pr (AV.d Ty.unit PUnit.unit))))))), (3, AObj.box (AV.d ((i64T).pair ((i64T).slice.pair ((i64T).slice.pair Ty.unit))) (t, xd, dt, PUnit.unit))), (4, AObj.box (AV.d ((i64T).pair ((i64T).pair ((i64T).pair ((i64T).pair ((Ty.arr 2 (i64T)).pair ((Ty.arr 2 (i64T)).pair ((i64T).pair ((i64T).pair ((i64T).pair ((i64T).pair Ty.unit)))))))))) (hh, ww, kh, kw, [1, 1], [1, 1], 0, 0, pl, pe, PUnit.unit))), (5, AObj.arr 2 (i64T) 0 false (o :: out))], nx := 8 } := by kernel_rfl
theorem mid_stepG (op : List UInt8) (ds : List Int) (ins : List (List UInt8)) (t : Int) (xd dt : List Int) (hh ww kh kw pl pe : Int) (pic : List Int) (i a na : Int) (o : Int) (out : List Int) (n : Nat) {R : Type} (k : AEx → LSt → Option R) : lp gQ cf_poolG (cL (cL (cR (cR (cR (cL (cL (cR (cR (cL (cL (cR (cL (cR (cR C_poolG))))))))))))))) (n + 1) (st1G op ds ins t xd dt hh ww kh kw pl pe pic i a na (o :: out)) k =
  bif decide (a < na) then (idx ds 3).bind fun v1 =>
      (ds[3]?).bind fun v2 =>
        (hlp gQ cf_poolG) (cL (cL (cR (cR (cL (cL (cR (cR (cL (cL (cR (cR (cR (cL (cL (cR (cR (cL (cL (cR (cL (cR (cR C_poolG))))))))))))))))))))))) _ { fr := mkFr 6 [(3, AV.os 0 0), (4, AV.op 2 [] 0), (5, AV.op 3 [] 0), (6, AV.op 4 [] 0), (9, AV.os 5 0), (11, AV.d (i64T).slice pic), (12, I a), (15, I pl), (16, I i), (31, I na), (32, I a), (37, I v2), (38, I 0)], hp := [(0, AObj.arr 3 (i64T) 0 false ds), (1, AObj.arr 9 Ty.str 0 false ins), (2, AObj.box ((AV.d Ty.str op).pr ((AV.d Ty.str []).pr ((AV.os 1 0).pr ((AV.d Ty.str [122]).pr (AV.nils.pr (AV.d Ty.unit PUnit.unit))))))), (3, AObj.box (AV.d ((i64T).pair ((i64T).slice.pair ((i64T).slice.pair Ty.unit))) (t, xd, dt, PUnit.unit))), (4, AObj.box (AV.d ((i64T).pair ((i64T).pair ((i64T).pair ((i64T).pair ((Ty.arr 2 (i64T)).pair ((Ty.arr 2 (i64T)).pair ((i64T).pair ((i64T).pair ((i64T).pair ((i64T).pair Ty.unit)))))))))) (hh, ww, kh, kw, [1, 1], [1, 1], 0, 0, pl, pe, PUnit.unit))), (5, AObj.arr 2 (i64T) 0 false (o :: out))], nx := 8 } (blkK 4 (blkK 3 (seqH gQ cf_poolG [3, 7, 10] (hlp gQ cf_poolG) (cR (cR (cR (cL (cL (cR (cR (cR (cL (cL (cR (cR (cL (cL (cR (cL (cR (cR C_poolG)))))))))))))))))) (nxtH gQ cf_poolG [3, 7, 10] (hlp gQ cf_poolG) (cL (cL (cR (cR (cR (cL (cL (cR (cR (cL (cL (cR (cL (cR (cR C_poolG))))))))))))))) n k))))
  else k (AEx.exit 2) { fr := mkFr 6 [(3, AV.os 0 0), (4, AV.op 2 [] 0), (5, AV.op 3 [] 0), (6, AV.op 4 [] 0), (9, AV.os 5 0), (11, AV.d (i64T).slice pic), (15, I pl), (16, I i), (31, I na), (32, I a), (33, B false)], hp := [(0, AObj.arr 3 (i64T) 0 false ds), (1, AObj.arr 9 Ty.str 0 false ins), (2, AObj.box ((AV.d Ty.str op).pr ((AV.d Ty.str []).pr ((AV.os 1 0).pr ((AV.d Ty.str [122]).pr (AV.nils.pr (AV.d Ty.unit PUnit.unit))))))), (3, AObj.box (AV.d ((i64T).pair ((i64T).slice.pair ((i64T).slice.pair Ty.unit))) (t, xd, dt, PUnit.unit))), (4, AObj.box (AV.d ((i64T).pair ((i64T).pair ((i64T).pair ((i64T).pair ((Ty.arr 2 (i64T)).pair ((Ty.arr 2 (i64T)).pair ((i64T).pair ((i64T).pair ((i64T).pair ((i64T).pair Ty.unit)))))))))) (hh, ww, kh, kw, [1, 1], [1, 1], 0, 0, pl, pe, PUnit.unit))), (5, AObj.arr 2 (i64T) 0 false (o :: out))], nx := 8 } := by
  have h := mid_stepGH (hlp gQ cf_poolG) op ds ins t xd dt hh ww kh kw pl pe pic i a na o out n k
  simp only [lpH_lp] at h
  exact h
theorem out_step0GH (hl : Hl) (op : List UInt8) (ds : List Int) (ins : List (List UInt8)) (t : Int) (xd dt : List Int) (hh ww kh kw pl pe : Int) (i : Int) (n : Nat) {R : Type} (k : AEx → LSt → Option R) : lpH gQ cf_poolG [3, 7, 10] hl (cL (cL (cR (cL (cR (cR C_poolG)))))) (n + 1) (st0G op ds ins t xd dt hh ww kh kw pl pe i []) k =
  bif decide (i < pl) then (if 0 ≤ IntKind.i64.wrap (i * pe) ∧ IntKind.i64.wrap (i * pe) ≤ Int.ofNat dt.length ∧ Int.ofNat dt.length ≤ Int.ofNat dt.length then some (List.drop (IntKind.i64.wrap (i * pe)).toNat (List.take (Int.ofNat dt.length).toNat dt)) else none).bind fun v1 =>
      (if (0 : Int) ≤ 0 ∧ 0 ≤ pe ∧ pe ≤ Int.ofNat v1.length then some (List.drop 0 (List.take pe.toNat v1)) else none).bind fun v2 =>
        (idx ds 2).bind fun v3 =>
          (ds[2]?).bind fun v4 =>
            hl (cL (cL (cR (cR (cR (cL (cL (cR (cR (cL (cL (cR (cL (cR (cR C_poolG))))))))))))))) _ { fr := mkFr 6 [(3, AV.os 0 0), (4, AV.op 2 [] 0), (5, AV.op 3 [] 0), (6, AV.op 4 [] 0), (9, AV.nils), (11, AV.d (i64T).slice v2), (15, I pl), (16, I i), (31, I v4), (32, I 0)], hp := [(0, AObj.arr 3 (i64T) 0 false ds), (1, AObj.arr 9 Ty.str 0 false ins), (2, AObj.box ((AV.d Ty.str op).pr ((AV.d Ty.str []).pr ((AV.os 1 0).pr ((AV.d Ty.str [122]).pr (AV.nils.pr (AV.d Ty.unit PUnit.unit))))))), (3, AObj.box (AV.d ((i64T).pair ((i64T).slice.pair ((i64T).slice.pair Ty.unit))) (t, xd, dt, PUnit.unit))), (4, AObj.box (AV.d ((i64T).pair ((i64T).pair ((i64T).pair ((i64T).pair ((Ty.arr 2 (i64T)).pair ((Ty.arr 2 (i64T)).pair ((i64T).pair ((i64T).pair ((i64T).pair ((i64T).pair Ty.unit)))))))))) (hh, ww, kh, kw, [1, 1], [1, 1], 0, 0, pl, pe, PUnit.unit)))], nx := 7 } (blkK 2 (blkK 1 (seqH gQ cf_poolG [3, 7, 10] hl (cR (cR (cR (cL (cL (cR (cL (cR (cR C_poolG))))))))) (nxtH gQ cf_poolG [3, 7, 10] hl (cL (cL (cR (cL (cR (cR C_poolG)))))) n k))))
  else k (AEx.exit 0) { fr := mkFr 6 [(3, AV.os 0 0), (4, AV.op 2 [] 0), (5, AV.op 3 [] 0), (6, AV.op 4 [] 0), (9, AV.nils), (15, I pl), (16, I i), (17, B false)], hp := [(0, AObj.arr 3 (i64T) 0 false ds), (1, AObj.arr 9 Ty.str 0 false ins), (2, AObj.box ((AV.d Ty.str op).pr ((AV.d Ty.str []).pr ((AV.os 1 0).pr ((AV.d Ty.str [122]).pr (AV.nils.pr (AV.d Ty.unit PUnit.unit))))))), (3, AObj.box (AV.d ((i64T).pair ((i64T).slice.pair ((i64T).slice.pair Ty.unit))) (t, xd, dt, PUnit.unit))), (4, AObj.box (AV.d ((i64T).pair ((i64T).pair ((i64T).pair ((i64T).pair ((Ty.arr 2 (i64T)).pair ((Ty.arr 2 (i64T)).pair ((i64T).pair ((i64T).pair ((i64T).pair ((i64T).pair Ty.unit)))))))))) (hh, ww, kh, kw, [1, 1], [1, 1], 0, 0, pl, pe, PUnit.unit)))], nx := 7 } := by kernel_rfl
theorem out_step0G (op : List UInt8) (ds : List Int) (ins : List (List UInt8)) (t : Int) (xd dt : List Int) (hh ww kh kw pl pe : Int) (i : Int) (n : Nat) {R : Type} (k : AEx → LSt → Option R) : lp gQ cf_poolG (cL (cL (cR (cL (cR (cR C_poolG)))))) (n + 1) (st0G op ds ins t xd dt hh ww kh kw pl pe i []) k =
  bif decide (i < pl) then (if 0 ≤ IntKind.i64.wrap (i * pe) ∧ IntKind.i64.wrap (i * pe) ≤ Int.ofNat dt.length ∧ Int.ofNat dt.length ≤ Int.ofNat dt.length then some (List.drop (IntKind.i64.wrap (i * pe)).toNat (List.take (Int.ofNat dt.length).toNat dt)) else none).bind fun v1 =>
      (if (0 : Int) ≤ 0 ∧ 0 ≤ pe ∧ pe ≤ Int.ofNat v1.length then some (List.drop 0 (List.take pe.toNat v1)) else none).bind fun v2 =>
        (idx ds 2).bind fun v3 =>
          (ds[2]?).bind fun v4 =>
            (hlp gQ cf_poolG) (cL (cL (cR (cR (cR (cL (cL (cR (cR (cL (cL (cR (cL (cR (cR C_poolG))))))))))))))) _ { fr := mkFr 6 [(3, AV.os 0 0), (4, AV.op 2 [] 0), (5, AV.op 3 [] 0), (6, AV.op 4 [] 0), (9, AV.nils), (11, AV.d (i64T).slice v2), (15, I pl), (16, I i), (31, I v4), (32, I 0)], hp := [(0, AObj.arr 3 (i64T) 0 false ds), (1, AObj.arr 9 Ty.str 0 false ins), (2, AObj.box ((AV.d Ty.str op).pr ((AV.d Ty.str []).pr ((AV.os 1 0).pr ((AV.d Ty.str [122]).pr (AV.nils.pr (AV.d Ty.unit PUnit.unit))))))), (3, AObj.box (AV.d ((i64T).pair ((i64T).slice.pair ((i64T).slice.pair Ty.unit))) (t, xd, dt, PUnit.unit))), (4, AObj.box (AV.d ((i64T).pair ((i64T).pair ((i64T).pair ((i64T).pair ((Ty.arr 2 (i64T)).pair ((Ty.arr 2 (i64T)).pair ((i64T).pair ((i64T).pair ((i64T).pair ((i64T).pair Ty.unit)))))))))) (hh, ww, kh, kw, [1, 1], [1, 1], 0, 0, pl, pe, PUnit.unit)))], nx := 7 } (blkK 2 (blkK 1 (seqH gQ cf_poolG [3, 7, 10] (hlp gQ cf_poolG) (cR (cR (cR (cL (cL (cR (cL (cR (cR C_poolG))))))))) (nxtH gQ cf_poolG [3, 7, 10] (hlp gQ cf_poolG) (cL (cL (cR (cL (cR (cR C_poolG)))))) n k))))
  else k (AEx.exit 0) { fr := mkFr 6 [(3, AV.os 0 0), (4, AV.op 2 [] 0), (5, AV.op 3 [] 0), (6, AV.op 4 [] 0), (9, AV.nils), (15, I pl), (16, I i), (17, B false)], hp := [(0, AObj.arr 3 (i64T) 0 false ds), (1, AObj.arr 9 Ty.str 0 false ins), (2, AObj.box ((AV.d Ty.str op).pr ((AV.d Ty.str []).pr ((AV.os 1 0).pr ((AV.d Ty.str [122]).pr (AV.nils.pr (AV.d Ty.unit PUnit.unit))))))), (3, AObj.box (AV.d ((i64T).pair ((i64T).slice.pair ((i64T).slice.pair Ty.unit))) (t, xd, dt, PUnit.unit))), (4, AObj.box (AV.d ((i64T).pair ((i64T).pair ((i64T).pair ((i64T).pair ((Ty.arr 2 (i64T)).pair ((Ty.arr 2 (i64T)).pair ((i64T).pair ((i64T).pair ((i64T).pair ((i64T).pair Ty.unit)))))))))) (hh, ww, kh, kw, [1, 1], [1, 1], 0, 0, pl, pe, PUnit.unit)))], nx := 7 } := by
  have h := out_step0GH (hlp gQ cf_poolG) op ds ins t xd dt hh ww kh kw pl pe i n k
  simp only [lpH_lp] at h
  exact h
theorem out_stepGH (hl : Hl) (op : List UInt8) (ds : List Int) (ins : List (List UInt8)) (t : Int) (xd dt : List Int) (hh ww kh kw pl pe : Int) (i : Int) (o : Int) (out : List Int) (n : Nat) {R : Type} (k : AEx → LSt → Option R) : lpH gQ cf_poolG [3, 7, 10] hl (cL (cL (cR (cL (cR (cR C_poolG)))))) (n + 1) (st0G op ds ins t xd dt hh ww kh kw pl pe i (o :: out)) k =
  bif decide (i < pl) then (if 0 ≤ IntKind.i64.wrap (i * pe) ∧ IntKind.i64.wrap (i * pe) ≤ Int.ofNat dt.length ∧ Int.ofNat dt.length ≤ Int.ofNat dt.length then some (List.drop (IntKind.i64.wrap (i * pe)).toNat (List.take (Int.ofNat dt.length).toNat dt)) else none).bind fun v1 =>
      (if (0 : Int) ≤ 0 ∧ 0 ≤ pe ∧ pe ≤ Int.ofNat v1.length then some (List.drop 0 (List.take pe.toNat v1)) else none).bind fun v2 =>
        (idx ds 2).bind fun v3 =>
          (ds[2]?).bind fun v4 =>
            hl (cL (cL (cR (cR (cR (cL (cL (cR (cR (cL (cL (cR (cL (cR (cR C_poolG))))))))))))))) _ { fr := mkFr 6 [(3, AV.os 0 0), (4, AV.op 2 [] 0), (5, AV.op 3 [] 0), (6, AV.op 4 [] 0), (9, AV.os 5 0), (11, AV.d (i64T).slice v2), (15, I pl), (16, I i), (31, I v4), (32, I 0)], hp := [(0, AObj.arr 3 (i64T) 0 false ds), (1, AObj.arr 9 Ty.str 0 false ins), (2, AObj.box ((AV.d Ty.str op).pr ((AV.d Ty.str []).pr ((AV.os 1 0).pr ((AV.d Ty.str [122]).pr (AV.nils.pr (AV.d Ty.unit PUnit.unit))))))), (3, AObj.box (AV.d ((i64T).pair ((i64T).slice.pair ((i64T).slice.pair Ty.unit))) (t, xd, dt, PUnit.unit))), (4, AObj.box (AV.d ((i64T).pair ((i64T).pair ((i64T).pair ((i64T).pair ((Ty.arr 2 (i64T)).pair ((Ty.arr 2 (i64T)).pair ((i64T).pair ((i64T).pair ((i64T).pair ((i64T).pair Ty.unit)))))))))) (hh, ww, kh, kw, [1, 1], [1, 1], 0, 0, pl, pe, PUnit.unit))), (5, AObj.arr 2 (i64T) 0 false (o :: out))], nx := 8 } (blkK 2 (blkK 1 (seqH gQ cf_poolG [3, 7, 10] hl (cR (cR (cR (cL (cL (cR (cL (cR (cR C_poolG))))))))) (nxtH gQ cf_poolG [3, 7, 10] hl (cL (cL (cR (cL (cR (cR C_poolG)))))) n k))))
  else k (AEx.exit 0) { fr := mkFr 6 [(3, AV.os 0 0), (4, AV.op 2 [] 0), (5, AV.op 3 [] 0), (6, AV.op 4 [] 0), (9, AV.os 5 0), (15, I pl), (16, I i), (17, B false)], hp := [(0, AObj.arr 3 (i64T) 0 false ds), (1, AObj.arr 9 Ty.str 0 false ins), (2, AObj.box ((AV.d Ty.str op).pr ((AV.d Ty.str []).pr ((AV.os 1 0).pr ((AV.d Ty.str [122]).pr (AV.nils.pr (AV.d Ty.unit PUnit.unit))))))), (3, AObj.box (AV.d ((i64T).pair ((i64T).slice.pair ((i64T).slice.pair Ty.unit))) (t, xd, dt, PUnit.unit))), (4, AObj.box (AV.d ((i64T).pair ((i64T).pair ((i64T).pair ((i64T).pair ((Ty.arr 2 (i64T)).pair ((Ty.arr 2 (i64T)).pair ((i64T).pair ((i64T).pair ((i64T).pair ((i64T).pair Ty.unit)))))))))) (hh, ww, kh, kw, [1, 1], [1, 1], 0, 0, pl, pe, PUnit.unit))), (5, AObj.arr 2 (i64T) 0 false (o :: out))], nx := 8 } := by kernel_rfl
theorem out_stepG (op : List UInt8) (ds : List Int) (ins : List (List UInt8)) (t : Int) (xd dt : List Int) (hh ww kh kw pl pe : Int) (i : Int) (o : Int) (out : List Int) (n : Nat) {R : Type} (k : AEx → LSt → Option R) : lp gQ cf_poolG (cL (cL (cR (cL (cR (cR C_poolG)))))) (n + 1) (st0G op ds ins t xd dt hh ww kh kw pl pe i (o :: out)) k =
  bif decide (i < pl) then (if 0 ≤ IntKind.i64.wrap (i * pe) ∧ IntKind.i64.wrap (i * pe) ≤ Int.ofNat dt.length ∧ Int.ofNat dt.length ≤ Int.ofNat dt.length then some (List.drop (IntKind.i64.wrap (i * pe)).toNat (List.take (Int.ofNat dt.length).toNat dt)) else none).bind fun v1 =>
      (if (0 : Int) ≤ 0 ∧ 0 ≤ pe ∧ pe ≤ Int.ofNat v1.length then some (List.drop 0 (List.take pe.toNat v1)) else none).bind fun v2 =>
        (idx ds 2).bind fun v3 =>
          (ds[2]?).bind fun v4 =>
            (hlp gQ cf_poolG) (cL (cL (cR (cR (cR (cL (cL (cR (cR (cL (cL (cR (cL (cR (cR C_poolG))))))))))))))) _ { fr := mkFr 6 [(3, AV.os 0 0), (4, AV.op 2 [] 0), (5, AV.op 3 [] 0), (6, AV.op 4 [] 0), (9, AV.os 5 0), (11, AV.d (i64T).slice v2), (15, I pl), (16, I i), (31, I v4), (32, I 0)], hp := [(0, AObj.arr 3 (i64T) 0 false ds), (1, AObj.arr 9 Ty.str 0 false ins), (2, AObj.box ((AV.d Ty.str op).pr ((AV.d Ty.str []).pr ((AV.os 1 0).pr ((AV.d Ty.str [122]).pr (AV.nils.pr (AV.d Ty.unit PUnit.unit))))))), (3, AObj.box (AV.d ((i64T).pair ((i64T).slice.pair ((i64T).slice.pair Ty.unit))) (t, xd, dt, PUnit.unit))), (4, AObj.box (AV.d ((i64T).pair ((i64T).pair ((i64T).pair ((i64T).pair ((Ty.arr 2 (i64T)).pair ((Ty.arr 2 (i64T)).pair ((i64T).pair ((i64T).pair ((i64T).pair ((i64T).pair Ty.unit)))))))))) (hh, ww, kh, kw, [1, 1], [1, 1], 0, 0, pl, pe, PUnit.unit))), (5, AObj.arr 2 (i64T) 0 false (o :: out))], nx := 8 } (blkK 2 (blkK 1 (seqH gQ cf_poolG [3, 7, 10] (hlp gQ cf_poolG) (cR (cR (cR (cL (cL (cR (cL (cR (cR C_poolG))))))))) (nxtH gQ cf_poolG [3, 7, 10] (hlp gQ cf_poolG) (cL (cL (cR (cL (cR (cR C_poolG)))))) n k))))
  else k (AEx.exit 0) { fr := mkFr 6 [(3, AV.os 0 0), (4, AV.op 2 [] 0), (5, AV.op 3 [] 0), (6, AV.op 4 [] 0), (9, AV.os 5 0), (15, I pl), (16, I i), (17, B false)], hp := [(0, AObj.arr 3 (i64T) 0 false ds), (1, AObj.arr 9 Ty.str 0 false ins), (2, AObj.box ((AV.d Ty.str op).pr ((AV.d Ty.str []).pr ((AV.os 1 0).pr ((AV.d Ty.str [122]).pr (AV.nils.pr (AV.d Ty.unit PUnit.unit))))))), (3, AObj.box (AV.d ((i64T).pair ((i64T).slice.pair ((i64T).slice.pair Ty.unit))) (t, xd, dt, PUnit.unit))), (4, AObj.box (AV.d ((i64T).pair ((i64T).pair ((i64T).pair ((i64T).pair ((Ty.arr 2 (i64T)).pair ((Ty.arr 2 (i64T)).pair ((i64T).pair ((i64T).pair ((i64T).pair ((i64T).pair Ty.unit)))))))))) (hh, ww, kh, kw, [1, 1], [1, 1], 0, 0, pl, pe, PUnit.unit))), (5, AObj.arr 2 (i64T) 0 false (o :: out))], nx := 8 } := by
  have h := out_stepGH (hlp gQ cf_poolG) op ds ins t xd dt hh ww kh kw pl pe i o out n k
  simp only [lpH_lp] at h
  exact h
/-! ### the loops -/
noncomputable def PK0G : AEx → LSt → Option (AEnd × LHp) := (blkK 0 (seqH gQ cf_poolG [3, 7, 10] (hlp gQ cf_poolG) (cR (cR (cR C_poolG))) (endC Tryz.prog 2 Tryz.f31.results.toList ah)))
theorem pool_lpG (op : List UInt8) (ds : List Int) (ins : List (List UInt8)) (t : Int) (xd dt : List Int) (hh ww kh kw pl pe : Int) : runC gQ Tryz.f31 6 [(3, [3, 4, 5, 6, 9, 15, 16]), (7, [3, 4, 5, 6, 9, 11, 15, 16, 31, 32]), (10, [3, 4, 5, 6, 9, 11, 12, 15, 16, 31, 32, 37, 38])] [nodG op, .d (Y0) (t, xd, dt, ()), win1 hh ww kh kw pl pe, .os 0 0] (hpPG ds ins) ah = lp gQ cf_poolG (cL (cL (cR (cL (cR (cR C_poolG)))))) fu (st0G op ds ins t xd dt hh ww kh kw pl pe ((0 : Nat) : Int) []) PK0G := (pool_eqG op ds ins t xd dt hh ww kh kw pl pe).trans (by kernel_rfl)
def st2eG (op : List UInt8) (ds : List Int) (ins : List (List UInt8)) (t : Int) (xd dt : List Int) (hh ww kh kw pl pe : Int) (pic : List Int) (i a b na nb : Int) (out : List Int) : LSt := ⟨mkFr 6 [(3, .os 0 0), (4, .op 2 [] 0), (5, .op 3 [] 0), (6, .op 4 [] 0), (9, oSlG out), (11, .d (.slice i64T) pic), (12, I a), (15, I pl), (16, I i), (31, I na), (32, I a), (37, I nb), (38, I b), (39, B false)], hpQG op ds ins t xd dt hh ww kh kw pl pe ++ oHpG out, oNxG out⟩
def st1eG (op : List UInt8) (ds : List Int) (ins : List (List UInt8)) (t : Int) (xd dt : List Int) (hh ww kh kw pl pe : Int) (pic : List Int) (i a na : Int) (out : List Int) : LSt := ⟨mkFr 6 [(3, .os 0 0), (4, .op 2 [] 0), (5, .op 3 [] 0), (6, .op 4 [] 0), (9, oSlG out), (11, .d (.slice i64T) pic), (15, I pl), (16, I i), (31, I na), (32, I a), (33, B false)], hpQG op ds ins t xd dt hh ww kh kw pl pe ++ oHpG out, oNxG out⟩
def st0eG (op : List UInt8) (ds : List Int) (ins : List (List UInt8)) (t : Int) (xd dt : List Int) (hh ww kh kw pl pe : Int) (i : Int) (out : List Int) : LSt := ⟨mkFr 6 [(3, .os 0 0), (4, .op 2 [] 0), (5, .op 3 [] 0), (6, .op 4 [] 0), (9, oSlG out), (15, I pl), (16, I i), (17, B false)], hpQG op ds ins t xd dt hh ww kh kw pl pe ++ oHpG out, oNxG out⟩
theorem pool_k2G (op : List UInt8) (ds : List Int) (ins : List (List UInt8)) (t : Int) (xd dt : List Int) (hh ww kh kw pl pe : Int) (pic : List Int) (i a b na nb : Int) (o : Int) (out : List Int) (n : Nat) {R : Type} (k : AEx → LSt → Option R) : (blkK 4 (blkK 3 (seqH gQ cf_poolG [3, 7, 10] (hlp gQ cf_poolG) (cR (cR (cR (cL (cL (cR (cR (cR (cL (cL (cR (cR (cL (cL (cR (cL (cR (cR C_poolG)))))))))))))))))) (nxtH gQ cf_poolG [3, 7, 10] (hlp gQ cf_poolG) (cL (cL (cR (cR (cR (cL (cL (cR (cR (cL (cL (cR (cL (cR (cR C_poolG))))))))))))))) n k)))) (.exit 4) (st2eG op ds ins t xd dt hh ww kh kw pl pe pic i a b na nb (o :: out)) = lp gQ cf_poolG (cL (cL (cR (cR (cR (cL (cL (cR (cR (cL (cL (cR (cL (cR (cR C_poolG))))))))))))))) n (st1G op ds ins t xd dt hh ww kh kw pl pe pic i (IntKind.i64.wrap (a + 1)) na (o :: out)) k :=
  Eq.trans (b := lpH gQ cf_poolG [3, 7, 10] (hlp gQ cf_poolG) (cL (cL (cR (cR (cR (cL (cL (cR (cR (cL (cL (cR (cL (cR (cR C_poolG))))))))))))))) n (st1G op ds ins t xd dt hh ww kh kw pl pe pic i (IntKind.i64.wrap (a + 1)) na (o :: out)) k) (by kernel_rfl) lpH_lp
theorem pool_k1G (op : List UInt8) (ds : List Int) (ins : List (List UInt8)) (t : Int) (xd dt : List Int) (hh ww kh kw pl pe : Int) (pic : List Int) (i a na : Int) (o : Int) (out : List Int) (n : Nat) {R : Type} (k : AEx → LSt → Option R) : (blkK 2 (blkK 1 (seqH gQ cf_poolG [3, 7, 10] (hlp gQ cf_poolG) (cR (cR (cR (cL (cL (cR (cL (cR (cR C_poolG))))))))) (nxtH gQ cf_poolG [3, 7, 10] (hlp gQ cf_poolG) (cL (cL (cR (cL (cR (cR C_poolG)))))) n k)))) (.exit 2) (st1eG op ds ins t xd dt hh ww kh kw pl pe pic i a na (o :: out)) = lp gQ cf_poolG (cL (cL (cR (cL (cR (cR C_poolG)))))) n (st0G op ds ins t xd dt hh ww kh kw pl pe (IntKind.i64.wrap (i + 1)) (o :: out)) k :=
  Eq.trans (b := lpH gQ cf_poolG [3, 7, 10] (hlp gQ cf_poolG) (cL (cL (cR (cL (cR (cR C_poolG)))))) n (st0G op ds ins t xd dt hh ww kh kw pl pe (IntKind.i64.wrap (i + 1)) (o :: out)) k) (by kernel_rfl) lpH_lp
theorem pool_k0G (op : List UInt8) (ds : List Int) (ins : List (List UInt8)) (t : Int) (xd dt : List Int) (hh ww kh kw pl pe : Int) (i : Int) (o : Int) (out : List Int) : PK0G (.exit 0) (st0eG op ds ins t xd dt hh ww kh kw pl pe i (o :: out)) = some (.ret [.os 2 0], hpPG ds ins ++ [(2, .arr 2 i64T 0 false (o :: out))]) := by kernel_rfl
end Go.Proofs.XGT
/- conv.pool over windows that stand wholly in the picture: what comes out (nodes with attributes). -/
namespace Go.Proofs.XGT
open Go.Vm Go
set_option maxRecDepth 100000
set_option maxHeartbeats 400000
section
variable {op : List UInt8} {ds : List Int} {ats : List (Y1).den} {ins : List (List UInt8)} {t : Int} {xd dt : List Int} {hh ww kh kw pl pe i : Int}
theorem in_oneA {pic : List Int} {nb : Int} {a b na H W KH KW D : Nat} (h1 : hh = (H : Int)) (h2 : ww = (W : Int)) (h3 : kh = (KH : Int)) (h4 : kw = (KW : Int)) (h5 : nb = (D : Int)) (ha : a + KH ≤ H) (hb : b + KW ≤ W) (hbd : b < D) (hH : H ≤ 65536) (hW : W ≤ 65536) (hD : D ≤ 65536) (hp : H * W ≤ pic.length) (out : List Int) (hl : out.length ≤ 65536) (n : Nat) {R : Type} (k : AEx → LSt → Option R) :
    lp gQ cf_poolA (cL (cL (cR (cR (cL (cL (cR (cR (cL (cL (cR (cR (cR (cL (cL (cR (cR (cL (cL (cR (cL (cR (cR C_poolA))))))))))))))))))))))) (n + 1) (st2A op ds ats ins t xd dt hh ww kh kw pl pe pic i a b na nb out) k = lp gQ cf_poolA (cL (cL (cR (cR (cL (cL (cR (cR (cL (cL (cR (cR (cR (cL (cL (cR (cR (cL (cL (cR (cL (cR (cR C_poolA))))))))))))))))))))))) n (st2A op ds ats ins t xd dt hh ww kh kw pl pe pic i a ((b + 1 : Nat) : Int) na nb (out ++ [togR op pic W KH KW a b])) k := by
  subst h1 h2 h3 h4 h5
  have e0 : IntKind.i64.wrap ((b : Int) + 1) = ((b + 1 : Nat) : Int) := by rw [wrap64 (by omega) (by omega)]; omega
  have hin : inside (H : Int) W KH KW a b pic.length = true := by
    unfold inside
    rw [← Int.natCast_mul, decide_eq_true (show (0 : Int) ≤ a by omega), decide_eq_true (show (0 : Int) ≤ b by omega), decide_eq_true (show (0 : Int) ≤ KH by omega), decide_eq_true (show (0 : Int) ≤ KW by omega), decide_eq_true (show (a : Int) + KH ≤ H by omega), decide_eq_true (show (b : Int) + KW ≤ W by omega), decide_eq_true (show (H : Int) ≤ 65536 by omega), decide_eq_true (show (W : Int) ≤ 65536 by omega), decide_eq_true (show ((H * W : Nat) : Int) ≤ (pic.length : Int) by omega)]
    rfl
  cases out with
  | nil =>
    rw [in_step0A, decide_eq_true (show (b : Int) < D by omega), hin]
    simp only [cond_true, e0, Bool.and_true]
    rfl
  | cons o out =>
    rw [in_stepA, decide_eq_true (show (b : Int) < D by omega), hin]
    simp only [cond_true, e0, Bool.and_true]
    rw [app_some2 (by simp only [List.length_cons, List.length_nil] at *; unfold lim; omega)]
    rfl
theorem in_endA {pic : List Int} {a b na nb : Int} (out : List Int) (hb : ¬ b < nb) (n : Nat) {R : Type} (k : AEx → LSt → Option R) :
    lp gQ cf_poolA (cL (cL (cR (cR (cL (cL (cR (cR (cL (cL (cR (cR (cR (cL (cL (cR (cR (cL (cL (cR (cL (cR (cR C_poolA))))))))))))))))))))))) (n + 1) (st2A op ds ats ins t xd dt hh ww kh kw pl pe pic i a b na nb out) k = k (.exit 4) (st2eA op ds ats ins t xd dt hh ww kh kw pl pe pic i a b na nb out) := by
  cases out with
  | nil => rw [in_step0A, decide_eq_false hb]; rfl
  | cons o out => rw [in_stepA, decide_eq_false hb]; rfl
theorem in_allA {pic : List Int} {nb : Int} {a na H W KH KW D : Nat} (h1 : hh = (H : Int)) (h2 : ww = (W : Int)) (h3 : kh = (KH : Int)) (h4 : kw = (KW : Int)) (h5 : nb = (D : Int)) (ha : a + KH ≤ H) (hb : D + KW ≤ W + 1) (hH : H ≤ 65536) (hW : W ≤ 65536) (hD : D ≤ 65536) (hp : H * W ≤ pic.length) {R : Type} (k : AEx → LSt → Option R) :
    ∀ (r b m : Nat) (out : List Int), b + r = D → r < m → out.length + r ≤ 65536 →
    lp gQ cf_poolA (cL (cL (cR (cR (cL (cL (cR (cR (cL (cL (cR (cR (cR (cL (cL (cR (cR (cL (cL (cR (cL (cR (cR C_poolA))))))))))))))))))))))) m (st2A op ds ats ins t xd dt hh ww kh kw pl pe pic i a b na nb out) k = k (.exit 4) (st2eA op ds ats ins t xd dt hh ww kh kw pl pe pic i a nb na nb (out ++ (List.range' b r).map (togR op pic W KH KW a))) := by
  intro r
  induction r with
  | zero =>
    intro b m out hb' hm hl
    obtain ⟨m, rfl⟩ : ∃ m', m = m' + 1 := ⟨m - 1, by omega⟩
    obtain rfl : b = D := by omega
    subst h5
    rw [in_endA out (by omega)]
    simp
  | succ r ih =>
    intro b m out hb' hm hl
    obtain ⟨m, rfl⟩ : ∃ m', m = m' + 1 := ⟨m - 1, by omega⟩
    rw [in_oneA h1 h2 h3 h4 h5 ha (by omega) (by omega) hH hW hD hp out (by omega), ih (b + 1) m _ (by omega) (by omega) (by simp; omega), List.range'_succ, List.map_cons, List.append_assoc]
    rfl
theorem mid_oneA {pic : List Int} {na : Int} {a H W KH KW D2 D : Nat} (h1 : hh = (H : Int)) (h2 : ww = (W : Int)) (h3 : kh = (KH : Int)) (h4 : kw = (KW : Int)) (h6 : na = (D2 : Int)) (had : a < D2) (ha : a + KH ≤ H) (hb : D + KW ≤ W + 1) (hH : H ≤ 65536) (hW : W ≤ 65536) (hD2 : D2 ≤ 65536) (hD : D ≤ 65536) (hD1 : 1 ≤ D) (hp : H * W ≤ pic.length) (hd : ds[3]? = some (D : Int)) (out : List Int) (hl : out.length + D ≤ 65536) (n : Nat) {R : Type} (k : AEx → LSt → Option R) :
    lp gQ cf_poolA (cL (cL (cR (cR (cR (cL (cL (cR (cR (cL (cL (cR (cL (cR (cR C_poolA))))))))))))))) (n + 1) (st1A op ds ats ins t xd dt hh ww kh kw pl pe pic i a na out) k = lp gQ cf_poolA (cL (cL (cR (cR (cR (cL (cL (cR (cR (cL (cL (cR (cL (cR (cR C_poolA))))))))))))))) n (st1A op ds ats ins t xd dt hh ww kh kw pl pe pic i ((a + 1 : Nat) : Int) na (out ++ rowL op pic W KH KW D a)) k := by
  subst h6
  have hne := ne_row (op := op) (pic := pic) (W := W) (KH := KH) (KW := KW) (a := a) out hD1
  have key : ∀ k' : AEx → LSt → Option R, lp gQ cf_poolA (cL (cL (cR (cR (cL (cL (cR (cR (cL (cL (cR (cR (cR (cL (cL (cR (cR (cL (cL (cR (cL (cR (cR C_poolA))))))))))))))))))))))) fu (st2A op ds ats ins t xd dt hh ww kh kw pl pe pic i a ((0 : Nat) : Int) (D2 : Int) (D : Int) out) k' = k' (.exit 4) (st2eA op ds ats ins t xd dt hh ww kh kw pl pe pic i a (D : Int) (D2 : Int) (D : Int) (out ++ rowL op pic W KH KW D a)) := fun k' =>
    in_allA h1 h2 h3 h4 rfl ha hb hH hW hD hp k' D 0 fu out (by omega) (by unfold fu; omega) (by omega)
  obtain ⟨o, r, hor⟩ := hne
  have hlt : (a : Int) < (D2 : Int) := by omega
  have e0 : IntKind.i64.wrap ((a : Int) + 1) = ((a + 1 : Nat) : Int) := by rw [wrap64 (by omega) (by omega)]; omega
  rw [hor] at key ⊢
  cases out with
  | nil =>
    rw [mid_step0A, decide_eq_true hlt, show idx ds 3 = ds[3]? from rfl, hd]
    refine (key _).trans ?_
    rw [← e0]
    exact pool_k2A ..
  | cons o' out =>
    rw [mid_stepA, decide_eq_true hlt, show idx ds 3 = ds[3]? from rfl, hd]
    refine (key _).trans ?_
    rw [← e0]
    exact pool_k2A ..
theorem mid_endA {pic : List Int} {a na : Int} (out : List Int) (ha : ¬ a < na) (n : Nat) {R : Type} (k : AEx → LSt → Option R) :
    lp gQ cf_poolA (cL (cL (cR (cR (cR (cL (cL (cR (cR (cL (cL (cR (cL (cR (cR C_poolA))))))))))))))) (n + 1) (st1A op ds ats ins t xd dt hh ww kh kw pl pe pic i a na out) k = k (.exit 2) (st1eA op ds ats ins t xd dt hh ww kh kw pl pe pic i a na out) := by
  cases out with
  | nil => rw [mid_step0A, decide_eq_false ha]; rfl
  | cons o out => rw [mid_stepA, decide_eq_false ha]; rfl
theorem mid_allA {pic : List Int} {na : Int} {H W KH KW D2 D : Nat} (h1 : hh = (H : Int)) (h2 : ww = (W : Int)) (h3 : kh = (KH : Int)) (h4 : kw = (KW : Int)) (h6 : na = (D2 : Int)) (ha : D2 + KH ≤ H + 1) (hb : D + KW ≤ W + 1) (hH : H ≤ 65536) (hW : W ≤ 65536) (hD2 : D2 ≤ 65536) (hD : D ≤ 65536) (hD1 : 1 ≤ D) (hp : H * W ≤ pic.length) (hd : ds[3]? = some (D : Int)) {R : Type} (k : AEx → LSt → Option R) :
    ∀ (r a m : Nat) (out : List Int), a + r = D2 → r < m → out.length + r * D ≤ 65536 →
    lp gQ cf_poolA (cL (cL (cR (cR (cR (cL (cL (cR (cR (cL (cL (cR (cL (cR (cR C_poolA))))))))))))))) m (st1A op ds ats ins t xd dt hh ww kh kw pl pe pic i a na out) k = k (.exit 2) (st1eA op ds ats ins t xd dt hh ww kh kw pl pe pic i na na (out ++ (List.range' a r).flatMap (rowL op pic W KH KW D))) := by
  intro r
  induction r with
  | zero =>
    intro a m out hb' hm hl
    obtain ⟨m, rfl⟩ : ∃ m', m = m' + 1 := ⟨m - 1, by omega⟩
    obtain rfl : a = D2 := by omega
    subst h6
    rw [mid_endA out (by omega)]
    simp
  | succ r ih =>
    intro a m out hb' hm hl
    obtain ⟨m, rfl⟩ : ∃ m', m = m' + 1 := ⟨m - 1, by omega⟩
    have h2' : (r + 1) * D = r * D + D := by rw [Nat.add_mul]; omega
    rw [mid_oneA h1 h2 h3 h4 h6 (by omega) (by omega) hb hH hW hD2 hD hD1 hp hd out (by omega), ih (a + 1) m _ (by omega) (by omega) (by rw [List.length_append, rowL_length]; omega), List.range'_succ, List.flatMap_cons, List.append_assoc]
theorem out_oneA {i H W KH KW D2 D P : Nat} (h1 : hh = (H : Int)) (h2 : ww = (W : Int)) (h3 : kh = (KH : Int)) (h4 : kw = (KW : Int)) (hpl : pl = (P : Int)) (hpe : pe = ((H * W : Nat) : Int)) (hi : i < P) (ha : D2 + KH ≤ H + 1) (hb : D + KW ≤ W + 1) (hH : H ≤ 65536) (hW : W ≤ 65536) (hD2 : D2 ≤ 65536) (hD : D ≤ 65536) (hD21 : 1 ≤ D2) (hD1 : 1 ≤ D) (hHW : 1 ≤ H * W) (hdt : dt.length = P * (H * W)) (hmax : P * (H * W) ≤ 65536) (hd2 : ds[2]? = some (D2 : Int)) (hd3 : ds[3]? = some (D : Int)) (out : List Int) (hl : out.length + D2 * D ≤ 65536) (n : Nat) {R : Type} (k : AEx → LSt → Option R) :
    lp gQ cf_poolA (cL (cL (cR (cL (cR (cR C_poolA)))))) (n + 1) (st0A op ds ats ins t xd dt hh ww kh kw pl pe i out) k = lp gQ cf_poolA (cL (cL (cR (cL (cR (cR C_poolA)))))) n (st0A op ds ats ins t xd dt hh ww kh kw pl pe ((i + 1 : Nat) : Int) (out ++ planeL op dt (H * W) W KH KW D2 D i)) k := by
  have g1 : (i + 1) * (H * W) ≤ P * (H * W) := Nat.mul_le_mul_right _ (by omega)
  rw [Nat.add_mul, Nat.one_mul] at g1
  have hP : P ≤ P * (H * W) := Nat.le_mul_of_pos_right _ hHW
  have hpl2 : ((dt.drop (i * (H * W))).take (H * W)).length = H * W := by rw [List.length_take, List.length_drop]; omega
  have key : ∀ k' : AEx → LSt → Option R, lp gQ cf_poolA (cL (cL (cR (cR (cR (cL (cL (cR (cR (cL (cL (cR (cL (cR (cR C_poolA))))))))))))))) fu (st1A op ds ats ins t xd dt hh ww kh kw pl pe ((dt.drop (i * (H * W))).take (H * W)) i ((0 : Nat) : Int) (D2 : Int) out) k' = k' (.exit 2) (st1eA op ds ats ins t xd dt hh ww kh kw pl pe ((dt.drop (i * (H * W))).take (H * W)) i (D2 : Int) (D2 : Int) (out ++ planeL op dt (H * W) W KH KW D2 D i)) := fun k' =>
    mid_allA h1 h2 h3 h4 rfl ha hb hH hW hD2 hD hD1 (by rw [hpl2]; exact Nat.le_refl _) hd3 k' D2 0 fu out (by omega) (by unfold fu; omega) (by omega)
  obtain ⟨o, r, hor⟩ := ne_plane (op := op) (dt := dt) (PE := H * W) (W := W) (KH := KH) (KW := KW) (i := i) out hD21 hD1
  have hlt : (i : Int) < pl := by omega
  have e0 : IntKind.i64.wrap ((i : Int) + 1) = ((i + 1 : Nat) : Int) := by rw [wrap64 (by omega) (by omega)]; omega
  have e1 : IntKind.i64.wrap ((i : Int) * pe) = ((i * (H * W) : Nat) : Int) := by rw [hpe, ← Int.natCast_mul, wrap64 (by omega) (by omega)]
  have c1 : (0 : Int) ≤ ((i * (H * W) : Nat) : Int) ∧ ((i * (H * W) : Nat) : Int) ≤ Int.ofNat dt.length ∧ Int.ofNat dt.length ≤ Int.ofNat dt.length := ⟨by omega, by rw [hdt]; simp only [Int.ofNat_eq_natCast]; omega, Int.le_refl _⟩
  have l1 : (List.drop (i * (H * W)) (List.take dt.length dt)).length = dt.length - i * (H * W) := by rw [List.take_length, List.length_drop]
  have c2 : (0 : Int) ≤ 0 ∧ 0 ≤ pe ∧ pe ≤ Int.ofNat (List.drop (i * (H * W)) (List.take dt.length dt)).length := ⟨Int.le_refl _, by omega, by rw [l1, hdt, hpe]; simp only [Int.ofNat_eq_natCast]; omega⟩
  rw [hor] at key ⊢
  have hpe2 : pe.toNat = H * W := by rw [hpe]; rfl
  cases out with
  | nil =>
    rw [out_step0A, decide_eq_true hlt, e1, if_pos c1, Int.toNat_natCast]
    simp only [cond_true, Option.bind_some]
    rw [show (Int.ofNat dt.length).toNat = dt.length from rfl, if_pos c2, hpe2, List.drop_zero, List.take_length, show idx ds 2 = ds[2]? from rfl, hd2]
    refine (key _).trans ?_
    rw [← e0]
    exact pool_k1A ..
  | cons o' out =>
    rw [out_stepA, decide_eq_true hlt, e1, if_pos c1, Int.toNat_natCast]
    simp only [cond_true, Option.bind_some]
    rw [show (Int.ofNat dt.length).toNat = dt.length from rfl, if_pos c2, hpe2, List.drop_zero, List.take_length, show idx ds 2 = ds[2]? from rfl, hd2]
    refine (key _).trans ?_
    rw [← e0]
    exact pool_k1A ..
theorem out_endA {i : Int} (out : List Int) (ha : ¬ i < pl) (n : Nat) {R : Type} (k : AEx → LSt → Option R) :
    lp gQ cf_poolA (cL (cL (cR (cL (cR (cR C_poolA)))))) (n + 1) (st0A op ds ats ins t xd dt hh ww kh kw pl pe i out) k = k (.exit 0) (st0eA op ds ats ins t xd dt hh ww kh kw pl pe i out) := by
  cases out with
  | nil => rw [out_step0A, decide_eq_false ha]; rfl
  | cons o out => rw [out_stepA, decide_eq_false ha]; rfl
theorem out_allA {H W KH KW D2 D P : Nat} (h1 : hh = (H : Int)) (h2 : ww = (W : Int)) (h3 : kh = (KH : Int)) (h4 : kw = (KW : Int)) (hpl : pl = (P : Int)) (hpe : pe = ((H * W : Nat) : Int)) (ha : D2 + KH ≤ H + 1) (hb : D + KW ≤ W + 1) (hH : H ≤ 65536) (hW : W ≤ 65536) (hD2 : D2 ≤ 65536) (hD : D ≤ 65536) (hD21 : 1 ≤ D2) (hD1 : 1 ≤ D) (hHW : 1 ≤ H * W) (hdt : dt.length = P * (H * W)) (hmax : P * (H * W) ≤ 65536) (hd2 : ds[2]? = some (D2 : Int)) (hd3 : ds[3]? = some (D : Int)) {R : Type} (k : AEx → LSt → Option R) :
    ∀ (r i m : Nat) (out : List Int), i + r = P → r < m → out.length + r * (D2 * D) ≤ 65536 →
    lp gQ cf_poolA (cL (cL (cR (cL (cR (cR C_poolA)))))) m (st0A op ds ats ins t xd dt hh ww kh kw pl pe i out) k = k (.exit 0) (st0eA op ds ats ins t xd dt hh ww kh kw pl pe pl (out ++ (List.range' i r).flatMap (planeL op dt (H * W) W KH KW D2 D))) := by
  intro r
  induction r with
  | zero =>
    intro a m out hb' hm hl
    obtain ⟨m, rfl⟩ : ∃ m', m = m' + 1 := ⟨m - 1, by omega⟩
    obtain rfl : a = P := by omega
    subst hpl
    rw [out_endA out (by omega)]
    simp
  | succ r ih =>
    intro i m out hb' hm hl
    obtain ⟨m, rfl⟩ : ∃ m', m = m' + 1 := ⟨m - 1, by omega⟩
    have h2' : (r + 1) * (D2 * D) = r * (D2 * D) + D2 * D := by rw [Nat.add_mul]; omega
    rw [out_oneA h1 h2 h3 h4 hpl hpe (by omega) ha hb hH hW hD2 hD hD21 hD1 hHW hdt hmax hd2 hd3 out (by omega), ih (i + 1) m _ (by omega) (by omega) (by rw [List.length_append, planeL_length]; omega), List.range'_succ, List.flatMap_cons, List.append_assoc]
/-- what comes out of the pool -/
theorem pool_runA {H W KH KW D2 D P : Nat} (h1 : hh = (H : Int)) (h2 : ww = (W : Int)) (h3 : kh = (KH : Int)) (h4 : kw = (KW : Int)) (hpl : pl = (P : Int)) (hpe : pe = ((H * W : Nat) : Int)) (ha : D2 + KH ≤ H + 1) (hb : D + KW ≤ W + 1) (hH : H ≤ 65536) (hW : W ≤ 65536) (hD2 : D2 ≤ 65536) (hD : D ≤ 65536) (hP1 : 1 ≤ P) (hD21 : 1 ≤ D2) (hD1 : 1 ≤ D) (hHW : 1 ≤ H * W) (hdt : dt.length = P * (H * W)) (hmax : P * (H * W) ≤ 65536) (hout : P * (D2 * D) ≤ 65536) (hd2 : ds[2]? = some (D2 : Int)) (hd3 : ds[3]? = some (D : Int)) :
    runC gQ Tryz.f31 6 [(3, [3, 4, 5, 6, 9, 15, 16]), (7, [3, 4, 5, 6, 9, 11, 15, 16, 31, 32]), (10, [3, 4, 5, 6, 9, 11, 12, 15, 16, 31, 32, 37, 38])] [nodA op, .d (Y0) (t, xd, dt, ()), win1 hh ww kh kw pl pe, .os 0 0] (hpPA ds ats ins) ah = some (.ret [.os 3 0], hpPA ds ats ins ++ [(3, .arr 2 i64T 0 false (poolL op dt P (H * W) W KH KW D2 D))]) := by
  have hP2 : P ≤ P * (H * W) := Nat.le_mul_of_pos_right _ hHW
  rw [pool_lpA]
  have this := out_allA (op := op) (t := t) (xd := xd) (ats := ats) (ins := ins) h1 h2 h3 h4 hpl hpe ha hb hH hW hD2 hD hD21 hD1 hHW hdt hmax hd2 hd3 PK0A P 0 fu [] (by omega) (by unfold fu; omega) (by simp; omega)
  rw [List.nil_append] at this
  rw [this]
  clear this
  obtain ⟨o, r, hor⟩ := ne_pool (op := op) (dt := dt) (PE := H * W) (W := W) (KH := KH) (KW := KW) hP1 hD21 hD1
  rw [show (List.range' 0 P).flatMap (planeL op dt (H * W) W KH KW D2 D) = poolL op dt P (H * W) W KH KW D2 D from rfl, hor]
  exact pool_k0A ..
end
end Go.Proofs.XGT
/- conv.pool over windows that stand wholly in the picture: what comes out (nodes without attributes). -/
namespace Go.Proofs.XGT
open Go.Vm Go
set_option maxRecDepth 100000
set_option maxHeartbeats 400000
section
variable {op : List UInt8} {ds : List Int} {ins : List (List UInt8)} {t : Int} {xd dt : List Int} {hh ww kh kw pl pe i : Int}
theorem in_oneG {pic : List Int} {nb : Int} {a b na H W KH KW D : Nat} (h1 : hh = (H : Int)) (h2 : ww = (W : Int)) (h3 : kh = (KH : Int)) (h4 : kw = (KW : Int)) (h5 : nb = (D : Int)) (ha : a + KH ≤ H) (hb : b + KW ≤ W) (hbd : b < D) (hH : H ≤ 65536) (hW : W ≤ 65536) (hD : D ≤ 65536) (hp : H * W ≤ pic.length) (out : List Int) (hl : out.length ≤ 65536) (n : Nat) {R : Type} (k : AEx → LSt → Option R) :
    lp gQ cf_poolG (cL (cL (cR (cR (cL (cL (cR (cR (cL (cL (cR (cR (cR (cL (cL (cR (cR (cL (cL (cR (cL (cR (cR C_poolG))))))))))))))))))))))) (n + 1) (st2G op ds ins t xd dt hh ww kh kw pl pe pic i a b na nb out) k = lp gQ cf_poolG (cL (cL (cR (cR (cL (cL (cR (cR (cL (cL (cR (cR (cR (cL (cL (cR (cR (cL (cL (cR (cL (cR (cR C_poolG))))))))))))))))))))))) n (st2G op ds ins t xd dt hh ww kh kw pl pe pic i a ((b + 1 : Nat) : Int) na nb (out ++ [togR op pic W KH KW a b])) k := by
  subst h1 h2 h3 h4 h5
  have e0 : IntKind.i64.wrap ((b : Int) + 1) = ((b + 1 : Nat) : Int) := by rw [wrap64 (by omega) (by omega)]; omega
  have hin : inside (H : Int) W KH KW a b pic.length = true := by
    unfold inside
    rw [← Int.natCast_mul, decide_eq_true (show (0 : Int) ≤ a by omega), decide_eq_true (show (0 : Int) ≤ b by omega), decide_eq_true (show (0 : Int) ≤ KH by omega), decide_eq_true (show (0 : Int) ≤ KW by omega), decide_eq_true (show (a : Int) + KH ≤ H by omega), decide_eq_true (show (b : Int) + KW ≤ W by omega), decide_eq_true (show (H : Int) ≤ 65536 by omega), decide_eq_true (show (W : Int) ≤ 65536 by omega), decide_eq_true (show ((H * W : Nat) : Int) ≤ (pic.length : Int) by omega)]
    rfl
  cases out with
  | nil =>
    rw [in_step0G, decide_eq_true (show (b : Int) < D by omega), hin]
    simp only [cond_true, e0, Bool.and_true]
    rfl
  | cons o out =>
    rw [in_stepG, decide_eq_true (show (b : Int) < D by omega), hin]
    simp only [cond_true, e0, Bool.and_true]
    rw [app_some2 (by simp only [List.length_cons, List.length_nil] at *; unfold lim; omega)]
    rfl
theorem in_endG {pic : List Int} {a b na nb : Int} (out : List Int) (hb : ¬ b < nb) (n : Nat) {R : Type} (k : AEx → LSt → Option R) :
    lp gQ cf_poolG (cL (cL (cR (cR (cL (cL (cR (cR (cL (cL (cR (cR (cR (cL (cL (cR (cR (cL (cL (cR (cL (cR (cR C_poolG))))))))))))))))))))))) (n + 1) (st2G op ds ins t xd dt hh ww kh kw pl pe pic i a b na nb out) k = k (.exit 4) (st2eG op ds ins t xd dt hh ww kh kw pl pe pic i a b na nb out) := by
  cases out with
  | nil => rw [in_step0G, decide_eq_false hb]; rfl
  | cons o out => rw [in_stepG, decide_eq_false hb]; rfl
theorem in_allG {pic : List Int} {nb : Int} {a na H W KH KW D : Nat} (h1 : hh = (H : Int)) (h2 : ww = (W : Int)) (h3 : kh = (KH : Int)) (h4 : kw = (KW : Int)) (h5 : nb = (D : Int)) (ha : a + KH ≤ H) (hb : D + KW ≤ W + 1) (hH : H ≤ 65536) (hW : W ≤ 65536) (hD : D ≤ 65536) (hp : H * W ≤ pic.length) {R : Type} (k : AEx → LSt → Option R) :
    ∀ (r b m : Nat) (out : List Int), b + r = D → r < m → out.length + r ≤ 65536 →
    lp gQ cf_poolG (cL (cL (cR (cR (cL (cL (cR (cR (cL (cL (cR (cR (cR (cL (cL (cR (cR (cL (cL (cR (cL (cR (cR C_poolG))))))))))))))))))))))) m (st2G op ds ins t xd dt hh ww kh kw pl pe pic i a b na nb out) k = k (.exit 4) (st2eG op ds ins t xd dt hh ww kh kw pl pe pic i a nb na nb (out ++ (List.range' b r).map (togR op pic W KH KW a))) := by
  intro r
  induction r with
  | zero =>
    intro b m out hb' hm hl
    obtain ⟨m, rfl⟩ : ∃ m', m = m' + 1 := ⟨m - 1, by omega⟩
    obtain rfl : b = D := by omega
    subst h5
    rw [in_endG out (by omega)]
    simp
  | succ r ih =>
    intro b m out hb' hm hl
    obtain ⟨m, rfl⟩ : ∃ m', m = m' + 1 := ⟨m - 1, by omega⟩
    rw [in_oneG h1 h2 h3 h4 h5 ha (by omega) (by omega) hH hW hD hp out (by omega), ih (b + 1) m _ (by omega) (by omega) (by simp; omega), List.range'_succ, List.map_cons, List.append_assoc]
    rfl
theorem mid_oneG {pic : List Int} {na : Int} {a H W KH KW D2 D : Nat} (h1 : hh = (H : Int)) (h2 : ww = (W : Int)) (h3 : kh = (KH : Int)) (h4 : kw = (KW : Int)) (h6 : na = (D2 : Int)) (had : a < D2) (ha : a + KH ≤ H) (hb : D + KW ≤ W + 1) (hH : H ≤ 65536) (hW : W ≤ 65536) (hD2 : D2 ≤ 65536) (hD : D ≤ 65536) (hD1 : 1 ≤ D) (hp : H * W ≤ pic.length) (hd : ds[3]? = some (D : Int)) (out : List Int) (hl : out.length + D ≤ 65536) (n : Nat) {R : Type} (k : AEx → LSt → Option R) :
    lp gQ cf_poolG (cL (cL (cR (cR (cR (cL (cL (cR (cR (cL (cL (cR (cL (cR (cR C_poolG))))))))))))))) (n + 1) (st1G op ds ins t xd dt hh ww kh kw pl pe pic i a na out) k = lp gQ cf_poolG (cL (cL (cR (cR (cR (cL (cL (cR (cR (cL (cL (cR (cL (cR (cR C_poolG))))))))))))))) n (st1G op ds ins t xd dt hh ww kh kw pl pe pic i ((a + 1 : Nat) : Int) na (out ++ rowL op pic W KH KW D a)) k := by
  subst h6
  have hne := ne_row (op := op) (pic := pic) (W := W) (KH := KH) (KW := KW) (a := a) out hD1
  have key : ∀ k' : AEx → LSt → Option R, lp gQ cf_poolG (cL (cL (cR (cR (cL (cL (cR (cR (cL (cL (cR (cR (cR (cL (cL (cR (cR (cL (cL (cR (cL (cR (cR C_poolG))))))))))))))))))))))) fu (st2G op ds ins t xd dt hh ww kh kw pl pe pic i a ((0 : Nat) : Int) (D2 : Int) (D : Int) out) k' = k' (.exit 4) (st2eG op ds ins t xd dt hh ww kh kw pl pe pic i a (D : Int) (D2 : Int) (D : Int) (out ++ rowL op pic W KH KW D a)) := fun k' =>
    in_allG h1 h2 h3 h4 rfl ha hb hH hW hD hp k' D 0 fu out (by omega) (by unfold fu; omega) (by omega)
  obtain ⟨o, r, hor⟩ := hne
  have hlt : (a : Int) < (D2 : Int) := by omega
  have e0 : IntKind.i64.wrap ((a : Int) + 1) = ((a + 1 : Nat) : Int) := by rw [wrap64 (by omega) (by omega)]; omega
  rw [hor] at key ⊢
  cases out with
  | nil =>
    rw [mid_step0G, decide_eq_true hlt, show idx ds 3 = ds[3]? from rfl, hd]
    refine (key _).trans ?_
    rw [← e0]
    exact pool_k2G ..
  | cons o' out =>
    rw [mid_stepG, decide_eq_true hlt, show idx ds 3 = ds[3]? from rfl, hd]
    refine (key _).trans ?_
    rw [← e0]
    exact pool_k2G ..
theorem mid_endG {pic : List Int} {a na : Int} (out : List Int) (ha : ¬ a < na) (n : Nat) {R : Type} (k : AEx → LSt → Option R) :
    lp gQ cf_poolG (cL (cL (cR (cR (cR (cL (cL (cR (cR (cL (cL (cR (cL (cR (cR C_poolG))))))))))))))) (n + 1) (st1G op ds ins t xd dt hh ww kh kw pl pe pic i a na out) k = k (.exit 2) (st1eG op ds ins t xd dt hh ww kh kw pl pe pic i a na out) := by
  cases out with
  | nil => rw [mid_step0G, decide_eq_false ha]; rfl
  | cons o out => rw [mid_stepG, decide_eq_false ha]; rfl
theorem mid_allG {pic : List Int} {na : Int} {H W KH KW D2 D : Nat} (h1 : hh = (H : Int)) (h2 : ww = (W : Int)) (h3 : kh = (KH : Int)) (h4 : kw = (KW : Int)) (h6 : na = (D2 : Int)) (ha : D2 + KH ≤ H + 1) (hb : D + KW ≤ W + 1) (hH : H ≤ 65536) (hW : W ≤ 65536) (hD2 : D2 ≤ 65536) (hD : D ≤ 65536) (hD1 : 1 ≤ D) (hp : H * W ≤ pic.length) (hd : ds[3]? = some (D : Int)) {R : Type} (k : AEx → LSt → Option R) :
    ∀ (r a m : Nat) (out : List Int), a + r = D2 → r < m → out.length + r * D ≤ 65536 →
    lp gQ cf_poolG (cL (cL (cR (cR (cR (cL (cL (cR (cR (cL (cL (cR (cL (cR (cR C_poolG))))))))))))))) m (st1G op ds ins t xd dt hh ww kh kw pl pe pic i a na out) k = k (.exit 2) (st1eG op ds ins t xd dt hh ww kh kw pl pe pic i na na (out ++ (List.range' a r).flatMap (rowL op pic W KH KW D))) := by
  intro r
  induction r with
  | zero =>
    intro a m out hb' hm hl
    obtain ⟨m, rfl⟩ : ∃ m', m = m' + 1 := ⟨m - 1, by omega⟩
    obtain rfl : a = D2 := by omega
    subst h6
    rw [mid_endG out (by omega)]
    simp
  | succ r ih =>
    intro a m out hb' hm hl
    obtain ⟨m, rfl⟩ : ∃ m', m = m' + 1 := ⟨m - 1, by omega⟩
    have h2' : (r + 1) * D = r * D + D := by rw [Nat.add_mul]; omega
    rw [mid_oneG h1 h2 h3 h4 h6 (by omega) (by omega) hb hH hW hD2 hD hD1 hp hd out (by omega), ih (a + 1) m _ (by omega) (by omega) (by rw [List.length_append, rowL_length]; omega), List.range'_succ, List.flatMap_cons, List.append_assoc]
theorem out_oneG {i H W KH KW D2 D P : Nat} (h1 : hh = (H : Int)) (h2 : ww = (W : Int)) (h3 : kh = (KH : Int)) (h4 : kw = (KW : Int)) (hpl : pl = (P : Int)) (hpe : pe = ((H * W : Nat) : Int)) (hi : i < P) (ha : D2 + KH ≤ H + 1) (hb : D + KW ≤ W + 1) (hH : H ≤ 65536) (hW : W ≤ 65536) (hD2 : D2 ≤ 65536) (hD : D ≤ 65536) (hD21 : 1 ≤ D2) (hD1 : 1 ≤ D) (hHW : 1 ≤ H * W) (hdt : dt.length = P * (H * W)) (hmax : P * (H * W) ≤ 65536) (hd2 : ds[2]? = some (D2 : Int)) (hd3 : ds[3]? = some (D : Int)) (out : List Int) (hl : out.length + D2 * D ≤ 65536) (n : Nat) {R : Type} (k : AEx → LSt → Option R) :
    lp gQ cf_poolG (cL (cL (cR (cL (cR (cR C_poolG)))))) (n + 1) (st0G op ds ins t xd dt hh ww kh kw pl pe i out) k = lp gQ cf_poolG (cL (cL (cR (cL (cR (cR C_poolG)))))) n (st0G op ds ins t xd dt hh ww kh kw pl pe ((i + 1 : Nat) : Int) (out ++ planeL op dt (H * W) W KH KW D2 D i)) k := by
  have g1 : (i + 1) * (H * W) ≤ P * (H * W) := Nat.mul_le_mul_right _ (by omega)
  rw [Nat.add_mul, Nat.one_mul] at g1
  have hP : P ≤ P * (H * W) := Nat.le_mul_of_pos_right _ hHW
  have hpl2 : ((dt.drop (i * (H * W))).take (H * W)).length = H * W := by rw [List.length_take, List.length_drop]; omega
  have key : ∀ k' : AEx → LSt → Option R, lp gQ cf_poolG (cL (cL (cR (cR (cR (cL (cL (cR (cR (cL (cL (cR (cL (cR (cR C_poolG))))))))))))))) fu (st1G op ds ins t xd dt hh ww kh kw pl pe ((dt.drop (i * (H * W))).take (H * W)) i ((0 : Nat) : Int) (D2 : Int) out) k' = k' (.exit 2) (st1eG op ds ins t xd dt hh ww kh kw pl pe ((dt.drop (i * (H * W))).take (H * W)) i (D2 : Int) (D2 : Int) (out ++ planeL op dt (H * W) W KH KW D2 D i)) := fun k' =>
    mid_allG h1 h2 h3 h4 rfl ha hb hH hW hD2 hD hD1 (by rw [hpl2]; exact Nat.le_refl _) hd3 k' D2 0 fu out (by omega) (by unfold fu; omega) (by omega)
  obtain ⟨o, r, hor⟩ := ne_plane (op := op) (dt := dt) (PE := H * W) (W := W) (KH := KH) (KW := KW) (i := i) out hD21 hD1
  have hlt : (i : Int) < pl := by omega
  have e0 : IntKind.i64.wrap ((i : Int) + 1) = ((i + 1 : Nat) : Int) := by rw [wrap64 (by omega) (by omega)]; omega
  have e1 : IntKind.i64.wrap ((i : Int) * pe) = ((i * (H * W) : Nat) : Int) := by rw [hpe, ← Int.natCast_mul, wrap64 (by omega) (by omega)]
  have c1 : (0 : Int) ≤ ((i * (H * W) : Nat) : Int) ∧ ((i * (H * W) : Nat) : Int) ≤ Int.ofNat dt.length ∧ Int.ofNat dt.length ≤ Int.ofNat dt.length := ⟨by omega, by rw [hdt]; simp only [Int.ofNat_eq_natCast]; omega, Int.le_refl _⟩
  have l1 : (List.drop (i * (H * W)) (List.take dt.length dt)).length = dt.length - i * (H * W) := by rw [List.take_length, List.length_drop]
  have c2 : (0 : Int) ≤ 0 ∧ 0 ≤ pe ∧ pe ≤ Int.ofNat (List.drop (i * (H * W)) (List.take dt.length dt)).length := ⟨Int.le_refl _, by omega, by rw [l1, hdt, hpe]; simp only [Int.ofNat_eq_natCast]; omega⟩
  rw [hor] at key ⊢
  have hpe2 : pe.toNat = H * W := by rw [hpe]; rfl
  cases out with
  | nil =>
    rw [out_step0G, decide_eq_true hlt, e1, if_pos c1, Int.toNat_natCast]
    simp only [cond_true, Option.bind_some]
    rw [show (Int.ofNat dt.length).toNat = dt.length from rfl, if_pos c2, hpe2, List.drop_zero, List.take_length, show idx ds 2 = ds[2]? from rfl, hd2]
    refine (key _).trans ?_
    rw [← e0]
    exact pool_k1G ..
  | cons o' out =>
    rw [out_stepG, decide_eq_true hlt, e1, if_pos c1, Int.toNat_natCast]
    simp only [cond_true, Option.bind_some]
    rw [show (Int.ofNat dt.length).toNat = dt.length from rfl, if_pos c2, hpe2, List.drop_zero, List.take_length, show idx ds 2 = ds[2]? from rfl, hd2]
    refine (key _).trans ?_
    rw [← e0]
    exact pool_k1G ..
theorem out_endG {i : Int} (out : List Int) (ha : ¬ i < pl) (n : Nat) {R : Type} (k : AEx → LSt → Option R) :
    lp gQ cf_poolG (cL (cL (cR (cL (cR (cR C_poolG)))))) (n + 1) (st0G op ds ins t xd dt hh ww kh kw pl pe i out) k = k (.exit 0) (st0eG op ds ins t xd dt hh ww kh kw pl pe i out) := by
  cases out with
  | nil => rw [out_step0G, decide_eq_false ha]; rfl
  | cons o out => rw [out_stepG, decide_eq_false ha]; rfl
theorem out_allG {H W KH KW D2 D P : Nat} (h1 : hh = (H : Int)) (h2 : ww = (W : Int)) (h3 : kh = (KH : Int)) (h4 : kw = (KW : Int)) (hpl : pl = (P : Int)) (hpe : pe = ((H * W : Nat) : Int)) (ha : D2 + KH ≤ H + 1) (hb : D + KW ≤ W + 1) (hH : H ≤ 65536) (hW : W ≤ 65536) (hD2 : D2 ≤ 65536) (hD : D ≤ 65536) (hD21 : 1 ≤ D2) (hD1 : 1 ≤ D) (hHW : 1 ≤ H * W) (hdt : dt.length = P * (H * W)) (hmax : P * (H * W) ≤ 65536) (hd2 : ds[2]? = some (D2 : Int)) (hd3 : ds[3]? = some (D : Int)) {R : Type} (k : AEx → LSt → Option R) :
    ∀ (r i m : Nat) (out : List Int), i + r = P → r < m → out.length + r * (D2 * D) ≤ 65536 →
    lp gQ cf_poolG (cL (cL (cR (cL (cR (cR C_poolG)))))) m (st0G op ds ins t xd dt hh ww kh kw pl pe i out) k = k (.exit 0) (st0eG op ds ins t xd dt hh ww kh kw pl pe pl (out ++ (List.range' i r).flatMap (planeL op dt (H * W) W KH KW D2 D))) := by
  intro r
  induction r with
  | zero =>
    intro a m out hb' hm hl
    obtain ⟨m, rfl⟩ : ∃ m', m = m' + 1 := ⟨m - 1, by omega⟩
    obtain rfl : a = P := by omega
    subst hpl
    rw [out_endG out (by omega)]
    simp
  | succ r ih =>
    intro i m out hb' hm hl
    obtain ⟨m, rfl⟩ : ∃ m', m = m' + 1 := ⟨m - 1, by omega⟩
    have h2' : (r + 1) * (D2 * D) = r * (D2 * D) + D2 * D := by rw [Nat.add_mul]; omega
    rw [out_oneG h1 h2 h3 h4 hpl hpe (by omega) ha hb hH hW hD2 hD hD21 hD1 hHW hdt hmax hd2 hd3 out (by omega), ih (i + 1) m _ (by omega) (by omega) (by rw [List.length_append, planeL_length]; omega), List.range'_succ, List.flatMap_cons, List.append_assoc]
/-- what comes out of the pool -/
theorem pool_runG {H W KH KW D2 D P : Nat} (h1 : hh = (H : Int)) (h2 : ww = (W : Int)) (h3 : kh = (KH : Int)) (h4 : kw = (KW : Int)) (hpl : pl = (P : Int)) (hpe : pe = ((H * W : Nat) : Int)) (ha : D2 + KH ≤ H + 1) (hb : D + KW ≤ W + 1) (hH : H ≤ 65536) (hW : W ≤ 65536) (hD2 : D2 ≤ 65536) (hD : D ≤ 65536) (hP1 : 1 ≤ P) (hD21 : 1 ≤ D2) (hD1 : 1 ≤ D) (hHW : 1 ≤ H * W) (hdt : dt.length = P * (H * W)) (hmax : P * (H * W) ≤ 65536) (hout : P * (D2 * D) ≤ 65536) (hd2 : ds[2]? = some (D2 : Int)) (hd3 : ds[3]? = some (D : Int)) :
    runC gQ Tryz.f31 6 [(3, [3, 4, 5, 6, 9, 15, 16]), (7, [3, 4, 5, 6, 9, 11, 15, 16, 31, 32]), (10, [3, 4, 5, 6, 9, 11, 12, 15, 16, 31, 32, 37, 38])] [nodG op, .d (Y0) (t, xd, dt, ()), win1 hh ww kh kw pl pe, .os 0 0] (hpPG ds ins) ah = some (.ret [.os 2 0], hpPG ds ins ++ [(2, .arr 2 i64T 0 false (poolL op dt P (H * W) W KH KW D2 D))]) := by
  have hP2 : P ≤ P * (H * W) := Nat.le_mul_of_pos_right _ hHW
  rw [pool_lpG]
  have this := out_allG (op := op) (t := t) (xd := xd) (ins := ins) h1 h2 h3 h4 hpl hpe ha hb hH hW hD2 hD hD21 hD1 hHW hdt hmax hd2 hd3 PK0G P 0 fu [] (by omega) (by unfold fu; omega) (by simp; omega)
  rw [List.nil_append] at this
  rw [this]
  clear this
  obtain ⟨o, r, hor⟩ := ne_pool (op := op) (dt := dt) (PE := H * W) (W := W) (KH := KH) (KW := KW) hP1 hD21 hD1
  rw [show (List.range' 0 P).flatMap (planeL op dt (H * W) W KH KW D2 D) = poolL op dt P (H * W) W KH KW D2 D from rfl, hor]
  exact pool_k0G ..
end
end Go.Proofs.XGT
/- conv.pool as an answer in a function's place (nodes with attributes). -/
namespace Go.Proofs.XGT
open Go.Vm Go
set_option maxRecDepth 100000
set_option maxHeartbeats 4000000
def poolTA : List AV → LHp → Tq
  | [n, .d ((.pair (.int .i64) (.pair (.slice (.int .i64)) (.pair (.slice (.int .i64)) .unit)))) (t, xd, dt, ()), .d ((.pair (.int .i64) (.pair (.int .i64) (.pair (.int .i64) (.pair (.int .i64) (.pair (.arr 2 (.int .i64)) (.pair (.arr 2 (.int .i64)) (.pair (.int .i64) (.pair (.int .i64) (.pair (.int .i64) (.pair (.int .i64) .unit))))))))))) (hh, ww, kh, kw, ss, ds', top, left, pl, pe, ()), .os 0 0], [(0, .arr 3 (.int .i64) 0 false ds), (1, .arr 37 ((.pair .str (.pair (.int .i64) (.pair (.int .i64) (.pair (.int .i64) (.pair .str (.pair (.pair (.int .i64) (.pair (.slice (.int .i64)) (.pair (.slice (.int .i64)) .unit))) (.pair (.slice (.int .i64)) .unit)))))))) 0 true ats), (2, .arr 9 .str 0 false ins)] =>
    (match nodeP n with
    | some (op, nm, out, .os 2 0, .os 1 0) => gate (decide (nm = []) && decide (out = [122]) && decide (ss = [1, 1]) && decide (ds' = [1, 1]) && decide (top = 0) && decide (left = 0))
        (.opt (ds[2]?) fun d2 => .opt (ds[3]?) fun d3 => .br (decide (1 ≤ hh ∧ 1 ≤ ww ∧ 1 ≤ pl ∧ 0 ≤ kh ∧ 0 ≤ kw ∧ pe = hh * ww ∧ (dt.length : Int) = pl * (hh * ww) ∧ pl * (hh * ww) ≤ 65536 ∧ 1 ≤ d2 ∧ 1 ≤ d3 ∧ d2 + kh ≤ hh + 1 ∧ d3 + kw ≤ ww + 1 ∧ pl * (d2 * d3) ≤ 65536))
          (.leaf (.ret [.os 3 0]) (hpPA ds ats ins ++ [(3, .arr 2 i64T 0 false (poolL op dt pl.toNat (hh * ww).toNat ww.toNat kh.toNat kw.toNat d2.toNat d3.toNat))])) .no)
    | _ => .no)
  | _, _ => .no
theorem poolTA_ok : FnE.OK e0.P e0.gam 31 (treeE poolTA) := by
  have h1 : FnE.OK e0.P e0.gam 31 (execFnC gQ Tryz.f31 6 [(3, [3, 4, 5, 6, 9, 15, 16]), (7, [3, 4, 5, 6, 9, 11, 15, 16, 31, 32]), (10, [3, 4, 5, 6, 9, 11, 12, 15, 16, 31, 32, 37, 38])]) := execFnC_ok gQ_good hmix Tryz.func31 Tryz.call31 (by decide +kernel) rfl
  refine ⟨fun _ _ _ => Tq.eq _ _, fun args hs ae hs' h => ?_⟩
  have h' : (poolTA args hs).run ah = some (ae, hs') := h
  clear h
  unfold poolTA at h'
  split at h'
  · split at h'
    · rename_i hn
      rw [nodeP_some hn]
      obtain ⟨hb, h2⟩ := gate_run h'
      clear h'
      simp only [Bool.and_eq_true, decide_eq_true_eq] at hb
      obtain ⟨⟨⟨⟨⟨b1, b2⟩, b3⟩, b4⟩, b5⟩, b6⟩ := hb
      subst b1 b2 b3 b4 b5 b6
      simp only [Tq.run] at h2
      obtain ⟨d2, hd2, h3⟩ := bind_some h2
      clear h2
      obtain ⟨d3, hd3, h4⟩ := bind_some h3
      clear h3
      have bif_none' : ∀ {c : Bool} {x : Option (AEnd × LHp)} {r : AEnd × LHp}, (bif c then x else none) = some r → c = true ∧ x = some r := fun {c x r} h => by
        cases c with
        | true => exact ⟨rfl, h⟩
        | false => cases h
      obtain ⟨hb, h5⟩ := bif_none' h4
      clear h4
      obtain ⟨c1, c2, c3, c4, c5, c6, c7, c8, c9, c10, c11, c12, c13⟩ := of_decide_eq_true hb
      cases h5
      obtain ⟨H, rfl⟩ := Int.eq_ofNat_of_zero_le (Int.le_trans (show (0 : Int) ≤ 1 by decide) c1)
      obtain ⟨W, rfl⟩ := Int.eq_ofNat_of_zero_le (Int.le_trans (show (0 : Int) ≤ 1 by decide) c2)
      obtain ⟨P, rfl⟩ := Int.eq_ofNat_of_zero_le (Int.le_trans (show (0 : Int) ≤ 1 by decide) c3)
      obtain ⟨KH, rfl⟩ := Int.eq_ofNat_of_zero_le c4
      obtain ⟨KW, rfl⟩ := Int.eq_ofNat_of_zero_le c5
      obtain ⟨D2, rfl⟩ := Int.eq_ofNat_of_zero_le (Int.le_trans (show (0 : Int) ≤ 1 by decide) c9)
      obtain ⟨D3, rfl⟩ := Int.eq_ofNat_of_zero_le (Int.le_trans (show (0 : Int) ≤ 1 by decide) c10)
      have e1 : 1 ≤ H := Int.ofNat_le.1 c1
      have e2 : 1 ≤ W := Int.ofNat_le.1 c2
      have e3 : 1 ≤ P := Int.ofNat_le.1 c3
      have e9 : 1 ≤ D2 := Int.ofNat_le.1 c9
      have e10 : 1 ≤ D3 := Int.ofNat_le.1 c10
      have e11 : D2 + KH ≤ H + 1 := Int.ofNat_le.1 c11
      have e12 : D3 + KW ≤ W + 1 := Int.ofNat_le.1 c12
      have hHW : 1 ≤ H * W := Nat.mul_pos e1 e2
      have e7 := Int.ofNat.inj (show Int.ofNat _ = Int.ofNat (P * (H * W)) from c7.trans (show (P : Int) * ((H : Int) * W) = Int.ofNat (P * (H * W)) by rw [← Int.natCast_mul, ← Int.natCast_mul]; rfl))
      have e8 : P * (H * W) ≤ 65536 := Int.ofNat_le.1 (Int.le_trans (Int.le_of_eq (show ((P * (H * W) : Nat) : Int) = (P : Int) * ((H : Int) * W) by rw [Int.natCast_mul, Int.natCast_mul])) c8)
      have e13 : P * (D2 * D3) ≤ 65536 := Int.ofNat_le.1 (Int.le_trans (Int.le_of_eq (show ((P * (D2 * D3) : Nat) : Int) = (P : Int) * ((D2 : Int) * D3) by rw [Int.natCast_mul, Int.natCast_mul])) c13)
      have f1 : H ≤ H * W := Nat.le_mul_of_pos_right _ e2
      have f2 : W ≤ H * W := Nat.le_mul_of_pos_left _ e1
      have f3 : H * W ≤ P * (H * W) := Nat.le_mul_of_pos_left _ e3
      have f4 : D2 ≤ D2 * D3 := Nat.le_mul_of_pos_right _ e10
      have f5 : D3 ≤ D2 * D3 := Nat.le_mul_of_pos_left _ e9
      have f6 : D2 * D3 ≤ P * (D2 * D3) := Nat.le_mul_of_pos_left _ e3
      clear c1 c2 c3 c4 c5 c7 c8 c9 c10 c11 c12 c13 hb
      rw [show (((H : Nat) : Int) * ((W : Nat) : Int)).toNat = H * W from by rw [← Int.natCast_mul]; rfl]
      exact h1.okC (pool_runA (H := H) (W := W) (P := P) (KH := KH) (KW := KW) (D2 := D2) (D := D3) rfl rfl rfl rfl rfl (c6.trans (Int.natCast_mul _ _).symm) e11 e12 (by omega) (by omega) (by omega) (by omega) e3 e9 e10 hHW e7 e8 e13 hd2 hd3)
    · cases h'
  · cases h'
end Go.Proofs.XGT
/- conv.pool as an answer in a function's place (nodes without attributes). -/
namespace Go.Proofs.XGT
open Go.Vm Go
set_option maxRecDepth 100000
set_option maxHeartbeats 4000000
def poolTG : List AV → LHp → Tq
  | [n, .d ((.pair (.int .i64) (.pair (.slice (.int .i64)) (.pair (.slice (.int .i64)) .unit)))) (t, xd, dt, ()), .d ((.pair (.int .i64) (.pair (.int .i64) (.pair (.int .i64) (.pair (.int .i64) (.pair (.arr 2 (.int .i64)) (.pair (.arr 2 (.int .i64)) (.pair (.int .i64) (.pair (.int .i64) (.pair (.int .i64) (.pair (.int .i64) .unit))))))))))) (hh, ww, kh, kw, ss, ds', top, left, pl, pe, ()), .os 0 0], [(0, .arr 3 (.int .i64) 0 false ds), (1, .arr 9 .str 0 false ins)] =>
    (match nodeP n with
    | some (op, nm, out, .os 1 0, .nils) => gate (decide (nm = []) && decide (out = [122]) && decide (ss = [1, 1]) && decide (ds' = [1, 1]) && decide (top = 0) && decide (left = 0))
        (.opt (ds[2]?) fun d2 => .opt (ds[3]?) fun d3 => .br (decide (1 ≤ hh ∧ 1 ≤ ww ∧ 1 ≤ pl ∧ 0 ≤ kh ∧ 0 ≤ kw ∧ pe = hh * ww ∧ (dt.length : Int) = pl * (hh * ww) ∧ pl * (hh * ww) ≤ 65536 ∧ 1 ≤ d2 ∧ 1 ≤ d3 ∧ d2 + kh ≤ hh + 1 ∧ d3 + kw ≤ ww + 1 ∧ pl * (d2 * d3) ≤ 65536))
          (.leaf (.ret [.os 2 0]) (hpPG ds ins ++ [(2, .arr 2 i64T 0 false (poolL op dt pl.toNat (hh * ww).toNat ww.toNat kh.toNat kw.toNat d2.toNat d3.toNat))])) .no)
    | _ => .no)
  | _, _ => .no
theorem poolTG_ok : FnE.OK e0.P e0.gam 31 (treeE poolTG) := by
  have h1 : FnE.OK e0.P e0.gam 31 (execFnC gQ Tryz.f31 6 [(3, [3, 4, 5, 6, 9, 15, 16]), (7, [3, 4, 5, 6, 9, 11, 15, 16, 31, 32]), (10, [3, 4, 5, 6, 9, 11, 12, 15, 16, 31, 32, 37, 38])]) := execFnC_ok gQ_good hmix Tryz.func31 Tryz.call31 (by decide +kernel) rfl
  refine ⟨fun _ _ _ => Tq.eq _ _, fun args hs ae hs' h => ?_⟩
  have h' : (poolTG args hs).run ah = some (ae, hs') := h
  clear h
  unfold poolTG at h'
  split at h'
  · split at h'
    · rename_i hn
      rw [nodeP_some hn]
      obtain ⟨hb, h2⟩ := gate_run h'
      clear h'
      simp only [Bool.and_eq_true, decide_eq_true_eq] at hb
      obtain ⟨⟨⟨⟨⟨b1, b2⟩, b3⟩, b4⟩, b5⟩, b6⟩ := hb
      subst b1 b2 b3 b4 b5 b6
      simp only [Tq.run] at h2
      obtain ⟨d2, hd2, h3⟩ := bind_some h2
      clear h2
      obtain ⟨d3, hd3, h4⟩ := bind_some h3
      clear h3
      have bif_none' : ∀ {c : Bool} {x : Option (AEnd × LHp)} {r : AEnd × LHp}, (bif c then x else none) = some r → c = true ∧ x = some r := fun {c x r} h => by
        cases c with
        | true => exact ⟨rfl, h⟩
        | false => cases h
      obtain ⟨hb, h5⟩ := bif_none' h4
      clear h4
      obtain ⟨c1, c2, c3, c4, c5, c6, c7, c8, c9, c10, c11, c12, c13⟩ := of_decide_eq_true hb
      cases h5
      obtain ⟨H, rfl⟩ := Int.eq_ofNat_of_zero_le (Int.le_trans (show (0 : Int) ≤ 1 by decide) c1)
      obtain ⟨W, rfl⟩ := Int.eq_ofNat_of_zero_le (Int.le_trans (show (0 : Int) ≤ 1 by decide) c2)
      obtain ⟨P, rfl⟩ := Int.eq_ofNat_of_zero_le (Int.le_trans (show (0 : Int) ≤ 1 by decide) c3)
      obtain ⟨KH, rfl⟩ := Int.eq_ofNat_of_zero_le c4
      obtain ⟨KW, rfl⟩ := Int.eq_ofNat_of_zero_le c5
      obtain ⟨D2, rfl⟩ := Int.eq_ofNat_of_zero_le (Int.le_trans (show (0 : Int) ≤ 1 by decide) c9)
      obtain ⟨D3, rfl⟩ := Int.eq_ofNat_of_zero_le (Int.le_trans (show (0 : Int) ≤ 1 by decide) c10)
      have e1 : 1 ≤ H := Int.ofNat_le.1 c1
      have e2 : 1 ≤ W := Int.ofNat_le.1 c2
      have e3 : 1 ≤ P := Int.ofNat_le.1 c3
      have e9 : 1 ≤ D2 := Int.ofNat_le.1 c9
      have e10 : 1 ≤ D3 := Int.ofNat_le.1 c10
      have e11 : D2 + KH ≤ H + 1 := Int.ofNat_le.1 c11
      have e12 : D3 + KW ≤ W + 1 := Int.ofNat_le.1 c12
      have hHW : 1 ≤ H * W := Nat.mul_pos e1 e2
      have e7 := Int.ofNat.inj (show Int.ofNat _ = Int.ofNat (P * (H * W)) from c7.trans (show (P : Int) * ((H : Int) * W) = Int.ofNat (P * (H * W)) by rw [← Int.natCast_mul, ← Int.natCast_mul]; rfl))
      have e8 : P * (H * W) ≤ 65536 := Int.ofNat_le.1 (Int.le_trans (Int.le_of_eq (show ((P * (H * W) : Nat) : Int) = (P : Int) * ((H : Int) * W) by rw [Int.natCast_mul, Int.natCast_mul])) c8)
      have e13 : P * (D2 * D3) ≤ 65536 := Int.ofNat_le.1 (Int.le_trans (Int.le_of_eq (show ((P * (D2 * D3) : Nat) : Int) = (P : Int) * ((D2 : Int) * D3) by rw [Int.natCast_mul, Int.natCast_mul])) c13)
      have f1 : H ≤ H * W := Nat.le_mul_of_pos_right _ e2
      have f2 : W ≤ H * W := Nat.le_mul_of_pos_left _ e1
      have f3 : H * W ≤ P * (H * W) := Nat.le_mul_of_pos_left _ e3
      have f4 : D2 ≤ D2 * D3 := Nat.le_mul_of_pos_right _ e10
      have f5 : D3 ≤ D2 * D3 := Nat.le_mul_of_pos_left _ e9
      have f6 : D2 * D3 ≤ P * (D2 * D3) := Nat.le_mul_of_pos_left _ e3
      clear c1 c2 c3 c4 c5 c7 c8 c9 c10 c11 c12 c13 hb
      rw [show (((H : Nat) : Int) * ((W : Nat) : Int)).toNat = H * W from by rw [← Int.natCast_mul]; rfl]
      exact h1.okC (pool_runG (H := H) (W := W) (P := P) (KH := KH) (KW := KW) (D2 := D2) (D := D3) rfl rfl rfl rfl rfl (c6.trans (Int.natCast_mul _ _).symm) e11 e12 (by omega) (by omega) (by omega) (by omega) e3 e9 e10 hHW e7 e8 e13 hd2 hd3)
    · cases h'
  · cases h'
end Go.Proofs.XGT
