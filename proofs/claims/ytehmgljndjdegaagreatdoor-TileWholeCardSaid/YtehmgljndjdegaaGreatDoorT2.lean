import Derived.Test.YtehmgljndjdegaaGreatDoorT1
import Derived.Test.YtehmgljndjdegaaGreatDoorT0
import Derived.Test.YtehmgljndjdegaaGreatDoorWA
namespace Go.Proofs.XG3
open Go.Vm Go
set_option maxRecDepth 100000
set_option maxHeartbeats 4000000

noncomputable def E3 : Env := (((e0.add 6 stepsE).add 7 stepsE).add 8 sameE).add 5 trueE
noncomputable def cf4 : Cfg := ⟨86, 7, 0, [(8, [0, 1, 2, 7, 9, 10])], true⟩
noncomputable def C4 : Code := codeOf Tryz.f4
noncomputable def L4 : Code := cL (cL (cR (cL (cR (cR (cR (cR (cR C4))))))))
def st4 (z0 : Bool) (n c z a i : Int) (xs : List Y0.den) : LSt := ⟨mkFr 7 [(0, I n), (1, I c), (2, I z), (7, .os 0 0), (9, I a), (10, I i)], [(0, .arr 30 Y0 0 z0 xs)], 1⟩
theorem entry3 (n c z : Int) : execB E3 Tryz.f3 6 [] [I n, I c, I z] [] =
  bif decide (c > 5000) then 
    bif decide (z < 100) then some (AEnd.ret [B true], [])
    else 
      bif bad n c z then 
        bif bad n c z then some (AEnd.ret [B true], [])
        else some (AEnd.ret [B false], [])
      else 
        bif bad n c z then some (AEnd.ret [B false], [])
        else 
          bif decide (pcs n c z (cnt c z) = pcs n c z (cnt c z)) && decide ((pcs n c z (cnt c z)).length ≤ 4294967296) then some (AEnd.ret [B true], [])
          else none
  else 
    bif bad n c z then 
      bif bad n c z then some (AEnd.ret [B true], [])
      else some (AEnd.ret [B false], [])
    else 
      bif bad n c z then some (AEnd.ret [B false], [])
      else 
        bif decide (pcs n c z (cnt c z) = pcs n c z (cnt c z)) && decide ((pcs n c z (cnt c z)).length ≤ 4294967296) then some (AEnd.ret [B true], [])
        else none := by kernel_rfl
theorem entry4 (n c z : Int) : execB E3 Tryz.f4 7 [(8, [0, 1, 2, 7, 9, 10])] [I n, I c, I z] [] =
  bif decide (c > 5000) then 
    bif decide (z < 100) then some (AEnd.ret [B true], [])
    else 
      bif bad n c z then some (AEnd.ret [B true], [])
      else (loopM (bodyB E3 cf4 (cL (cL (cR (cL (cR (cR (cR (cR (cR C4)))))))))) fu { fr := mkFr 7 [(0, I n), (1, I c), (2, I z), (7, AV.os 0 0), (9, I 0), (10, I 0)], hp := [(0, AObj.arr 30 ((i64T).pair ((i64T).pair ((i64T).pair Ty.unit))) 0 false (pcs n c z (cnt c z)))], nx := 1 }).bind fun es => (blkK 0 (seqK E3 cf4 (cR (cR (cR (cR (cR (cR C4)))))) (endK Tryz.prog 0 Tryz.f4.results.toList))) es.1 es.2
  else 
    bif bad n c z then some (AEnd.ret [B true], [])
    else (loopM (bodyB E3 cf4 (cL (cL (cR (cL (cR (cR (cR (cR (cR C4)))))))))) fu { fr := mkFr 7 [(0, I n), (1, I c), (2, I z), (7, AV.os 0 0), (9, I 0), (10, I 0)], hp := [(0, AObj.arr 30 ((i64T).pair ((i64T).pair ((i64T).pair Ty.unit))) 0 false (pcs n c z (cnt c z)))], nx := 1 }).bind fun es => (blkK 0 (seqK E3 cf4 (cR (cR (cR (cR (cR (cR C4)))))) (endK Tryz.prog 0 Tryz.f4.results.toList))) es.1 es.2 := by kernel_rfl
theorem body4f (n c z a i : Int) (xs : List Y0.den) : bodyB E3 cf4 L4 (st4 false n c z a i xs) =
  bif decide (i < Int.ofNat xs.length) then (idx xs i).bind fun v1 =>
      (match xs[i.toNat]? with
      | none => none
      | some w2 => 
        bif w2.1 != n then some (Stp.done (AEx.ret, { fr := mkFr 7 [(0, I n), (1, I c), (2, I z), (6, B false), (7, AV.os 0 0), (9, I a), (10, I i), (33, I i), (34, AV.os 0 0), (35, I (Int.ofNat xs.length)), (36, B true), (39, AV.os 0 0), (40, I i), (41, AV.oe 0 0 i.toNat), (42, AV.ip (i64T) w2.1), (43, I w2.1), (44, I n), (45, B (w2.1 != n)), (46, B true), (47, AV.tup []), (48, AV.tup []), (49, AV.tup []), (50, AV.tup []), (51, AV.tup []), (52, AV.tup []), (53, AV.tup []), (54, B true), (55, B true), (56, AV.tup []), (57, AV.tup []), (58, AV.tup []), (59, AV.tup []), (60, AV.tup []), (61, AV.tup []), (62, AV.tup []), (63, B true), (64, B true), (65, AV.tup []), (66, AV.tup []), (67, AV.tup []), (68, AV.tup []), (69, AV.tup []), (70, AV.tup []), (71, AV.tup []), (72, AV.tup []), (73, AV.tup []), (74, B true)], hp := [(0, AObj.arr 30 ((i64T).pair ((i64T).pair ((i64T).pair Ty.unit))) 0 true xs), (0, AObj.arr 30 ((i64T).pair ((i64T).pair ((i64T).pair Ty.unit))) 0 false xs)], nx := 1 }))
        else (idx xs i).bind fun v4 =>
            (match xs[i.toNat]? with
            | none => none
            | some w5 => 
              bif w5.2.1 != a then some (Stp.done (AEx.ret, { fr := mkFr 7 [(0, I n), (1, I c), (2, I z), (6, B false), (7, AV.os 0 0), (9, I a), (10, I i), (33, I i), (34, AV.os 0 0), (35, I (Int.ofNat xs.length)), (36, B true), (39, AV.os 0 0), (40, I i), (41, AV.oe 0 0 i.toNat), (42, AV.ip (i64T) w2.1), (43, I w2.1), (44, I n), (45, B (w2.1 != n)), (46, B false), (47, AV.os 0 0), (48, I i), (49, AV.oe 0 0 i.toNat), (50, AV.ip (i64T) w5.2.1), (51, I w5.2.1), (52, I a), (53, B (w5.2.1 != a)), (54, B (w5.2.1 != a)), (55, B true), (56, AV.tup []), (57, AV.tup []), (58, AV.tup []), (59, AV.tup []), (60, AV.tup []), (61, AV.tup []), (62, AV.tup []), (63, B true), (64, B true), (65, AV.tup []), (66, AV.tup []), (67, AV.tup []), (68, AV.tup []), (69, AV.tup []), (70, AV.tup []), (71, AV.tup []), (72, AV.tup []), (73, AV.tup []), (74, B true)], hp := [(0, AObj.arr 30 ((i64T).pair ((i64T).pair ((i64T).pair Ty.unit))) 0 true xs), (0, AObj.arr 30 ((i64T).pair ((i64T).pair ((i64T).pair Ty.unit))) 0 false xs)], nx := 1 }))
              else (idx xs i).bind fun v7 =>
                  (match xs[i.toNat]? with
                  | none => none
                  | some w8 => 
                    bif decide (w8.2.2.1 ≤ a) then some (Stp.done (AEx.ret, { fr := mkFr 7 [(0, I n), (1, I c), (2, I z), (6, B false), (7, AV.os 0 0), (9, I a), (10, I i), (33, I i), (34, AV.os 0 0), (35, I (Int.ofNat xs.length)), (36, B true), (39, AV.os 0 0), (40, I i), (41, AV.oe 0 0 i.toNat), (42, AV.ip (i64T) w2.1), (43, I w2.1), (44, I n), (45, B (w2.1 != n)), (46, B false), (47, AV.os 0 0), (48, I i), (49, AV.oe 0 0 i.toNat), (50, AV.ip (i64T) w5.2.1), (51, I w5.2.1), (52, I a), (53, B (w5.2.1 != a)), (54, B (w5.2.1 != a)), (55, B false), (56, AV.os 0 0), (57, I i), (58, AV.oe 0 0 i.toNat), (59, AV.ip (i64T) w8.2.2.1), (60, I w8.2.2.1), (61, I a), (62, B (decide (w8.2.2.1 ≤ a))), (63, B (decide (w8.2.2.1 ≤ a))), (64, B true), (65, AV.tup []), (66, AV.tup []), (67, AV.tup []), (68, AV.tup []), (69, AV.tup []), (70, AV.tup []), (71, AV.tup []), (72, AV.tup []), (73, AV.tup []), (74, B true)], hp := [(0, AObj.arr 30 ((i64T).pair ((i64T).pair ((i64T).pair Ty.unit))) 0 true xs), (0, AObj.arr 30 ((i64T).pair ((i64T).pair ((i64T).pair Ty.unit))) 0 false xs)], nx := 1 }))
                    else (idx xs i).bind fun v10 =>
                        (match xs[i.toNat]? with
                        | none => none
                        | some w11 => 
                          bif decide (IntKind.i64.wrap (w11.2.2.1 - a) > z) then some (Stp.done (AEx.ret, { fr := mkFr 7 [(0, I n), (1, I c), (2, I z), (6, B false), (7, AV.os 0 0), (9, I a), (10, I i), (33, I i), (34, AV.os 0 0), (35, I (Int.ofNat xs.length)), (36, B true), (39, AV.os 0 0), (40, I i), (41, AV.oe 0 0 i.toNat), (42, AV.ip (i64T) w2.1), (43, I w2.1), (44, I n), (45, B (w2.1 != n)), (46, B false), (47, AV.os 0 0), (48, I i), (49, AV.oe 0 0 i.toNat), (50, AV.ip (i64T) w5.2.1), (51, I w5.2.1), (52, I a), (53, B (w5.2.1 != a)), (54, B (w5.2.1 != a)), (55, B false), (56, AV.os 0 0), (57, I i), (58, AV.oe 0 0 i.toNat), (59, AV.ip (i64T) w8.2.2.1), (60, I w8.2.2.1), (61, I a), (62, B (decide (w8.2.2.1 ≤ a))), (63, B (decide (w8.2.2.1 ≤ a))), (64, B false), (65, AV.os 0 0), (66, I i), (67, AV.oe 0 0 i.toNat), (68, AV.ip (i64T) w11.2.2.1), (69, I w11.2.2.1), (70, I a), (71, I (IntKind.i64.wrap (w11.2.2.1 - a))), (72, I z), (73, B (decide (IntKind.i64.wrap (w11.2.2.1 - a) > z))), (74, B true)], hp := [(0, AObj.arr 30 ((i64T).pair ((i64T).pair ((i64T).pair Ty.unit))) 0 true xs), (0, AObj.arr 30 ((i64T).pair ((i64T).pair ((i64T).pair Ty.unit))) 0 false xs)], nx := 1 }))
                          else (idx xs i).bind fun v13 =>
                              (match xs[i.toNat]? with
                              | none => none
                              | some w14 => some (Stp.next { fr := mkFr 7 [(0, I n), (1, I c), (2, I z), (7, AV.os 0 0), (9, I w14.2.2.1), (10, I (IntKind.i64.wrap (i + 1)))], hp := [(0, AObj.arr 30 ((i64T).pair ((i64T).pair ((i64T).pair Ty.unit))) 0 true xs)], nx := 1 }))))))
  else some (Stp.done (AEx.exit 0, { fr := mkFr 7 [(0, I n), (1, I c), (2, I z), (7, AV.os 0 0), (9, I a), (10, I i), (33, I i), (34, AV.os 0 0), (35, I (Int.ofNat xs.length)), (36, B false)], hp := [(0, AObj.arr 30 ((i64T).pair ((i64T).pair ((i64T).pair Ty.unit))) 0 false xs)], nx := 1 })) := by kernel_rfl
theorem body4t (n c z a i : Int) (xs : List Y0.den) : bodyB E3 cf4 L4 (st4 true n c z a i xs) =
  bif decide (i < Int.ofNat xs.length) then (idx xs i).bind fun v1 =>
      (match xs[i.toNat]? with
      | none => none
      | some w2 => 
        bif w2.1 != n then some (Stp.done (AEx.ret, { fr := mkFr 7 [(0, I n), (1, I c), (2, I z), (6, B false), (7, AV.os 0 0), (9, I a), (10, I i), (33, I i), (34, AV.os 0 0), (35, I (Int.ofNat xs.length)), (36, B true), (39, AV.os 0 0), (40, I i), (41, AV.oe 0 0 i.toNat), (42, AV.ip (i64T) w2.1), (43, I w2.1), (44, I n), (45, B (w2.1 != n)), (46, B true), (47, AV.tup []), (48, AV.tup []), (49, AV.tup []), (50, AV.tup []), (51, AV.tup []), (52, AV.tup []), (53, AV.tup []), (54, B true), (55, B true), (56, AV.tup []), (57, AV.tup []), (58, AV.tup []), (59, AV.tup []), (60, AV.tup []), (61, AV.tup []), (62, AV.tup []), (63, B true), (64, B true), (65, AV.tup []), (66, AV.tup []), (67, AV.tup []), (68, AV.tup []), (69, AV.tup []), (70, AV.tup []), (71, AV.tup []), (72, AV.tup []), (73, AV.tup []), (74, B true)], hp := [(0, AObj.arr 30 ((i64T).pair ((i64T).pair ((i64T).pair Ty.unit))) 0 true xs)], nx := 1 }))
        else (idx xs i).bind fun v4 =>
            (match xs[i.toNat]? with
            | none => none
            | some w5 => 
              bif w5.2.1 != a then some (Stp.done (AEx.ret, { fr := mkFr 7 [(0, I n), (1, I c), (2, I z), (6, B false), (7, AV.os 0 0), (9, I a), (10, I i), (33, I i), (34, AV.os 0 0), (35, I (Int.ofNat xs.length)), (36, B true), (39, AV.os 0 0), (40, I i), (41, AV.oe 0 0 i.toNat), (42, AV.ip (i64T) w2.1), (43, I w2.1), (44, I n), (45, B (w2.1 != n)), (46, B false), (47, AV.os 0 0), (48, I i), (49, AV.oe 0 0 i.toNat), (50, AV.ip (i64T) w5.2.1), (51, I w5.2.1), (52, I a), (53, B (w5.2.1 != a)), (54, B (w5.2.1 != a)), (55, B true), (56, AV.tup []), (57, AV.tup []), (58, AV.tup []), (59, AV.tup []), (60, AV.tup []), (61, AV.tup []), (62, AV.tup []), (63, B true), (64, B true), (65, AV.tup []), (66, AV.tup []), (67, AV.tup []), (68, AV.tup []), (69, AV.tup []), (70, AV.tup []), (71, AV.tup []), (72, AV.tup []), (73, AV.tup []), (74, B true)], hp := [(0, AObj.arr 30 ((i64T).pair ((i64T).pair ((i64T).pair Ty.unit))) 0 true xs)], nx := 1 }))
              else (idx xs i).bind fun v7 =>
                  (match xs[i.toNat]? with
                  | none => none
                  | some w8 => 
                    bif decide (w8.2.2.1 ≤ a) then some (Stp.done (AEx.ret, { fr := mkFr 7 [(0, I n), (1, I c), (2, I z), (6, B false), (7, AV.os 0 0), (9, I a), (10, I i), (33, I i), (34, AV.os 0 0), (35, I (Int.ofNat xs.length)), (36, B true), (39, AV.os 0 0), (40, I i), (41, AV.oe 0 0 i.toNat), (42, AV.ip (i64T) w2.1), (43, I w2.1), (44, I n), (45, B (w2.1 != n)), (46, B false), (47, AV.os 0 0), (48, I i), (49, AV.oe 0 0 i.toNat), (50, AV.ip (i64T) w5.2.1), (51, I w5.2.1), (52, I a), (53, B (w5.2.1 != a)), (54, B (w5.2.1 != a)), (55, B false), (56, AV.os 0 0), (57, I i), (58, AV.oe 0 0 i.toNat), (59, AV.ip (i64T) w8.2.2.1), (60, I w8.2.2.1), (61, I a), (62, B (decide (w8.2.2.1 ≤ a))), (63, B (decide (w8.2.2.1 ≤ a))), (64, B true), (65, AV.tup []), (66, AV.tup []), (67, AV.tup []), (68, AV.tup []), (69, AV.tup []), (70, AV.tup []), (71, AV.tup []), (72, AV.tup []), (73, AV.tup []), (74, B true)], hp := [(0, AObj.arr 30 ((i64T).pair ((i64T).pair ((i64T).pair Ty.unit))) 0 true xs)], nx := 1 }))
                    else (idx xs i).bind fun v10 =>
                        (match xs[i.toNat]? with
                        | none => none
                        | some w11 => 
                          bif decide (IntKind.i64.wrap (w11.2.2.1 - a) > z) then some (Stp.done (AEx.ret, { fr := mkFr 7 [(0, I n), (1, I c), (2, I z), (6, B false), (7, AV.os 0 0), (9, I a), (10, I i), (33, I i), (34, AV.os 0 0), (35, I (Int.ofNat xs.length)), (36, B true), (39, AV.os 0 0), (40, I i), (41, AV.oe 0 0 i.toNat), (42, AV.ip (i64T) w2.1), (43, I w2.1), (44, I n), (45, B (w2.1 != n)), (46, B false), (47, AV.os 0 0), (48, I i), (49, AV.oe 0 0 i.toNat), (50, AV.ip (i64T) w5.2.1), (51, I w5.2.1), (52, I a), (53, B (w5.2.1 != a)), (54, B (w5.2.1 != a)), (55, B false), (56, AV.os 0 0), (57, I i), (58, AV.oe 0 0 i.toNat), (59, AV.ip (i64T) w8.2.2.1), (60, I w8.2.2.1), (61, I a), (62, B (decide (w8.2.2.1 ≤ a))), (63, B (decide (w8.2.2.1 ≤ a))), (64, B false), (65, AV.os 0 0), (66, I i), (67, AV.oe 0 0 i.toNat), (68, AV.ip (i64T) w11.2.2.1), (69, I w11.2.2.1), (70, I a), (71, I (IntKind.i64.wrap (w11.2.2.1 - a))), (72, I z), (73, B (decide (IntKind.i64.wrap (w11.2.2.1 - a) > z))), (74, B true)], hp := [(0, AObj.arr 30 ((i64T).pair ((i64T).pair ((i64T).pair Ty.unit))) 0 true xs)], nx := 1 }))
                          else (idx xs i).bind fun v13 =>
                              (match xs[i.toNat]? with
                              | none => none
                              | some w14 => some (Stp.next { fr := mkFr 7 [(0, I n), (1, I c), (2, I z), (7, AV.os 0 0), (9, I w14.2.2.1), (10, I (IntKind.i64.wrap (i + 1)))], hp := [(0, AObj.arr 30 ((i64T).pair ((i64T).pair ((i64T).pair Ty.unit))) 0 true xs)], nx := 1 }))))))
  else some (Stp.done (AEx.exit 0, { fr := mkFr 7 [(0, I n), (1, I c), (2, I z), (7, AV.os 0 0), (9, I a), (10, I i), (33, I i), (34, AV.os 0 0), (35, I (Int.ofNat xs.length)), (36, B false)], hp := [(0, AObj.arr 30 ((i64T).pair ((i64T).pair ((i64T).pair Ty.unit))) 0 true xs)], nx := 1 })) := by kernel_rfl
noncomputable def K4 : AEx → LSt → Option (AEnd × LHp) := (blkK 0 (seqK E3 cf4 (cR (cR (cR (cR (cR (cR C4)))))) (endK Tryz.prog 0 Tryz.f4.results.toList)))
def sx4 (n c z a i : Int) (xs : List Y0.den) : LSt := ⟨mkFr 7 [(0, I n), (1, I c), (2, I z), (7, AV.os 0 0), (9, I a), (10, I i), (33, I i), (34, AV.os 0 0), (35, I (Int.ofNat xs.length)), (36, B false)], [(0, .arr 30 Y0 0 true xs)], 1⟩
theorem exit4 (n c z a i : Int) (xs : List Y0.den) : K4 (.exit 0) (sx4 n c z a i xs) =
  bif a == c then some (AEnd.ret [B true], [])
  else some (AEnd.ret [B false], []) := by kernel_rfl

theorem E3_good : E3.Good := (((e0_good.add stepsE_ok6).add stepsE_ok7).add sameE_ok).add (trueE_ok x5_ok live_run)

theorem pcs_len (n c z : Int) (i : Nat) : (pcs n c z i).length = i := by simp [pcs]
theorem cnt_le {c z : Int} (hc : 1 ≤ c) (hc2 : c ≤ 65536) (hz : 1 ≤ z) : cnt c z ≤ 65536 := by
  rcases Nat.lt_or_ge 65536 (cnt c z) with h | h
  · have h4 : ((65536 : Nat) : Int) * z < c := (cnt_lt hc hz 65536).1 h
    have h3 : ((65536 : Nat) : Int) * 1 ≤ ((65536 : Nat) : Int) * z := Int.mul_le_mul_of_nonneg_left hz (by omega)
    omega
  · exact h

theorem run3 (n c z : Int) : execB E3 Tryz.f3 6 [] [I n, I c, I z] [] = some (.ret [B true], []) := by
  rw [entry3]
  have hl : bad n c z = false → decide ((pcs n c z (cnt c z)).length ≤ 4294967296) = true := fun hb => by
    obtain ⟨_, a2, a3, a4, _⟩ := bad_false hb
    have := cnt_le a2 a3 a4
    rw [pcs_len]
    exact decide_eq_true (by omega)
  cases hb : bad n c z with
  | true => cases decide (c > 5000) <;> cases decide (z < 100) <;> rfl
  | false =>
    rw [hl hb, decide_eq_true rfl]
    cases decide (c > 5000) <;> cases decide (z < 100) <;> rfl

/-- where the i-th piece begins -/
def atW (c z : Int) : Nat → Int
  | 0 => 0
  | i + 1 => if (i : Int) * z + z < c then (i : Int) * z + z else c
def stW (n c z : Int) (xs : List Y0.den) : Nat → LSt
  | 0 => st4 false n c z 0 0 xs
  | i + 1 => st4 true n c z (atW c z (i + 1)) ((i + 1 : Nat) : Int) xs

theorem loop4 {n c z : Int} (hb : bad n c z = false) : (loopM (bodyB E3 cf4 L4) fu (st4 false n c z 0 0 (pcs n c z (cnt c z)))) = some (.exit 0, sx4 n c z c ((cnt c z : Nat) : Int) (pcs n c z (cnt c z))) := by
  obtain ⟨_, hc, hc2, hz, hz2⟩ := bad_false hb
  have hNle := cnt_le hc hc2 hz
  have hN : 0 < cnt c z := (cnt_lt hc hz 0).2 (by simp; omega)
  generalize hxs : pcs n c z (cnt c z) = xs
  have hlen : xs.length = cnt c z := by rw [← hxs, pcs_len]
  have hget : ∀ i, i < cnt c z → xs[i]? = some (stp n c z ((i : Int) * z)) := fun i hi => by
    rw [← hxs]
    simp only [pcs, List.getElem?_map, List.getElem?_range hi, Option.map_some]
  have hat : ∀ i, i < cnt c z → atW c z i = (i : Int) * z := fun i hi => by
    cases i with
    | zero => simp [atW]
    | succ i =>
      have h := (cnt_lt hc hz (i + 1)).1 hi
      have e : ((i + 1 : Nat) : Int) * z = (i : Int) * z + z := by rw [Int.natCast_add, Int.add_mul]; omega
      rw [e] at h ⊢
      simp only [atW, if_pos h]
  have hlo : ∀ i : Nat, 0 ≤ (i : Int) * z := fun i => Int.mul_nonneg (by omega) (by omega)
  have hidx : ∀ i : Nat, i < cnt c z → idx xs ((i : Nat) : Int) = some (stp n c z ((i : Int) * z)) := fun i hi => by
    unfold idx; rw [if_pos (by omega), Int.toNat_natCast, hget i hi]
  obtain ⟨N, hNe⟩ : ∃ N, cnt c z = N + 1 := ⟨cnt c z - 1, by omega⟩
  have hend : atW c z (cnt c z) = c := by
    rw [hNe]
    have h : ¬ (((N + 1 : Nat) : Int) * z < c) := fun h => by
      have := (cnt_lt hc hz (N + 1)).2 h; omega
    have e : ((N + 1 : Nat) : Int) * z = (N : Int) * z + z := by rw [Int.natCast_add, Int.add_mul]; omega
    rw [e] at h
    simp only [atW, if_neg h]
  have hst : ∀ i : Nat, i < cnt c z → IntKind.i64.wrap ((i : Int) * z + z) = (i : Int) * z + z := fun i hi => by
    have := (cnt_lt hc hz i).1 hi
    have := hlo i
    exact wrap64 (by omega) (by omega)
  have key := loopM_run (B := bodyB E3 cf4 L4) (f := stW n c z xs) (r := (.exit 0, sx4 n c z c ((cnt c z : Nat) : Int) xs)) (cnt c z) fu (by unfold fu; omega) (fun i hi => ?_) ?_
  · exact key
  · have h1 := hget i hi
    have h2 := hidx i hi
    have h3 := hat i hi
    have h4 := (cnt_lt hc hz i).1 hi
    have h5 := hlo i
    have k1 : ((stp n c z ((i : Int) * z)).1 != n) = false := bne_self_eq_false n
    have kk : ∀ a : Int, a = (i : Int) * z → ((stp n c z ((i : Int) * z)).2.1 != a) = false ∧ decide ((stp n c z ((i : Int) * z)).2.2.1 ≤ a) = false ∧ decide (IntKind.i64.wrap ((stp n c z ((i : Int) * z)).2.2.1 - a) > z) = false := fun a ha => by
      subst ha
      have e : (stp n c z ((i : Int) * z)).2.2.1 = (if (i : Int) * z + z < c then (i : Int) * z + z else c) := rfl
      have hw : IntKind.i64.wrap ((stp n c z ((i : Int) * z)).2.2.1 - (i : Int) * z) = (stp n c z ((i : Int) * z)).2.2.1 - (i : Int) * z := by
        rw [e]
        refine wrap64 ?_ ?_ <;> split <;> omega
      refine ⟨bne_self_eq_false ((i : Int) * z), decide_eq_false ?_, decide_eq_false ?_⟩
      · show ¬ ((if (i : Int) * z + z < c then (i : Int) * z + z else c) ≤ (i : Int) * z)
        split <;> omega
      · rw [hw]
        show ¬ ((if (i : Int) * z + z < c then (i : Int) * z + z else c) - (i : Int) * z > z)
        split <;> omega
    have hlt : decide ((i : Int) < Int.ofNat xs.length) = true := decide_eq_true (by rw [hlen]; exact Int.ofNat_lt.2 hi)
    have hw : IntKind.i64.wrap ((i : Int) + 1) = ((i + 1 : Nat) : Int) := by rw [wrap64 (by omega) (by omega)]; omega
    cases i with
    | zero =>
      show bodyB E3 cf4 L4 (st4 false n c z 0 ((0 : Nat) : Int) xs) = _
      obtain ⟨k2, k3, k4⟩ := kk 0 h3
      rw [body4f, hlt, h2, Int.toNat_natCast, h1]
      simp only [cond_true, Option.bind_some, k1, k2, k3, k4, cond_false]
      rw [hw]
      rfl
    | succ i =>
      show bodyB E3 cf4 L4 (st4 true n c z (atW c z (i + 1)) ((i + 1 : Nat) : Int) xs) = _
      obtain ⟨k2, k3, k4⟩ := kk _ h3
      rw [body4t, hlt, h2, Int.toNat_natCast, h1]
      simp only [cond_true, Option.bind_some, k1, k2, k3, k4, cond_false]
      rw [hw]
      rfl
  · rw [hNe]
    show bodyB E3 cf4 L4 (st4 true n c z (atW c z (N + 1)) ((N + 1 : Nat) : Int) xs) = _
    rw [body4t, ← hNe, hend, decide_eq_false (show ¬ ((cnt c z : Nat) : Int) < Int.ofNat xs.length by rw [hlen]; exact Int.lt_irrefl _)]
    rfl

theorem run4 (n c z : Int) : execB E3 Tryz.f4 7 [(8, [0, 1, 2, 7, 9, 10])] [I n, I c, I z] [] = some (.ret [B true], []) := by
  rw [entry4]
  cases hb : bad n c z with
  | true => cases decide (c > 5000) <;> cases decide (z < 100) <;> rfl
  | false =>
    have h := loop4 hb
    unfold st4 at h
    have h2 : K4 (.exit 0) (sx4 n c z c ((cnt c z : Nat) : Int) (pcs n c z (cnt c z))) = some (.ret [B true], []) := by
      rw [exit4]
      simp only [BEq.rfl, cond_true]
    have h3 : ((loopM (bodyB E3 cf4 L4) fu { fr := mkFr 7 [(0, I n), (1, I c), (2, I z), (7, AV.os 0 0), (9, I 0), (10, I 0)], hp := [(0, AObj.arr 30 Y0 0 false (pcs n c z (cnt c z)))], nx := 1 }).bind fun es => K4 es.1 es.2) = some (.ret [B true], []) := by
      rw [h]; exact h2
    cases decide (c > 5000) with
    | true => cases decide (z < 100) with
      | true => rfl
      | false => exact h3
    | false => exact h3

theorem call3 (n c z : Int) : FnH Tryz.prog e0.gam 3 [I n, I c, I z] (hget []) fun ae _ => ae = .ret [B true] := by
  have h := (execFn_ok E3_good hmix Tryz.func3 Tryz.call3 (depth := 6) (live := []) (by decide +kernel) rfl).ok [I n, I c, I z] [] (.ret [B true]) [] (by
    show (execB E3 Tryz.f3 6 [] [I n, I c, I z] []).bind _ = _
    rw [run3]; rfl)
  exact FnH.mono h fun ae h1 hh => hh.1
theorem call4 (n c z : Int) : FnH Tryz.prog e0.gam 4 [I n, I c, I z] (hget []) fun ae _ => ae = .ret [B true] := by
  have h := (execFn_ok E3_good hmix Tryz.func4 Tryz.call4 (depth := 7) (live := [(8, [0, 1, 2, 7, 9, 10])]) (by decide +kernel) rfl).ok [I n, I c, I z] [] (.ret [B true]) [] (by
    show (execB E3 Tryz.f4 7 [(8, [0, 1, 2, 7, 9, 10])] [I n, I c, I z] []).bind _ = _
    rw [run4]; rfl)
  exact FnH.mono h fun ae h1 hh => hh.1
end Go.Proofs.XG3
