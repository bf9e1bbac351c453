/- move.slice by starts and ends of all axes: steps of its second loop. -/
import Derived.Test.YtbijfcooljoogaaGreatDoorS40
import Derived.Test.YtbijfcooljoogaaGreatDoorS38
import Derived.Test.YtbijfcooljoogaaGreatDoorS27
namespace Go.Proofs.XGT
open Go.Vm Go
set_option maxRecDepth 100000
set_option maxHeartbeats 4000000
def hpVs (t : Int) (s e d w x : List Int) (f : Int) (vd vs a : List Int) : LHp := hpS2 s e w ++ [(3, AObj.box (AV.d (Y0) (t, d, x, ()))), (4, .arr 2 i64T 0 false s), (5, AObj.box ((I f).pr ((AV.os 6 0).pr ((AV.os 7 0).pr (AV.d Ty.unit PUnit.unit))))), (6, .arr 3 i64T 0 false vd), (7, .arr 3 i64T 0 false vs), (8, .arr 2 i64T 0 false a)]
def stVs (t : Int) (s e d w x : List Int) (f : Int) (vd vs a : List Int) (nx : Nat) (i : Int) : LSt := { fr := mkFr 7 [(2, AV.os 0 0), (4, AV.op 3 [] 0), (7, AV.os 4 0), (10, AV.op 5 [] 0), (32, AV.os 8 0), (33, I (Int.ofNat a.length)), (34, I i)], hp := hpVs t s e d w x f vd vs a, nx := nx }
theorem vs_stH (hl : Hl) (t : Int) (s e d w x : List Int) (f : Int) (vd vs a : List Int) (i : Int) (n : Nat) {R : Type} (k : AEx → LSt → Option R) : lpH gSv cf_msv [4, 10] hl (cL (cL (cR (cL (cR (cR (cR (cR (cR C_msv))))))))) (n + 1) (stVs t s e d w x f vd vs a 12 i) k = bif decide (i < Int.ofNat a.length) then (idx a i).bind fun v1 => (a[i.toNat]?).bind fun v2 => (idx s i).bind fun v3 => (s[i.toNat]?).bind fun v4 => bif decide (v4 < 0) then (idx d (axV v2 (Int.ofNat d.length))).bind fun v6 => (idx w (axV v2 (Int.ofNat d.length))).bind fun v7 => (w[(axV v2 (Int.ofNat d.length)).toNat]?).bind fun v8 => bif okFine f vd vs then  bif decide (axV v2 (Int.ofNat d.length) < 0) then lpH gSv cf_msv [4, 10] hl (cL (cL (cR (cL (cR (cR (cR (cR (cR C_msv))))))))) n { fr := mkFr 7 [(2, AV.os 0 0), (4, AV.op 3 [] 0), (7, AV.os 4 0), (10, AV.op 5 [] 0), (32, AV.os 6 0), (33, I (Int.ofNat a.length)), (34, I (IntKind.i64.wrap (i + 1)))], hp := [(0, AObj.arr 3 (i64T) 0 false w), (1, AObj.arr 37 (Ty.str.pair ((i64T).pair ((i64T).pair ((i64T).pair (Ty.str.pair (Y0.pair ((i64T).slice.pair Ty.unit))))))) 0 true [([115, 116, 97, 114, 116, 115], 7, 0, 0, [], (0, [], [], ()), s, ()), ([101, 110, 100, 115], 7, 0, 0, [], (0, [], [], ()), e, ())]), (2, AObj.arr 9 Ty.str 0 false [[120]]), (3, AObj.box (AV.d Y0 (t, d, x, ()))), (4, AObj.arr 2 (i64T) 0 false s), (5, AObj.box ((I 0).pr (AV.nils.pr (AV.nils.pr (AV.d Ty.unit PUnit.unit))))), (6, AObj.arr 2 (i64T) 0 false a)], nx := 10 } k else  bif decide (axV v2 (Int.ofNat d.length) ≥ Int.ofNat vd.length) then lpH gSv cf_msv [4, 10] hl (cL (cL (cR (cL (cR (cR (cR (cR (cR C_msv))))))))) n { fr := mkFr 7 [(2, AV.os 0 0), (4, AV.op 3 [] 0), (7, AV.os 4 0), (10, AV.op 5 [] 0), (32, AV.os 6 0), (33, I (Int.ofNat a.length)), (34, I (IntKind.i64.wrap (i + 1)))], hp := [(0, AObj.arr 3 (i64T) 0 false w), (1, AObj.arr 37 (Ty.str.pair ((i64T).pair ((i64T).pair ((i64T).pair (Ty.str.pair (Y0.pair ((i64T).slice.pair Ty.unit))))))) 0 true [([115, 116, 97, 114, 116, 115], 7, 0, 0, [], (0, [], [], ()), s, ()), ([101, 110, 100, 115], 7, 0, 0, [], (0, [], [], ()), e, ())]), (2, AObj.arr 9 Ty.str 0 false [[120]]), (3, AObj.box (AV.d Y0 (t, d, x, ()))), (4, AObj.arr 2 (i64T) 0 false s), (5, AObj.box ((I 0).pr (AV.nils.pr (AV.nils.pr (AV.d Ty.unit PUnit.unit))))), (6, AObj.arr 2 (i64T) 0 false a)], nx := 10 } k else  bif decide ((if IntKind.i64.wrap (v4 + v6) > 0 then IntKind.i64.wrap (v4 + v6) else 0) < 0) then lpH gSv cf_msv [4, 10] hl (cL (cL (cR (cL (cR (cR (cR (cR (cR C_msv))))))))) n { fr := mkFr 7 [(2, AV.os 0 0), (4, AV.op 3 [] 0), (7, AV.os 4 0), (10, AV.op 5 [] 0), (32, AV.os 6 0), (33, I (Int.ofNat a.length)), (34, I (IntKind.i64.wrap (i + 1)))], hp := [(0, AObj.arr 3 (i64T) 0 false w), (1, AObj.arr 37 (Ty.str.pair ((i64T).pair ((i64T).pair ((i64T).pair (Ty.str.pair (Y0.pair ((i64T).slice.pair Ty.unit))))))) 0 true [([115, 116, 97, 114, 116, 115], 7, 0, 0, [], (0, [], [], ()), s, ()), ([101, 110, 100, 115], 7, 0, 0, [], (0, [], [], ()), e, ())]), (2, AObj.arr 9 Ty.str 0 false [[120]]), (3, AObj.box (AV.d Y0 (t, d, x, ()))), (4, AObj.arr 2 (i64T) 0 false s), (5, AObj.box ((I 0).pr (AV.nils.pr (AV.nils.pr (AV.d Ty.unit PUnit.unit))))), (6, AObj.arr 2 (i64T) 0 false a)], nx := 10 } k else (idx vd (axV v2 (Int.ofNat d.length))).bind fun v13 => (vd[(axV v2 (Int.ofNat d.length)).toNat]?).bind fun v14 => bif decide (IntKind.i64.wrap ((if IntKind.i64.wrap (v4 + v6) > 0 then IntKind.i64.wrap (v4 + v6) else 0) + v8) > v14) then lpH gSv cf_msv [4, 10] hl (cL (cL (cR (cL (cR (cR (cR (cR (cR C_msv))))))))) n { fr := mkFr 7 [(2, AV.os 0 0), (4, AV.op 3 [] 0), (7, AV.os 4 0), (10, AV.op 5 [] 0), (32, AV.os 6 0), (33, I (Int.ofNat a.length)), (34, I (IntKind.i64.wrap (i + 1)))], hp := [(0, AObj.arr 3 (i64T) 0 false w), (1, AObj.arr 37 (Ty.str.pair ((i64T).pair ((i64T).pair ((i64T).pair (Ty.str.pair (Y0.pair ((i64T).slice.pair Ty.unit))))))) 0 true [([115, 116, 97, 114, 116, 115], 7, 0, 0, [], (0, [], [], ()), s, ()), ([101, 110, 100, 115], 7, 0, 0, [], (0, [], [], ()), e, ())]), (2, AObj.arr 9 Ty.str 0 false [[120]]), (3, AObj.box (AV.d Y0 (t, d, x, ()))), (4, AObj.arr 2 (i64T) 0 false s), (5, AObj.box ((I 0).pr (AV.nils.pr (AV.nils.pr (AV.d Ty.unit PUnit.unit))))), (6, AObj.arr 2 (i64T) 0 false a)], nx := 10 } k else  bif decide ((if IntKind.i64.wrap (v4 + v6) > 0 then IntKind.i64.wrap (v4 + v6) else 0) ≥ IntKind.i64.wrap ((if IntKind.i64.wrap (v4 + v6) > 0 then IntKind.i64.wrap (v4 + v6) else 0) + v8)) then lpH gSv cf_msv [4, 10] hl (cL (cL (cR (cL (cR (cR (cR (cR (cR C_msv))))))))) n { fr := mkFr 7 [(2, AV.os 0 0), (4, AV.op 3 [] 0), (7, AV.os 4 0), (10, AV.op 5 [] 0), (32, AV.os 6 0), (33, I (Int.ofNat a.length)), (34, I (IntKind.i64.wrap (i + 1)))], hp := [(0, AObj.arr 3 (i64T) 0 false w), (1, AObj.arr 37 (Ty.str.pair ((i64T).pair ((i64T).pair ((i64T).pair (Ty.str.pair (Y0.pair ((i64T).slice.pair Ty.unit))))))) 0 true [([115, 116, 97, 114, 116, 115], 7, 0, 0, [], (0, [], [], ()), s, ()), ([101, 110, 100, 115], 7, 0, 0, [], (0, [], [], ()), e, ())]), (2, AObj.arr 9 Ty.str 0 false [[120]]), (3, AObj.box (AV.d Y0 (t, d, x, ()))), (4, AObj.arr 2 (i64T) 0 false s), (5, AObj.box ((I 0).pr (AV.nils.pr (AV.nils.pr (AV.d Ty.unit PUnit.unit))))), (6, AObj.arr 2 (i64T) 0 false a)], nx := 10 } k else (idx vs (axV v2 (Int.ofNat d.length))).bind fun v17 => (vs[(axV v2 (Int.ofNat d.length)).toNat]?).bind fun v18 => bif decide (IntKind.i64.wrap (f + IntKind.i64.wrap ((if IntKind.i64.wrap (v4 + v6) > 0 then IntKind.i64.wrap (v4 + v6) else 0) * v18)) ≥ 65536) then lpH gSv cf_msv [4, 10] hl (cL (cL (cR (cL (cR (cR (cR (cR (cR C_msv))))))))) n { fr := mkFr 7 [(2, AV.os 0 0), (4, AV.op 3 [] 0), (7, AV.os 4 0), (10, AV.op 5 [] 0), (32, AV.os 6 0), (33, I (Int.ofNat a.length)), (34, I (IntKind.i64.wrap (i + 1)))], hp := [(0, AObj.arr 3 (i64T) 0 false w), (1, AObj.arr 37 (Ty.str.pair ((i64T).pair ((i64T).pair ((i64T).pair (Ty.str.pair (Y0.pair ((i64T).slice.pair Ty.unit))))))) 0 true [([115, 116, 97, 114, 116, 115], 7, 0, 0, [], (0, [], [], ()), s, ()), ([101, 110, 100, 115], 7, 0, 0, [], (0, [], [], ()), e, ())]), (2, AObj.arr 9 Ty.str 0 false [[120]]), (3, AObj.box (AV.d Y0 (t, d, x, ()))), (4, AObj.arr 2 (i64T) 0 false s), (5, AObj.box ((I 0).pr (AV.nils.pr (AV.nils.pr (AV.d Ty.unit PUnit.unit))))), (6, AObj.arr 2 (i64T) 0 false a)], nx := 10 } k else  bif decide (vd ≠ [] ∧ vd.length ≤ 65536) then  bif decide (vs ≠ [] ∧ vs.length ≤ 65536) then (idx vs (axV v2 (Int.ofNat d.length))).bind fun v22 => (vs[(axV v2 (Int.ofNat d.length)).toNat]?).bind fun v23 => (idx vd (axV v2 (Int.ofNat d.length))).bind fun v24 => (setN vd (axV v2 (Int.ofNat d.length)).toNat (IntKind.i64.wrap (IntKind.i64.wrap ((if IntKind.i64.wrap (v4 + v6) > 0 then IntKind.i64.wrap (v4 + v6) else 0) + v8) - if IntKind.i64.wrap (v4 + v6) > 0 then IntKind.i64.wrap (v4 + v6) else 0))).bind fun v25 => lpH gSv cf_msv [4, 10] hl (cL (cL (cR (cL (cR (cR (cR (cR (cR C_msv))))))))) n { fr := mkFr 7 [(2, AV.os 0 0), (4, AV.op 3 [] 0), (7, AV.os 4 0), (10, AV.op 5 [] 0), (32, AV.os 8 0), (33, I (Int.ofNat a.length)), (34, I (IntKind.i64.wrap (i + 1)))], hp := [(0, AObj.arr 3 (i64T) 0 false w), (1, AObj.arr 37 (Ty.str.pair ((i64T).pair ((i64T).pair ((i64T).pair (Ty.str.pair (Y0.pair ((i64T).slice.pair Ty.unit))))))) 0 true [([115, 116, 97, 114, 116, 115], 7, 0, 0, [], (0, [], [], ()), s, ()), ([101, 110, 100, 115], 7, 0, 0, [], (0, [], [], ()), e, ())]), (2, AObj.arr 9 Ty.str 0 false [[120]]), (3, AObj.box (AV.d Y0 (t, d, x, ()))), (4, AObj.arr 2 (i64T) 0 false s), (5, AObj.box ((I (IntKind.i64.wrap (f + IntKind.i64.wrap ((if IntKind.i64.wrap (v4 + v6) > 0 then IntKind.i64.wrap (v4 + v6) else 0) * v23)))).pr ((AV.os 6 0).pr ((AV.os 7 0).pr (AV.d Ty.unit PUnit.unit))))), (6, AObj.arr 3 (i64T) 0 false v25), (7, AObj.arr 3 (i64T) 0 false vs), (8, AObj.arr 2 (i64T) 0 false a)], nx := 12 } k else none else none else none else (idx w (axV v2 (Int.ofNat d.length))).bind fun v6 => (w[(axV v2 (Int.ofNat d.length)).toNat]?).bind fun v7 => bif okFine f vd vs then  bif decide (axV v2 (Int.ofNat d.length) < 0) then lpH gSv cf_msv [4, 10] hl (cL (cL (cR (cL (cR (cR (cR (cR (cR C_msv))))))))) n { fr := mkFr 7 [(2, AV.os 0 0), (4, AV.op 3 [] 0), (7, AV.os 4 0), (10, AV.op 5 [] 0), (32, AV.os 6 0), (33, I (Int.ofNat a.length)), (34, I (IntKind.i64.wrap (i + 1)))], hp := [(0, AObj.arr 3 (i64T) 0 false w), (1, AObj.arr 37 (Ty.str.pair ((i64T).pair ((i64T).pair ((i64T).pair (Ty.str.pair (Y0.pair ((i64T).slice.pair Ty.unit))))))) 0 true [([115, 116, 97, 114, 116, 115], 7, 0, 0, [], (0, [], [], ()), s, ()), ([101, 110, 100, 115], 7, 0, 0, [], (0, [], [], ()), e, ())]), (2, AObj.arr 9 Ty.str 0 false [[120]]), (3, AObj.box (AV.d Y0 (t, d, x, ()))), (4, AObj.arr 2 (i64T) 0 false s), (5, AObj.box ((I 0).pr (AV.nils.pr (AV.nils.pr (AV.d Ty.unit PUnit.unit))))), (6, AObj.arr 2 (i64T) 0 false a)], nx := 10 } k else  bif decide (axV v2 (Int.ofNat d.length) ≥ Int.ofNat vd.length) then lpH gSv cf_msv [4, 10] hl (cL (cL (cR (cL (cR (cR (cR (cR (cR C_msv))))))))) n { fr := mkFr 7 [(2, AV.os 0 0), (4, AV.op 3 [] 0), (7, AV.os 4 0), (10, AV.op 5 [] 0), (32, AV.os 6 0), (33, I (Int.ofNat a.length)), (34, I (IntKind.i64.wrap (i + 1)))], hp := [(0, AObj.arr 3 (i64T) 0 false w), (1, AObj.arr 37 (Ty.str.pair ((i64T).pair ((i64T).pair ((i64T).pair (Ty.str.pair (Y0.pair ((i64T).slice.pair Ty.unit))))))) 0 true [([115, 116, 97, 114, 116, 115], 7, 0, 0, [], (0, [], [], ()), s, ()), ([101, 110, 100, 115], 7, 0, 0, [], (0, [], [], ()), e, ())]), (2, AObj.arr 9 Ty.str 0 false [[120]]), (3, AObj.box (AV.d Y0 (t, d, x, ()))), (4, AObj.arr 2 (i64T) 0 false s), (5, AObj.box ((I 0).pr (AV.nils.pr (AV.nils.pr (AV.d Ty.unit PUnit.unit))))), (6, AObj.arr 2 (i64T) 0 false a)], nx := 10 } k else  bif decide ((if v4 > 0 then v4 else 0) < 0) then lpH gSv cf_msv [4, 10] hl (cL (cL (cR (cL (cR (cR (cR (cR (cR C_msv))))))))) n { fr := mkFr 7 [(2, AV.os 0 0), (4, AV.op 3 [] 0), (7, AV.os 4 0), (10, AV.op 5 [] 0), (32, AV.os 6 0), (33, I (Int.ofNat a.length)), (34, I (IntKind.i64.wrap (i + 1)))], hp := [(0, AObj.arr 3 (i64T) 0 false w), (1, AObj.arr 37 (Ty.str.pair ((i64T).pair ((i64T).pair ((i64T).pair (Ty.str.pair (Y0.pair ((i64T).slice.pair Ty.unit))))))) 0 true [([115, 116, 97, 114, 116, 115], 7, 0, 0, [], (0, [], [], ()), s, ()), ([101, 110, 100, 115], 7, 0, 0, [], (0, [], [], ()), e, ())]), (2, AObj.arr 9 Ty.str 0 false [[120]]), (3, AObj.box (AV.d Y0 (t, d, x, ()))), (4, AObj.arr 2 (i64T) 0 false s), (5, AObj.box ((I 0).pr (AV.nils.pr (AV.nils.pr (AV.d Ty.unit PUnit.unit))))), (6, AObj.arr 2 (i64T) 0 false a)], nx := 10 } k else (idx vd (axV v2 (Int.ofNat d.length))).bind fun v12 => (vd[(axV v2 (Int.ofNat d.length)).toNat]?).bind fun v13 => bif decide (IntKind.i64.wrap ((if v4 > 0 then v4 else 0) + v7) > v13) then lpH gSv cf_msv [4, 10] hl (cL (cL (cR (cL (cR (cR (cR (cR (cR C_msv))))))))) n { fr := mkFr 7 [(2, AV.os 0 0), (4, AV.op 3 [] 0), (7, AV.os 4 0), (10, AV.op 5 [] 0), (32, AV.os 6 0), (33, I (Int.ofNat a.length)), (34, I (IntKind.i64.wrap (i + 1)))], hp := [(0, AObj.arr 3 (i64T) 0 false w), (1, AObj.arr 37 (Ty.str.pair ((i64T).pair ((i64T).pair ((i64T).pair (Ty.str.pair (Y0.pair ((i64T).slice.pair Ty.unit))))))) 0 true [([115, 116, 97, 114, 116, 115], 7, 0, 0, [], (0, [], [], ()), s, ()), ([101, 110, 100, 115], 7, 0, 0, [], (0, [], [], ()), e, ())]), (2, AObj.arr 9 Ty.str 0 false [[120]]), (3, AObj.box (AV.d Y0 (t, d, x, ()))), (4, AObj.arr 2 (i64T) 0 false s), (5, AObj.box ((I 0).pr (AV.nils.pr (AV.nils.pr (AV.d Ty.unit PUnit.unit))))), (6, AObj.arr 2 (i64T) 0 false a)], nx := 10 } k else  bif decide ((if v4 > 0 then v4 else 0) ≥ IntKind.i64.wrap ((if v4 > 0 then v4 else 0) + v7)) then lpH gSv cf_msv [4, 10] hl (cL (cL (cR (cL (cR (cR (cR (cR (cR C_msv))))))))) n { fr := mkFr 7 [(2, AV.os 0 0), (4, AV.op 3 [] 0), (7, AV.os 4 0), (10, AV.op 5 [] 0), (32, AV.os 6 0), (33, I (Int.ofNat a.length)), (34, I (IntKind.i64.wrap (i + 1)))], hp := [(0, AObj.arr 3 (i64T) 0 false w), (1, AObj.arr 37 (Ty.str.pair ((i64T).pair ((i64T).pair ((i64T).pair (Ty.str.pair (Y0.pair ((i64T).slice.pair Ty.unit))))))) 0 true [([115, 116, 97, 114, 116, 115], 7, 0, 0, [], (0, [], [], ()), s, ()), ([101, 110, 100, 115], 7, 0, 0, [], (0, [], [], ()), e, ())]), (2, AObj.arr 9 Ty.str 0 false [[120]]), (3, AObj.box (AV.d Y0 (t, d, x, ()))), (4, AObj.arr 2 (i64T) 0 false s), (5, AObj.box ((I 0).pr (AV.nils.pr (AV.nils.pr (AV.d Ty.unit PUnit.unit))))), (6, AObj.arr 2 (i64T) 0 false a)], nx := 10 } k else (idx vs (axV v2 (Int.ofNat d.length))).bind fun v16 => (vs[(axV v2 (Int.ofNat d.length)).toNat]?).bind fun v17 => bif decide (IntKind.i64.wrap (f + IntKind.i64.wrap ((if v4 > 0 then v4 else 0) * v17)) ≥ 65536) then lpH gSv cf_msv [4, 10] hl (cL (cL (cR (cL (cR (cR (cR (cR (cR C_msv))))))))) n { fr := mkFr 7 [(2, AV.os 0 0), (4, AV.op 3 [] 0), (7, AV.os 4 0), (10, AV.op 5 [] 0), (32, AV.os 6 0), (33, I (Int.ofNat a.length)), (34, I (IntKind.i64.wrap (i + 1)))], hp := [(0, AObj.arr 3 (i64T) 0 false w), (1, AObj.arr 37 (Ty.str.pair ((i64T).pair ((i64T).pair ((i64T).pair (Ty.str.pair (Y0.pair ((i64T).slice.pair Ty.unit))))))) 0 true [([115, 116, 97, 114, 116, 115], 7, 0, 0, [], (0, [], [], ()), s, ()), ([101, 110, 100, 115], 7, 0, 0, [], (0, [], [], ()), e, ())]), (2, AObj.arr 9 Ty.str 0 false [[120]]), (3, AObj.box (AV.d Y0 (t, d, x, ()))), (4, AObj.arr 2 (i64T) 0 false s), (5, AObj.box ((I 0).pr (AV.nils.pr (AV.nils.pr (AV.d Ty.unit PUnit.unit))))), (6, AObj.arr 2 (i64T) 0 false a)], nx := 10 } k else  bif decide (vd ≠ [] ∧ vd.length ≤ 65536) then  bif decide (vs ≠ [] ∧ vs.length ≤ 65536) then (idx vs (axV v2 (Int.ofNat d.length))).bind fun v21 => (vs[(axV v2 (Int.ofNat d.length)).toNat]?).bind fun v22 => (idx vd (axV v2 (Int.ofNat d.length))).bind fun v23 => (setN vd (axV v2 (Int.ofNat d.length)).toNat (IntKind.i64.wrap (IntKind.i64.wrap ((if v4 > 0 then v4 else 0) + v7) - if v4 > 0 then v4 else 0))).bind fun v24 => lpH gSv cf_msv [4, 10] hl (cL (cL (cR (cL (cR (cR (cR (cR (cR C_msv))))))))) n { fr := mkFr 7 [(2, AV.os 0 0), (4, AV.op 3 [] 0), (7, AV.os 4 0), (10, AV.op 5 [] 0), (32, AV.os 8 0), (33, I (Int.ofNat a.length)), (34, I (IntKind.i64.wrap (i + 1)))], hp := [(0, AObj.arr 3 (i64T) 0 false w), (1, AObj.arr 37 (Ty.str.pair ((i64T).pair ((i64T).pair ((i64T).pair (Ty.str.pair (Y0.pair ((i64T).slice.pair Ty.unit))))))) 0 true [([115, 116, 97, 114, 116, 115], 7, 0, 0, [], (0, [], [], ()), s, ()), ([101, 110, 100, 115], 7, 0, 0, [], (0, [], [], ()), e, ())]), (2, AObj.arr 9 Ty.str 0 false [[120]]), (3, AObj.box (AV.d Y0 (t, d, x, ()))), (4, AObj.arr 2 (i64T) 0 false s), (5, AObj.box ((I (IntKind.i64.wrap (f + IntKind.i64.wrap ((if v4 > 0 then v4 else 0) * v22)))).pr ((AV.os 6 0).pr ((AV.os 7 0).pr (AV.d Ty.unit PUnit.unit))))), (6, AObj.arr 3 (i64T) 0 false v24), (7, AObj.arr 3 (i64T) 0 false vs), (8, AObj.arr 2 (i64T) 0 false a)], nx := 12 } k else none else none else none else k (AEx.exit 2) { fr := mkFr 7 [(2, AV.os 0 0), (4, AV.op 3 [] 0), (7, AV.os 4 0), (10, AV.op 5 [] 0), (32, AV.os 8 0), (33, I (Int.ofNat a.length)), (34, I i), (35, B false)], hp := [(0, AObj.arr 3 (i64T) 0 false w), (1, AObj.arr 37 (Ty.str.pair ((i64T).pair ((i64T).pair ((i64T).pair (Ty.str.pair (Y0.pair ((i64T).slice.pair Ty.unit))))))) 0 true [([115, 116, 97, 114, 116, 115], 7, 0, 0, [], (0, [], [], ()), s, ()), ([101, 110, 100, 115], 7, 0, 0, [], (0, [], [], ()), e, ())]), (2, AObj.arr 9 Ty.str 0 false [[120]]), (3, AObj.box (AV.d Y0 (t, d, x, ()))), (4, AObj.arr 2 (i64T) 0 false s), (5, AObj.box ((I f).pr ((AV.os 6 0).pr ((AV.os 7 0).pr (AV.d Ty.unit PUnit.unit))))), (6, AObj.arr 3 (i64T) 0 false vd), (7, AObj.arr 3 (i64T) 0 false vs), (8, AObj.arr 2 (i64T) 0 false a)], nx := 12 } := by kernel_rfl
theorem vs_st (t : Int) (s e d w x : List Int) (f : Int) (vd vs a : List Int) (i : Int) (n : Nat) {R : Type} (k : AEx → LSt → Option R) : lp gSv cf_msv (cL (cL (cR (cL (cR (cR (cR (cR (cR C_msv))))))))) (n + 1) (stVs t s e d w x f vd vs a 12 i) k = bif decide (i < Int.ofNat a.length) then (idx a i).bind fun v1 => (a[i.toNat]?).bind fun v2 => (idx s i).bind fun v3 => (s[i.toNat]?).bind fun v4 => bif decide (v4 < 0) then (idx d (axV v2 (Int.ofNat d.length))).bind fun v6 => (idx w (axV v2 (Int.ofNat d.length))).bind fun v7 => (w[(axV v2 (Int.ofNat d.length)).toNat]?).bind fun v8 => bif okFine f vd vs then  bif decide (axV v2 (Int.ofNat d.length) < 0) then lp gSv cf_msv (cL (cL (cR (cL (cR (cR (cR (cR (cR C_msv))))))))) n { fr := mkFr 7 [(2, AV.os 0 0), (4, AV.op 3 [] 0), (7, AV.os 4 0), (10, AV.op 5 [] 0), (32, AV.os 6 0), (33, I (Int.ofNat a.length)), (34, I (IntKind.i64.wrap (i + 1)))], hp := [(0, AObj.arr 3 (i64T) 0 false w), (1, AObj.arr 37 (Ty.str.pair ((i64T).pair ((i64T).pair ((i64T).pair (Ty.str.pair (Y0.pair ((i64T).slice.pair Ty.unit))))))) 0 true [([115, 116, 97, 114, 116, 115], 7, 0, 0, [], (0, [], [], ()), s, ()), ([101, 110, 100, 115], 7, 0, 0, [], (0, [], [], ()), e, ())]), (2, AObj.arr 9 Ty.str 0 false [[120]]), (3, AObj.box (AV.d Y0 (t, d, x, ()))), (4, AObj.arr 2 (i64T) 0 false s), (5, AObj.box ((I 0).pr (AV.nils.pr (AV.nils.pr (AV.d Ty.unit PUnit.unit))))), (6, AObj.arr 2 (i64T) 0 false a)], nx := 10 } k else  bif decide (axV v2 (Int.ofNat d.length) ≥ Int.ofNat vd.length) then lp gSv cf_msv (cL (cL (cR (cL (cR (cR (cR (cR (cR C_msv))))))))) n { fr := mkFr 7 [(2, AV.os 0 0), (4, AV.op 3 [] 0), (7, AV.os 4 0), (10, AV.op 5 [] 0), (32, AV.os 6 0), (33, I (Int.ofNat a.length)), (34, I (IntKind.i64.wrap (i + 1)))], hp := [(0, AObj.arr 3 (i64T) 0 false w), (1, AObj.arr 37 (Ty.str.pair ((i64T).pair ((i64T).pair ((i64T).pair (Ty.str.pair (Y0.pair ((i64T).slice.pair Ty.unit))))))) 0 true [([115, 116, 97, 114, 116, 115], 7, 0, 0, [], (0, [], [], ()), s, ()), ([101, 110, 100, 115], 7, 0, 0, [], (0, [], [], ()), e, ())]), (2, AObj.arr 9 Ty.str 0 false [[120]]), (3, AObj.box (AV.d Y0 (t, d, x, ()))), (4, AObj.arr 2 (i64T) 0 false s), (5, AObj.box ((I 0).pr (AV.nils.pr (AV.nils.pr (AV.d Ty.unit PUnit.unit))))), (6, AObj.arr 2 (i64T) 0 false a)], nx := 10 } k else  bif decide ((if IntKind.i64.wrap (v4 + v6) > 0 then IntKind.i64.wrap (v4 + v6) else 0) < 0) then lp gSv cf_msv (cL (cL (cR (cL (cR (cR (cR (cR (cR C_msv))))))))) n { fr := mkFr 7 [(2, AV.os 0 0), (4, AV.op 3 [] 0), (7, AV.os 4 0), (10, AV.op 5 [] 0), (32, AV.os 6 0), (33, I (Int.ofNat a.length)), (34, I (IntKind.i64.wrap (i + 1)))], hp := [(0, AObj.arr 3 (i64T) 0 false w), (1, AObj.arr 37 (Ty.str.pair ((i64T).pair ((i64T).pair ((i64T).pair (Ty.str.pair (Y0.pair ((i64T).slice.pair Ty.unit))))))) 0 true [([115, 116, 97, 114, 116, 115], 7, 0, 0, [], (0, [], [], ()), s, ()), ([101, 110, 100, 115], 7, 0, 0, [], (0, [], [], ()), e, ())]), (2, AObj.arr 9 Ty.str 0 false [[120]]), (3, AObj.box (AV.d Y0 (t, d, x, ()))), (4, AObj.arr 2 (i64T) 0 false s), (5, AObj.box ((I 0).pr (AV.nils.pr (AV.nils.pr (AV.d Ty.unit PUnit.unit))))), (6, AObj.arr 2 (i64T) 0 false a)], nx := 10 } k else (idx vd (axV v2 (Int.ofNat d.length))).bind fun v13 => (vd[(axV v2 (Int.ofNat d.length)).toNat]?).bind fun v14 => bif decide (IntKind.i64.wrap ((if IntKind.i64.wrap (v4 + v6) > 0 then IntKind.i64.wrap (v4 + v6) else 0) + v8) > v14) then lp gSv cf_msv (cL (cL (cR (cL (cR (cR (cR (cR (cR C_msv))))))))) n { fr := mkFr 7 [(2, AV.os 0 0), (4, AV.op 3 [] 0), (7, AV.os 4 0), (10, AV.op 5 [] 0), (32, AV.os 6 0), (33, I (Int.ofNat a.length)), (34, I (IntKind.i64.wrap (i + 1)))], hp := [(0, AObj.arr 3 (i64T) 0 false w), (1, AObj.arr 37 (Ty.str.pair ((i64T).pair ((i64T).pair ((i64T).pair (Ty.str.pair (Y0.pair ((i64T).slice.pair Ty.unit))))))) 0 true [([115, 116, 97, 114, 116, 115], 7, 0, 0, [], (0, [], [], ()), s, ()), ([101, 110, 100, 115], 7, 0, 0, [], (0, [], [], ()), e, ())]), (2, AObj.arr 9 Ty.str 0 false [[120]]), (3, AObj.box (AV.d Y0 (t, d, x, ()))), (4, AObj.arr 2 (i64T) 0 false s), (5, AObj.box ((I 0).pr (AV.nils.pr (AV.nils.pr (AV.d Ty.unit PUnit.unit))))), (6, AObj.arr 2 (i64T) 0 false a)], nx := 10 } k else  bif decide ((if IntKind.i64.wrap (v4 + v6) > 0 then IntKind.i64.wrap (v4 + v6) else 0) ≥ IntKind.i64.wrap ((if IntKind.i64.wrap (v4 + v6) > 0 then IntKind.i64.wrap (v4 + v6) else 0) + v8)) then lp gSv cf_msv (cL (cL (cR (cL (cR (cR (cR (cR (cR C_msv))))))))) n { fr := mkFr 7 [(2, AV.os 0 0), (4, AV.op 3 [] 0), (7, AV.os 4 0), (10, AV.op 5 [] 0), (32, AV.os 6 0), (33, I (Int.ofNat a.length)), (34, I (IntKind.i64.wrap (i + 1)))], hp := [(0, AObj.arr 3 (i64T) 0 false w), (1, AObj.arr 37 (Ty.str.pair ((i64T).pair ((i64T).pair ((i64T).pair (Ty.str.pair (Y0.pair ((i64T).slice.pair Ty.unit))))))) 0 true [([115, 116, 97, 114, 116, 115], 7, 0, 0, [], (0, [], [], ()), s, ()), ([101, 110, 100, 115], 7, 0, 0, [], (0, [], [], ()), e, ())]), (2, AObj.arr 9 Ty.str 0 false [[120]]), (3, AObj.box (AV.d Y0 (t, d, x, ()))), (4, AObj.arr 2 (i64T) 0 false s), (5, AObj.box ((I 0).pr (AV.nils.pr (AV.nils.pr (AV.d Ty.unit PUnit.unit))))), (6, AObj.arr 2 (i64T) 0 false a)], nx := 10 } k else (idx vs (axV v2 (Int.ofNat d.length))).bind fun v17 => (vs[(axV v2 (Int.ofNat d.length)).toNat]?).bind fun v18 => bif decide (IntKind.i64.wrap (f + IntKind.i64.wrap ((if IntKind.i64.wrap (v4 + v6) > 0 then IntKind.i64.wrap (v4 + v6) else 0) * v18)) ≥ 65536) then lp gSv cf_msv (cL (cL (cR (cL (cR (cR (cR (cR (cR C_msv))))))))) n { fr := mkFr 7 [(2, AV.os 0 0), (4, AV.op 3 [] 0), (7, AV.os 4 0), (10, AV.op 5 [] 0), (32, AV.os 6 0), (33, I (Int.ofNat a.length)), (34, I (IntKind.i64.wrap (i + 1)))], hp := [(0, AObj.arr 3 (i64T) 0 false w), (1, AObj.arr 37 (Ty.str.pair ((i64T).pair ((i64T).pair ((i64T).pair (Ty.str.pair (Y0.pair ((i64T).slice.pair Ty.unit))))))) 0 true [([115, 116, 97, 114, 116, 115], 7, 0, 0, [], (0, [], [], ()), s, ()), ([101, 110, 100, 115], 7, 0, 0, [], (0, [], [], ()), e, ())]), (2, AObj.arr 9 Ty.str 0 false [[120]]), (3, AObj.box (AV.d Y0 (t, d, x, ()))), (4, AObj.arr 2 (i64T) 0 false s), (5, AObj.box ((I 0).pr (AV.nils.pr (AV.nils.pr (AV.d Ty.unit PUnit.unit))))), (6, AObj.arr 2 (i64T) 0 false a)], nx := 10 } k else  bif decide (vd ≠ [] ∧ vd.length ≤ 65536) then  bif decide (vs ≠ [] ∧ vs.length ≤ 65536) then (idx vs (axV v2 (Int.ofNat d.length))).bind fun v22 => (vs[(axV v2 (Int.ofNat d.length)).toNat]?).bind fun v23 => (idx vd (axV v2 (Int.ofNat d.length))).bind fun v24 => (setN vd (axV v2 (Int.ofNat d.length)).toNat (IntKind.i64.wrap (IntKind.i64.wrap ((if IntKind.i64.wrap (v4 + v6) > 0 then IntKind.i64.wrap (v4 + v6) else 0) + v8) - if IntKind.i64.wrap (v4 + v6) > 0 then IntKind.i64.wrap (v4 + v6) else 0))).bind fun v25 => lp gSv cf_msv (cL (cL (cR (cL (cR (cR (cR (cR (cR C_msv))))))))) n { fr := mkFr 7 [(2, AV.os 0 0), (4, AV.op 3 [] 0), (7, AV.os 4 0), (10, AV.op 5 [] 0), (32, AV.os 8 0), (33, I (Int.ofNat a.length)), (34, I (IntKind.i64.wrap (i + 1)))], hp := [(0, AObj.arr 3 (i64T) 0 false w), (1, AObj.arr 37 (Ty.str.pair ((i64T).pair ((i64T).pair ((i64T).pair (Ty.str.pair (Y0.pair ((i64T).slice.pair Ty.unit))))))) 0 true [([115, 116, 97, 114, 116, 115], 7, 0, 0, [], (0, [], [], ()), s, ()), ([101, 110, 100, 115], 7, 0, 0, [], (0, [], [], ()), e, ())]), (2, AObj.arr 9 Ty.str 0 false [[120]]), (3, AObj.box (AV.d Y0 (t, d, x, ()))), (4, AObj.arr 2 (i64T) 0 false s), (5, AObj.box ((I (IntKind.i64.wrap (f + IntKind.i64.wrap ((if IntKind.i64.wrap (v4 + v6) > 0 then IntKind.i64.wrap (v4 + v6) else 0) * v23)))).pr ((AV.os 6 0).pr ((AV.os 7 0).pr (AV.d Ty.unit PUnit.unit))))), (6, AObj.arr 3 (i64T) 0 false v25), (7, AObj.arr 3 (i64T) 0 false vs), (8, AObj.arr 2 (i64T) 0 false a)], nx := 12 } k else none else none else none else (idx w (axV v2 (Int.ofNat d.length))).bind fun v6 => (w[(axV v2 (Int.ofNat d.length)).toNat]?).bind fun v7 => bif okFine f vd vs then  bif decide (axV v2 (Int.ofNat d.length) < 0) then lp gSv cf_msv (cL (cL (cR (cL (cR (cR (cR (cR (cR C_msv))))))))) n { fr := mkFr 7 [(2, AV.os 0 0), (4, AV.op 3 [] 0), (7, AV.os 4 0), (10, AV.op 5 [] 0), (32, AV.os 6 0), (33, I (Int.ofNat a.length)), (34, I (IntKind.i64.wrap (i + 1)))], hp := [(0, AObj.arr 3 (i64T) 0 false w), (1, AObj.arr 37 (Ty.str.pair ((i64T).pair ((i64T).pair ((i64T).pair (Ty.str.pair (Y0.pair ((i64T).slice.pair Ty.unit))))))) 0 true [([115, 116, 97, 114, 116, 115], 7, 0, 0, [], (0, [], [], ()), s, ()), ([101, 110, 100, 115], 7, 0, 0, [], (0, [], [], ()), e, ())]), (2, AObj.arr 9 Ty.str 0 false [[120]]), (3, AObj.box (AV.d Y0 (t, d, x, ()))), (4, AObj.arr 2 (i64T) 0 false s), (5, AObj.box ((I 0).pr (AV.nils.pr (AV.nils.pr (AV.d Ty.unit PUnit.unit))))), (6, AObj.arr 2 (i64T) 0 false a)], nx := 10 } k else  bif decide (axV v2 (Int.ofNat d.length) ≥ Int.ofNat vd.length) then lp gSv cf_msv (cL (cL (cR (cL (cR (cR (cR (cR (cR C_msv))))))))) n { fr := mkFr 7 [(2, AV.os 0 0), (4, AV.op 3 [] 0), (7, AV.os 4 0), (10, AV.op 5 [] 0), (32, AV.os 6 0), (33, I (Int.ofNat a.length)), (34, I (IntKind.i64.wrap (i + 1)))], hp := [(0, AObj.arr 3 (i64T) 0 false w), (1, AObj.arr 37 (Ty.str.pair ((i64T).pair ((i64T).pair ((i64T).pair (Ty.str.pair (Y0.pair ((i64T).slice.pair Ty.unit))))))) 0 true [([115, 116, 97, 114, 116, 115], 7, 0, 0, [], (0, [], [], ()), s, ()), ([101, 110, 100, 115], 7, 0, 0, [], (0, [], [], ()), e, ())]), (2, AObj.arr 9 Ty.str 0 false [[120]]), (3, AObj.box (AV.d Y0 (t, d, x, ()))), (4, AObj.arr 2 (i64T) 0 false s), (5, AObj.box ((I 0).pr (AV.nils.pr (AV.nils.pr (AV.d Ty.unit PUnit.unit))))), (6, AObj.arr 2 (i64T) 0 false a)], nx := 10 } k else  bif decide ((if v4 > 0 then v4 else 0) < 0) then lp gSv cf_msv (cL (cL (cR (cL (cR (cR (cR (cR (cR C_msv))))))))) n { fr := mkFr 7 [(2, AV.os 0 0), (4, AV.op 3 [] 0), (7, AV.os 4 0), (10, AV.op 5 [] 0), (32, AV.os 6 0), (33, I (Int.ofNat a.length)), (34, I (IntKind.i64.wrap (i + 1)))], hp := [(0, AObj.arr 3 (i64T) 0 false w), (1, AObj.arr 37 (Ty.str.pair ((i64T).pair ((i64T).pair ((i64T).pair (Ty.str.pair (Y0.pair ((i64T).slice.pair Ty.unit))))))) 0 true [([115, 116, 97, 114, 116, 115], 7, 0, 0, [], (0, [], [], ()), s, ()), ([101, 110, 100, 115], 7, 0, 0, [], (0, [], [], ()), e, ())]), (2, AObj.arr 9 Ty.str 0 false [[120]]), (3, AObj.box (AV.d Y0 (t, d, x, ()))), (4, AObj.arr 2 (i64T) 0 false s), (5, AObj.box ((I 0).pr (AV.nils.pr (AV.nils.pr (AV.d Ty.unit PUnit.unit))))), (6, AObj.arr 2 (i64T) 0 false a)], nx := 10 } k else (idx vd (axV v2 (Int.ofNat d.length))).bind fun v12 => (vd[(axV v2 (Int.ofNat d.length)).toNat]?).bind fun v13 => bif decide (IntKind.i64.wrap ((if v4 > 0 then v4 else 0) + v7) > v13) then lp gSv cf_msv (cL (cL (cR (cL (cR (cR (cR (cR (cR C_msv))))))))) n { fr := mkFr 7 [(2, AV.os 0 0), (4, AV.op 3 [] 0), (7, AV.os 4 0), (10, AV.op 5 [] 0), (32, AV.os 6 0), (33, I (Int.ofNat a.length)), (34, I (IntKind.i64.wrap (i + 1)))], hp := [(0, AObj.arr 3 (i64T) 0 false w), (1, AObj.arr 37 (Ty.str.pair ((i64T).pair ((i64T).pair ((i64T).pair (Ty.str.pair (Y0.pair ((i64T).slice.pair Ty.unit))))))) 0 true [([115, 116, 97, 114, 116, 115], 7, 0, 0, [], (0, [], [], ()), s, ()), ([101, 110, 100, 115], 7, 0, 0, [], (0, [], [], ()), e, ())]), (2, AObj.arr 9 Ty.str 0 false [[120]]), (3, AObj.box (AV.d Y0 (t, d, x, ()))), (4, AObj.arr 2 (i64T) 0 false s), (5, AObj.box ((I 0).pr (AV.nils.pr (AV.nils.pr (AV.d Ty.unit PUnit.unit))))), (6, AObj.arr 2 (i64T) 0 false a)], nx := 10 } k else  bif decide ((if v4 > 0 then v4 else 0) ≥ IntKind.i64.wrap ((if v4 > 0 then v4 else 0) + v7)) then lp gSv cf_msv (cL (cL (cR (cL (cR (cR (cR (cR (cR C_msv))))))))) n { fr := mkFr 7 [(2, AV.os 0 0), (4, AV.op 3 [] 0), (7, AV.os 4 0), (10, AV.op 5 [] 0), (32, AV.os 6 0), (33, I (Int.ofNat a.length)), (34, I (IntKind.i64.wrap (i + 1)))], hp := [(0, AObj.arr 3 (i64T) 0 false w), (1, AObj.arr 37 (Ty.str.pair ((i64T).pair ((i64T).pair ((i64T).pair (Ty.str.pair (Y0.pair ((i64T).slice.pair Ty.unit))))))) 0 true [([115, 116, 97, 114, 116, 115], 7, 0, 0, [], (0, [], [], ()), s, ()), ([101, 110, 100, 115], 7, 0, 0, [], (0, [], [], ()), e, ())]), (2, AObj.arr 9 Ty.str 0 false [[120]]), (3, AObj.box (AV.d Y0 (t, d, x, ()))), (4, AObj.arr 2 (i64T) 0 false s), (5, AObj.box ((I 0).pr (AV.nils.pr (AV.nils.pr (AV.d Ty.unit PUnit.unit))))), (6, AObj.arr 2 (i64T) 0 false a)], nx := 10 } k else (idx vs (axV v2 (Int.ofNat d.length))).bind fun v16 => (vs[(axV v2 (Int.ofNat d.length)).toNat]?).bind fun v17 => bif decide (IntKind.i64.wrap (f + IntKind.i64.wrap ((if v4 > 0 then v4 else 0) * v17)) ≥ 65536) then lp gSv cf_msv (cL (cL (cR (cL (cR (cR (cR (cR (cR C_msv))))))))) n { fr := mkFr 7 [(2, AV.os 0 0), (4, AV.op 3 [] 0), (7, AV.os 4 0), (10, AV.op 5 [] 0), (32, AV.os 6 0), (33, I (Int.ofNat a.length)), (34, I (IntKind.i64.wrap (i + 1)))], hp := [(0, AObj.arr 3 (i64T) 0 false w), (1, AObj.arr 37 (Ty.str.pair ((i64T).pair ((i64T).pair ((i64T).pair (Ty.str.pair (Y0.pair ((i64T).slice.pair Ty.unit))))))) 0 true [([115, 116, 97, 114, 116, 115], 7, 0, 0, [], (0, [], [], ()), s, ()), ([101, 110, 100, 115], 7, 0, 0, [], (0, [], [], ()), e, ())]), (2, AObj.arr 9 Ty.str 0 false [[120]]), (3, AObj.box (AV.d Y0 (t, d, x, ()))), (4, AObj.arr 2 (i64T) 0 false s), (5, AObj.box ((I 0).pr (AV.nils.pr (AV.nils.pr (AV.d Ty.unit PUnit.unit))))), (6, AObj.arr 2 (i64T) 0 false a)], nx := 10 } k else  bif decide (vd ≠ [] ∧ vd.length ≤ 65536) then  bif decide (vs ≠ [] ∧ vs.length ≤ 65536) then (idx vs (axV v2 (Int.ofNat d.length))).bind fun v21 => (vs[(axV v2 (Int.ofNat d.length)).toNat]?).bind fun v22 => (idx vd (axV v2 (Int.ofNat d.length))).bind fun v23 => (setN vd (axV v2 (Int.ofNat d.length)).toNat (IntKind.i64.wrap (IntKind.i64.wrap ((if v4 > 0 then v4 else 0) + v7) - if v4 > 0 then v4 else 0))).bind fun v24 => lp gSv cf_msv (cL (cL (cR (cL (cR (cR (cR (cR (cR C_msv))))))))) n { fr := mkFr 7 [(2, AV.os 0 0), (4, AV.op 3 [] 0), (7, AV.os 4 0), (10, AV.op 5 [] 0), (32, AV.os 8 0), (33, I (Int.ofNat a.length)), (34, I (IntKind.i64.wrap (i + 1)))], hp := [(0, AObj.arr 3 (i64T) 0 false w), (1, AObj.arr 37 (Ty.str.pair ((i64T).pair ((i64T).pair ((i64T).pair (Ty.str.pair (Y0.pair ((i64T).slice.pair Ty.unit))))))) 0 true [([115, 116, 97, 114, 116, 115], 7, 0, 0, [], (0, [], [], ()), s, ()), ([101, 110, 100, 115], 7, 0, 0, [], (0, [], [], ()), e, ())]), (2, AObj.arr 9 Ty.str 0 false [[120]]), (3, AObj.box (AV.d Y0 (t, d, x, ()))), (4, AObj.arr 2 (i64T) 0 false s), (5, AObj.box ((I (IntKind.i64.wrap (f + IntKind.i64.wrap ((if v4 > 0 then v4 else 0) * v22)))).pr ((AV.os 6 0).pr ((AV.os 7 0).pr (AV.d Ty.unit PUnit.unit))))), (6, AObj.arr 3 (i64T) 0 false v24), (7, AObj.arr 3 (i64T) 0 false vs), (8, AObj.arr 2 (i64T) 0 false a)], nx := 12 } k else none else none else none else k (AEx.exit 2) { fr := mkFr 7 [(2, AV.os 0 0), (4, AV.op 3 [] 0), (7, AV.os 4 0), (10, AV.op 5 [] 0), (32, AV.os 8 0), (33, I (Int.ofNat a.length)), (34, I i), (35, B false)], hp := [(0, AObj.arr 3 (i64T) 0 false w), (1, AObj.arr 37 (Ty.str.pair ((i64T).pair ((i64T).pair ((i64T).pair (Ty.str.pair (Y0.pair ((i64T).slice.pair Ty.unit))))))) 0 true [([115, 116, 97, 114, 116, 115], 7, 0, 0, [], (0, [], [], ()), s, ()), ([101, 110, 100, 115], 7, 0, 0, [], (0, [], [], ()), e, ())]), (2, AObj.arr 9 Ty.str 0 false [[120]]), (3, AObj.box (AV.d Y0 (t, d, x, ()))), (4, AObj.arr 2 (i64T) 0 false s), (5, AObj.box ((I f).pr ((AV.os 6 0).pr ((AV.os 7 0).pr (AV.d Ty.unit PUnit.unit))))), (6, AObj.arr 3 (i64T) 0 false vd), (7, AObj.arr 3 (i64T) 0 false vs), (8, AObj.arr 2 (i64T) 0 false a)], nx := 12 } := by
  have h := vs_stH (hlp gSv cf_msv) t s e d w x f vd vs a i n k
  simp only [lpH_lp] at h
  exact h
noncomputable def KVs : AEx → LSt → Option (AEnd × LHp) := (blkK 2 (seqH gSv cf_msv [4, 10] (hlp gSv cf_msv) (cR (cR (cR (cR (cR (cR C_msv)))))) (endC Tryz.prog 3 Tryz.f48.results.toList ah)))
theorem vs_ex (t : Int) (s e d w x : List Int) (f : Int) (vd vs a : List Int) (i : Int) : KVs (.exit 2) { fr := mkFr 7 [(2, AV.os 0 0), (4, AV.op 3 [] 0), (7, AV.os 4 0), (10, AV.op 5 [] 0), (32, AV.os 8 0), (33, I (Int.ofNat a.length)), (34, I i), (35, B false)], hp := hpVs t s e d w x f vd vs a, nx := 12 } = bif okRG f vd vs x then some (AEnd.ret [AV.os 3 0], [(0, AObj.arr 3 (i64T) 0 false w), (1, AObj.arr 37 (Ty.str.pair ((i64T).pair ((i64T).pair ((i64T).pair (Ty.str.pair (Y0.pair ((i64T).slice.pair Ty.unit))))))) 0 true [([115, 116, 97, 114, 116, 115], 7, 0, 0, [], (0, [], [], ()), s, ()), ([101, 110, 100, 115], 7, 0, 0, [], (0, [], [], ()), e, ())]), (2, AObj.arr 9 Ty.str 0 false [[120]]), (3, AObj.arr 2 (i64T) 0 false (rdG f vd vs x))]) else none := by kernel_rfl
end Go.Proofs.XGT
namespace Go.Proofs.XGT
open Go.Vm Go
set_option maxRecDepth 100000
set_option maxHeartbeats 4000000
/-- the numbers below n -/
def upto (n : Nat) : List Int := tab n fun j => (j : Int)
theorem upto_at {n i : Nat} (h : i < n) : idx (upto n) (Int.ofNat i) = some (Int.ofNat i) ∧ (upto n)[(Int.ofNat i).toNat]? = some (Int.ofNat i) := by
  have q := getV (l := upto n) (p := i) (by unfold upto; rw [tab_length]; exact h)
  have g : (upto n)[i]? = some (Int.ofNat i) := tab_get h
  exact ⟨q.1.trans (q.2.symm.trans g), g⟩
/-- starts and lengths within dims -/
def fitN : List Nat → List Nat → List Nat → Prop
  | [], [], [] => True
  | f :: r, w :: u, d :: v => f + w ≤ d ∧ 1 ≤ w ∧ fitN r u v
  | _, _, _ => False
theorem fitN_len : ∀ {f w d : List Nat}, fitN f w d → f.length = d.length ∧ w.length = d.length
  | [], [], [], _ => ⟨rfl, rfl⟩
  | _ :: _, _ :: _, _ :: _, h => ⟨by simp only [List.length_cons, (fitN_len h.2.2).1], by simp only [List.length_cons, (fitN_len h.2.2).2]⟩
theorem mx0 (g : Nat) : (if ((g : Nat) : Int) > 0 then ((g : Nat) : Int) else 0) = ((g : Nat) : Int) := by
  split
  · rfl
  · omega
theorem axV_at (i : Nat) (r : Int) : axV (Int.ofNat i) r = Int.ofNat i := by
  unfold axV
  rw [decide_eq_false (show ¬ (Int.ofNat i < 0) by simp only [Int.ofNat_eq_natCast]; omega), cond_false]
theorem ints_ne {a : List Int} {x : Int} {b : List Int} : a ++ x :: b ≠ [] := by simp
theorem vs_lp {t : Int} {e x : List Int} : ∀ (Dr Fr Wr Dp Fp Wp Sp : List Nat) (f n : Nat), Fp.length = Dp.length → Wp.length = Dp.length → Sp.length = Dp.length → fitN Fr Wr Dr → (∀ y ∈ Wp, 1 ≤ y) → (∀ y ∈ Dr, 1 ≤ y) → prodN (Wp ++ Dr) ≤ 65536 → (∀ y ∈ Sp, y ≤ 65536) → f + dot Fr (strN Dr) < 65536 → Dp.length + Dr.length ≤ 6 → Dr.length < n →
    lp gSv cf_msv (cL (cL (cR (cL (cR (cR (cR (cR (cR C_msv))))))))) n (stVs t (ints Fp ++ ints Fr) e (ints Dp ++ ints Dr) (ints Wp ++ ints Wr) x (f : Nat) (ints Wp ++ ints Dr) (ints Sp ++ ints (strN Dr)) (upto (Dp.length + Dr.length)) 12 (Dp.length : Nat)) KVs =
      KVs (.exit 2) { fr := mkFr 7 [(2, AV.os 0 0), (4, AV.op 3 [] 0), (7, AV.os 4 0), (10, AV.op 5 [] 0), (32, AV.os 8 0), (33, I (Int.ofNat (upto (Dp.length + Dr.length)).length)), (34, I ((Dp.length + Dr.length : Nat) : Int)), (35, B false)], hp := hpVs t (ints Fp ++ ints Fr) e (ints Dp ++ ints Dr) (ints Wp ++ ints Wr) x ((f + dot Fr (strN Dr) : Nat) : Int) (ints Wp ++ ints Wr) (ints Sp ++ ints (strN Dr)) (upto (Dp.length + Dr.length)), nx := 12 }
  | [], [], [], Dp, Fp, Wp, Sp, f, n, _, _, _, _, _, _, _, _, _, _, hn => by
    obtain ⟨n, rfl⟩ : ∃ m', n = m' + 1 := ⟨n - 1, by omega⟩
    rw [vs_st, decide_eq_false (show ¬ (((Dp.length : Nat) : Int) < Int.ofNat (upto (Dp.length + ([] : List Nat).length)).length) by unfold upto; rw [tab_length]; simp only [Int.ofNat_eq_natCast, List.length_nil]; omega), cond_false]
    rfl
  | d :: Dr, g :: Fr, w :: Wr, Dp, Fp, Wp, Sp, f, n, h1, h2, h3, hf, hw, hd, hp, hs, ho, h6, hn => by
    obtain ⟨n, rfl⟩ : ∃ m', n = m' + 1 := ⟨n - 1, by omega⟩
    obtain ⟨f1, f2, f3⟩ := hf
    simp only [List.length_cons] at h6 hn
    have d1 := hd d (by simp)
    have hd' : ∀ y ∈ Dr, 1 ≤ y := fun y hy => hd y (by simp [hy])
    have p1 := prodN_pos hd'
    have pw := prodN_pos hw
    have hall : ∀ y ∈ Wp ++ d :: Dr, 1 ≤ y := fun y hy => by
      rcases List.mem_append.1 hy with h | h
      · exact hw y h
      · exact hd y h
    have hdP := le_prodN hall d (by simp)
    have hpd : prodN (d :: Dr) ≤ 65536 := Nat.le_trans (prodN_last (a := Wp) hw) hp
    have hpd' : d * prodN Dr ≤ 65536 := hpd
    have pr1 : prodN Dr ≤ d * prodN Dr := Nat.le_mul_of_pos_left _ d1
    have ho' : f + (g * prodN Dr + dot Fr (strN Dr)) < 65536 := ho
    have hp2 : prodN (Wp ++ w :: Dr) ≤ prodN (Wp ++ d :: Dr) := by
      rw [prodN_app, prodN_app]
      exact Nat.mul_le_mul_left _ (Nat.mul_le_mul_right _ (by omega))
    have key := vs_lp (t := t) (e := e) (x := x) Dr Fr Wr (Dp ++ [d]) (Fp ++ [g]) (Wp ++ [w]) (Sp ++ [prodN Dr]) (f + g * prodN Dr) n (by simp [h1]) (by simp [h2]) (by simp [h3]) f3 (fun y hy => by
      rcases List.mem_append.1 hy with h | h
      · exact hw y h
      · rw [List.mem_singleton.1 h]; exact f2) hd' (by rw [List.append_assoc]; exact Nat.le_trans hp2 hp) (fun y hy => by
      rcases List.mem_append.1 hy with h | h
      · exact hs y h
      · rw [List.mem_singleton.1 h]; omega) (by omega) (by rw [List.length_append, List.length_singleton]; omega) (by omega)
    have hfine : okFine ((f : Nat) : Int) (ints Wp ++ (d : Int) :: ints Dr) (ints Sp ++ ((prodN Dr : Nat) : Int) :: ints (strN Dr)) = true := by
      have := fine_ints (D := Wp ++ d :: Dr) (S := Sp ++ prodN Dr :: strN Dr) hall hp (by rw [List.length_append, List.length_cons]; omega) (by rw [List.length_append, List.length_append, List.length_cons, List.length_cons, strN_len]; omega) (fun y hy => by
        rcases List.mem_append.1 hy with h | h
        · exact hs y h
        · rcases List.mem_cons.1 h with h | h
          · omega
          · exact Nat.le_trans (strN_le hd' y h) (by omega)) (o := f) (by omega)
      rw [ints_app, ints_app, ints_cons, ints_cons] at this
      exact this
    obtain ⟨a1, a2⟩ := upto_at (n := Dp.length + (d :: Dr).length) (i := Dp.length) (by rw [List.length_cons]; omega)
    have lu : (upto (Dp.length + (d :: Dr).length)).length = Dp.length + Dr.length + 1 := by unfold upto; rw [tab_length, List.length_cons]; omega
    have gF : idx (ints Fp ++ (g : Int) :: ints Fr) (Int.ofNat Dp.length) = some (g : Int) := by rw [← h1, ← ints_len Fp]; exact mid_idx
    have gF' : (ints Fp ++ (g : Int) :: ints Fr)[(Int.ofNat Dp.length).toNat]? = some (g : Int) := by rw [← h1, ← ints_len Fp]; exact mid_get
    have gW : idx (ints Wp ++ (w : Int) :: ints Wr) (Int.ofNat Dp.length) = some (w : Int) := by rw [← h2, ← ints_len Wp]; exact mid_idx
    have gW' : (ints Wp ++ (w : Int) :: ints Wr)[(Int.ofNat Dp.length).toNat]? = some (w : Int) := by rw [← h2, ← ints_len Wp]; exact mid_get
    have gV : idx (ints Wp ++ (d : Int) :: ints Dr) (Int.ofNat Dp.length) = some (d : Int) := by rw [← h2, ← ints_len Wp]; exact mid_idx
    have gV' : (ints Wp ++ (d : Int) :: ints Dr)[(Int.ofNat Dp.length).toNat]? = some (d : Int) := by rw [← h2, ← ints_len Wp]; exact mid_get
    have gS : idx (ints Sp ++ ((prodN Dr : Nat) : Int) :: ints (strN Dr)) (Int.ofNat Dp.length) = some ((prodN Dr : Nat) : Int) := by rw [← h3, ← ints_len Sp]; exact mid_idx
    have gS' : (ints Sp ++ ((prodN Dr : Nat) : Int) :: ints (strN Dr))[(Int.ofNat Dp.length).toNat]? = some ((prodN Dr : Nat) : Int) := by rw [← h3, ← ints_len Sp]; exact mid_get
    have gU : setN (ints Wp ++ (d : Int) :: ints Dr) (Int.ofNat Dp.length).toNat (w : Int) = some (ints Wp ++ (w : Int) :: ints Dr) := by rw [← h2, ← ints_len Wp]; exact mid_set
    have w1 : IntKind.i64.wrap ((g : Int) + w) = ((g + w : Nat) : Int) := by rw [wrap64 (by omega) (by omega)]; omega
    have w2 : IntKind.i64.wrap (((g + w : Nat) : Int) - (g : Int)) = (w : Int) := by rw [wrap64 (by omega) (by omega)]; omega
    have w3 : IntKind.i64.wrap ((g : Int) * ((prodN Dr : Nat) : Int)) = ((g * prodN Dr : Nat) : Int) := by rw [← Int.natCast_mul, wrap64 (by omega) (by omega)]
    have w4 : IntKind.i64.wrap (((f : Nat) : Int) + ((g * prodN Dr : Nat) : Int)) = ((f + g * prodN Dr : Nat) : Int) := by rw [wrap64 (by omega) (by omega)]; omega
    have w5 : IntKind.i64.wrap (Int.ofNat Dp.length + 1) = ((Dp.length + 1 : Nat) : Int) := by simp only [Int.ofNat_eq_natCast]; rw [wrap64 (by omega) (by omega)]; omega
    have lv : (ints Wp ++ (d : Int) :: ints Dr).length = Dp.length + Dr.length + 1 := by rw [List.length_append, List.length_cons, ints_len, ints_len]; omega
    have ls : (ints Sp ++ ((prodN Dr : Nat) : Int) :: ints (strN Dr)).length = Dp.length + Dr.length + 1 := by rw [List.length_append, List.length_cons, ints_len, ints_len, strN_len]; omega
    have eF : ints Fp ++ ints (g :: Fr) = ints Fp ++ (g : Int) :: ints Fr := rfl
    have eW : ints Wp ++ ints (w :: Wr) = ints Wp ++ (w : Int) :: ints Wr := rfl
    have eV : ints Wp ++ ints (d :: Dr) = ints Wp ++ (d : Int) :: ints Dr := rfl
    have eS : ints Sp ++ ints (strN (d :: Dr)) = ints Sp ++ ((prodN Dr : Nat) : Int) :: ints (strN Dr) := rfl
    rw [eF, eW, eV, eS, show ((Dp.length : Nat) : Int) = Int.ofNat Dp.length from rfl, vs_st, lu, decide_eq_true (show Int.ofNat Dp.length < Int.ofNat (Dp.length + Dr.length + 1) by simp only [Int.ofNat_eq_natCast]; omega), cond_true, a1, Option.bind_some, a2, Option.bind_some, gF, Option.bind_some, gF', Option.bind_some, decide_eq_false (show ¬ ((g : Int) < 0) by omega), cond_false]
    simp only [axV_at, mx0]
    rw [gW, Option.bind_some, gW', Option.bind_some, hfine, cond_true, decide_eq_false (show ¬ (Int.ofNat Dp.length < 0) by simp only [Int.ofNat_eq_natCast]; omega), cond_false, lv, decide_eq_false (show ¬ (Int.ofNat Dp.length ≥ Int.ofNat (Dp.length + Dr.length + 1)) by simp only [Int.ofNat_eq_natCast]; omega), cond_false, decide_eq_false (show ¬ ((g : Int) < 0) by omega), cond_false, gV, Option.bind_some, gV', Option.bind_some, w1, decide_eq_false (show ¬ (((g + w : Nat) : Int) > (d : Int)) by omega), cond_false, decide_eq_false (show ¬ ((g : Int) ≥ ((g + w : Nat) : Int)) by omega), cond_false, gS, Option.bind_some, gS', Option.bind_some, w3, w4, decide_eq_false (show ¬ (((f + g * prodN Dr : Nat) : Int) ≥ 65536) by omega), cond_false, decide_eq_true (show ints Wp ++ (d : Int) :: ints Dr ≠ [] ∧ Dp.length + Dr.length + 1 ≤ 65536 from ⟨ints_ne, by omega⟩), cond_true, ls, decide_eq_true (show ints Sp ++ ((prodN Dr : Nat) : Int) :: ints (strN Dr) ≠ [] ∧ Dp.length + Dr.length + 1 ≤ 65536 from ⟨ints_ne, by omega⟩), cond_true, Option.bind_some, Option.bind_some, Option.bind_some, w2, gU, Option.bind_some, w5, w3, w4]
    rw [show dot (g :: Fr) (strN (d :: Dr)) = g * prodN Dr + dot Fr (strN Dr) from rfl, ← Nat.add_assoc f]
    simp only [ints_app, List.append_assoc, List.singleton_append, List.length_append, List.length_singleton, Nat.add_assoc, Nat.add_comm 1] at key
    simp only [List.length_cons, Nat.add_assoc]
    have l2 : (upto (Dp.length + (Dr.length + 1))).length = Dp.length + (Dr.length + 1) := tab_length _ _
    unfold stVs at key
    rw [l2] at key
    exact key
  | [], _ :: _, _, _, _, _, _, _, _, _, _, _, hf, _, _, _, _, _, _, _ => by have := (fitN_len hf).1; simp at this
  | [], [], _ :: _, _, _, _, _, _, _, _, _, _, hf, _, _, _, _, _, _, _ => by have := (fitN_len hf).2; simp at this
  | _ :: _, [], _, _, _, _, _, _, _, _, _, _, hf, _, _, _, _, _, _, _ => by have := (fitN_len hf).1; simp at this
  | _ :: _, _ :: _, [], _, _, _, _, _, _, _, _, _, hf, _, _, _, _, _, _, _ => by have := (fitN_len hf).2; simp at this
end Go.Proofs.XGT
namespace Go.Proofs.XGT
open Go.Vm Go
set_option maxRecDepth 100000
set_option maxHeartbeats 4000000
theorem upto_len (n : Nat) : (upto n).length = n := tab_length _ _
theorem upto_succ (n : Nat) : upto (n + 1) = upto n ++ [(n : Int)] := by
  unfold upto tab
  rw [List.range_succ, List.map_append]
  rfl
theorem dot_add : ∀ (a b s : List Nat), a.length = b.length → dot (addN a b) s = dot a s + dot b s
  | [], [], _, _ => by simp [addN, dot]
  | a :: r, b :: t, [], _ => by simp [addN, dot]
  | a :: r, b :: t, s :: u, h => by
    have := dot_add r t u (by simpa using h)
    show (a + b) * s + dot (addN r t) u = a * s + dot r u + (b * s + dot t u)
    rw [this, Nat.add_mul]
    omega
theorem fit_add : ∀ {f w d c : List Nat}, fitN f w d → inb c w → inb (addN c f) d
  | [], [], [], [], _, _ => trivial
  | f :: r, w :: u, d :: v, c :: k, h, g => ⟨by have := h.1; have := g.1; omega, fit_add (f := r) (w := u) (d := v) (c := k) h.2.2 g.2⟩
theorem fit_one : ∀ {f w d : List Nat}, fitN f w d → ∀ y ∈ w, 1 ≤ y
  | [], [], [], _, y, hy => by cases hy
  | f :: r, w :: u, d :: v, h, y, hy => by
    rcases List.mem_cons.1 hy with rfl | hy
    · exact h.2.1
    · exact fit_one (f := r) (w := u) (d := v) h.2.2 y hy
theorem fit_prod : ∀ {f w d : List Nat}, fitN f w d → prodN w ≤ prodN d
  | [], [], [], _ => Nat.le_refl _
  | f :: r, w :: u, d :: v, h => Nat.mul_le_mul (by have := h.1; omega) (fit_prod (f := r) (w := u) (d := v) h.2.2)
theorem fit_at {F W D : List Nat} (h : fitN F W D) {q : Nat} (hq : q < prodN W) : dot F (strN D) + dot (dig W q) (strN D) < prodN D := by
  have g := dot_lt (fit_add h (inb_dig hq))
  obtain ⟨l1, l2⟩ := fitN_len h
  rw [dot_add _ _ _ (by rw [dig_len]; omega)] at g
  omega
theorem sw_lp {t : Int} {s e d w x : List Int} (hl : s.length ≤ 65536) : ∀ (m i n : Nat), i + m = s.length → m < n →
    lp gSv cf_msv (cL (cL (cR (cL (cR (cR (cR C_msv))))))) n (stSo2 t s e d w x (upto i) (i : Nat)) KSw = KSw (.exit 0) { fr := mkFr 7 [(2, AV.os 0 0), (3, AV.op 3 [] 0), (4, AV.op 4 [] 0), (7, AV.os 5 0), (8, AV.os 6 0), (19, I (Int.ofNat s.length)), (20, I ((s.length : Nat) : Int)), (21, B false)], hp := (stSo2 t s e d w x (upto s.length) 0).hp, nx := 10 } := by
  intro m
  induction m with
  | zero =>
    intro i n hi hn
    obtain ⟨n, rfl⟩ : ∃ m', n = m' + 1 := ⟨n - 1, by omega⟩
    obtain rfl : i = s.length := by omega
    rw [sw_st, decide_eq_false (show ¬ (((s.length : Nat) : Int) < Int.ofNat s.length) by simp only [Int.ofNat_eq_natCast]; omega), cond_false]
    rfl
  | succ m ih =>
    intro i n hi hn
    obtain ⟨n, rfl⟩ : ∃ m', n = m' + 1 := ⟨n - 1, by omega⟩
    have key := ih (i + 1) n (by omega) (by omega)
    have w5 : IntKind.i64.wrap ((i : Int) + 1) = ((i + 1 : Nat) : Int) := by rw [wrap64 (by omega) (by omega)]; omega
    have ap : app (upto i) [(i : Int)] = some (upto (i + 1)) := by rw [upto_succ]; exact app_eq (by rw [upto_len]; simp only [List.length_singleton, lim]; omega)
    rw [sw_st, decide_eq_true (show ((i : Int) < Int.ofNat s.length) by simp only [Int.ofNat_eq_natCast]; omega), cond_true, ap, Option.bind_some, w5]
    exact key
theorem msl2_run {t : Int} {D F W : List Nat} {e x : List Int} (hf : fitN F W D) (hD : countE (ints D) = 0) (hne : D ≠ []) (hx : x.length = prodN D) : runC gSv Tryz.f48 7 [(4, [2, 3, 4, 7, 8, 19, 20]), (10, [2, 4, 7, 10, 32, 33, 34])] [nodeA strSL [] [121] (.os 2 0) (.os 1 0), .d (Y0) (t, ints D, x, ()), .os 0 0] (hpS2 (ints F) e (ints W)) ah =
    some (.ret [.os 3 0], hpS2 (ints F) e (ints W) ++ [(3, .arr 2 i64T 0 false (rdG (dot F (strN D) : Nat) (ints W) (ints (strN D)) x))]) := by
  obtain ⟨D', eD', eD2, o1, o2, o3⟩ := nat_dims hD
  rw [ints_toNat] at eD2
  subst eD2
  clear eD'
  obtain ⟨l1, l2⟩ := fitN_len hf
  have hw := fit_one hf
  have hpw := fit_prod hf
  have hpos := prodN_pos hw
  have h0 := fit_at hf (q := 0) hpos
  rw [dot_zero, Nat.add_zero] at h0
  have hfu : fu = 18446744073709551616 := rfl
  have hD1 : 1 ≤ D'.length := by cases D' with
    | nil => exact absurd rfl hne
    | cons _ _ => simp
  obtain ⟨f0, F', rfl⟩ : ∃ f0 F', F = f0 :: F' := by cases F with
    | nil => simp at l1; omega
    | cons a b => exact ⟨a, b, rfl⟩
  have lF : (ints (f0 :: F')).length = D'.length := by rw [ints_len]; exact l1
  rw [ints_cons] at lF ⊢
  obtain ⟨o, om, ho⟩ : ∃ o om, upto ((f0 : Int) :: ints F').length = o :: om := by
    cases hu : upto ((f0 : Int) :: ints F').length with
    | nil => have := congrArg List.length hu; rw [upto_len] at this; simp at this
    | cons a b => exact ⟨a, b, rfl⟩
  have key1 := sw_lp (t := t) (s := (f0 : Int) :: ints F') (e := e) (d := ints D') (w := ints W) (x := x) (by omega) (D'.length - 1) 1 (fu - 1) (by omega) (by omega)
  have key2 := vs_lp (t := t) (e := e) (x := x) D' (f0 :: F') W [] [] [] [] 0 fu rfl rfl rfl hf (fun y hy => by cases hy) o1 (by exact o2) (fun y hy => by cases hy) (by omega) (by rw [List.length_nil]; omega) (by omega)
  have hok : okRG ((dot (f0 :: F') (strN D') : Nat) : Int) (ints W) (ints (strN D')) x = true := by
    unfold okRG
    rw [fine_ints hw (by omega) (by omega) (by rw [strN_len]; omega) (fun y hy => Nat.le_trans (strN_le o1 y hy) o2) (by omega), Bool.true_and]
    refine decide_eq_true fun q hq => ?_
    rw [ints_toNat] at hq
    rw [ints_toNat, ints_toNat, Int.toNat_natCast, hx]
    exact fit_at hf hq
  have happ : app [] ((f0 : Int) :: ints F') = some ((f0 : Int) :: ints F') := app_ok (by omega)
  have happ2 : app [] (o :: om) = some (o :: om) := app_ok (by rw [← ho, upto_len]; omega)
  have e1 : upto 1 = [0] := rfl
  have hst : lp gSv cf_msv (cL (cL (cR (cL (cR (cR (cR C_msv))))))) fu (stSw t ((f0 : Int) :: ints F') e (ints D') (ints W) x 0) KSw = lp gSv cf_msv (cL (cL (cR (cL (cR (cR (cR C_msv))))))) (fu - 1) (stSo2 t ((f0 : Int) :: ints F') e (ints D') (ints W) x (upto 1) ((1 : Nat) : Int)) KSw := by
    have := sw_s0 t ((f0 : Int) :: ints F') e (ints D') (ints W) x (fu - 1) KSw
    rw [decide_eq_true (show (0 : Int) < Int.ofNat ((f0 : Int) :: ints F').length by rw [lF]; simp only [Int.ofNat_eq_natCast]; omega), cond_true] at this
    exact this
  rw [sw_eq, happ, Option.bind_some]
  refine Eq.trans (b := lp gSv cf_msv (cL (cL (cR (cL (cR (cR (cR C_msv))))))) fu (stSw t ((f0 : Int) :: ints F') e (ints D') (ints W) x 0) KSw) (by kernel_rfl) ?_
  rw [hst, key1, ho]
  refine Eq.trans (sw_exH (hlp gSv cf_msv) t ((f0 : Int) :: ints F') e (ints D') (ints W) x o om _) ?_
  rw [decide_eq_true (show countE (ints D') = 0 ∧ ints D' ≠ [] from ⟨hD, fun h => hne (by rw [← ints_toNat D', h]; rfl)⟩), cond_true, happ2, Option.bind_some]
  rw [Nat.zero_add] at key2
  have key3 := key2.trans (vs_ex ..)
  have hok2 : okRG ((dot (f0 :: F') (strN D') : Nat) : Int) (ints [] ++ ints W) (ints [] ++ ints (strN D')) x = true := hok
  rw [hok2, cond_true] at key3
  refine Eq.trans ?_ key3
  rw [strI_ints, ← ho, lF, show ([] : List Nat).length + D'.length = D'.length by simp]
  kernel_rfl
end Go.Proofs.XGT
namespace Go.Proofs.XGT
open Go.Vm Go
set_option maxRecDepth 100000
set_option maxHeartbeats 4000000
theorem sbq1_eq (t s1 e1 d1 : Int) (x : List Int) : runC gSb Tryz.f42 6 [(3, [2, 4, 6, 9, 10, 11])] [nodeA strSL [] [121] (.os 2 0) (.os 1 0), .os 0 0] (hpTb false t [d1] x (at2 [s1] [e1])) ah = bif decide (1 ≤ 9223372036854775807 ∧ x.length ≤ 9223372036854775807) then  bif tenE t [d1] x != 0 then some (AEnd.ret [(AV.d Ty.str []).pr ((I 0).pr (AV.nils.pr (AV.d Ty.unit PUnit.unit))), I 1], [(0, AObj.arr 25 Y0 0 false [(t, [d1], x, ())]), (1, AObj.arr 37 (Ty.str.pair ((i64T).pair ((i64T).pair ((i64T).pair (Ty.str.pair (Y0.pair ((i64T).slice.pair Ty.unit))))))) 0 false [([115, 116, 97, 114, 116, 115], 7, 0, 0, [], (0, [], [], ()), [s1], ()), ([101, 110, 100, 115], 7, 0, 0, [], (0, [], [], ()), [e1], ())]), (2, AObj.arr 9 Ty.str 0 false [[120]])]) else  bif !numOk t 0 then some (AEnd.ret [(AV.d Ty.str []).pr ((I 0).pr (AV.nils.pr (AV.d Ty.unit PUnit.unit))), I 5], [(0, AObj.arr 25 Y0 0 false [(t, [d1], x, ())]), (1, AObj.arr 37 (Ty.str.pair ((i64T).pair ((i64T).pair ((i64T).pair (Ty.str.pair (Y0.pair ((i64T).slice.pair Ty.unit))))))) 0 true [([115, 116, 97, 114, 116, 115], 7, 0, 0, [], (0, [], [], ()), [s1], ()), ([101, 110, 100, 115], 7, 0, 0, [], (0, [], [], ()), [e1], ())]), (2, AObj.arr 9 Ty.str 0 false [[120]])]) else  bif countE [d1] != 0 then some (AEnd.ret [(AV.d Ty.str []).pr ((I 0).pr (AV.nils.pr (AV.d Ty.unit PUnit.unit))), I (countE [d1])], [(0, AObj.arr 25 Y0 0 false [(t, [d1], x, ())]), (1, AObj.arr 37 (Ty.str.pair ((i64T).pair ((i64T).pair ((i64T).pair (Ty.str.pair (Y0.pair ((i64T).slice.pair Ty.unit))))))) 0 true [([115, 116, 97, 114, 116, 115], 7, 0, 0, [], (0, [], [], ()), [s1], ()), ([101, 110, 100, 115], 7, 0, 0, [], (0, [], [], ()), [e1], ())]), (2, AObj.arr 9 Ty.str 0 false [[120]])]) else  bif t == 6 then  bif !decide (IntKind.i64.wrap (bndI e1 d1 - bndI s1 d1) > 0) then some (AEnd.ret [(AV.d Ty.str []).pr ((I 0).pr (AV.nils.pr (AV.d Ty.unit PUnit.unit))), I 4], [(0, AObj.arr 25 Y0 0 false [(t, [d1], x, ())]), (1, AObj.arr 37 (Ty.str.pair ((i64T).pair ((i64T).pair ((i64T).pair (Ty.str.pair (Y0.pair ((i64T).slice.pair Ty.unit))))))) 0 true [([115, 116, 97, 114, 116, 115], 7, 0, 0, [], (0, [], [], ()), [s1], ()), ([101, 110, 100, 115], 7, 0, 0, [], (0, [], [], ()), [e1], ())]), (2, AObj.arr 9 Ty.str 0 false [[120]])]) else  bif countE [IntKind.i64.wrap (bndI e1 d1 - bndI s1 d1)] != 0 then some (AEnd.ret [(AV.d Ty.str []).pr ((I 0).pr (AV.nils.pr (AV.d Ty.unit PUnit.unit))), I (countE [IntKind.i64.wrap (bndI e1 d1 - bndI s1 d1)])], [(0, AObj.arr 25 Y0 0 false [(t, [d1], x, ())]), (1, AObj.arr 37 (Ty.str.pair ((i64T).pair ((i64T).pair ((i64T).pair (Ty.str.pair (Y0.pair ((i64T).slice.pair Ty.unit))))))) 0 true [([115, 116, 97, 114, 116, 115], 7, 0, 0, [], (0, [], [], ()), [s1], ()), ([101, 110, 100, 115], 7, 0, 0, [], (0, [], [], ()), [e1], ())]), (2, AObj.arr 9 Ty.str 0 false [[120]])]) else some (AEnd.ret [(AV.d Ty.str [121]).pr ((I t).pr ((AV.os 3 0).pr (AV.d Ty.unit PUnit.unit))), I 0], [(0, AObj.arr 25 Y0 0 false [(t, [d1], x, ())]), (1, AObj.arr 37 (Ty.str.pair ((i64T).pair ((i64T).pair ((i64T).pair (Ty.str.pair (Y0.pair ((i64T).slice.pair Ty.unit))))))) 0 true [([115, 116, 97, 114, 116, 115], 7, 0, 0, [], (0, [], [], ()), [s1], ()), ([101, 110, 100, 115], 7, 0, 0, [], (0, [], [], ()), [e1], ())]), (2, AObj.arr 9 Ty.str 0 false [[120]]), (3, AObj.arr 3 (i64T) 0 false [IntKind.i64.wrap (bndI e1 d1 - bndI s1 d1)])]) else  bif !decide (IntKind.i64.wrap (bndI e1 d1 - bndI s1 d1) > 0) then some (AEnd.ret [(AV.d Ty.str []).pr ((I 0).pr (AV.nils.pr (AV.d Ty.unit PUnit.unit))), I 4], [(0, AObj.arr 25 Y0 0 false [(t, [d1], x, ())]), (1, AObj.arr 37 (Ty.str.pair ((i64T).pair ((i64T).pair ((i64T).pair (Ty.str.pair (Y0.pair ((i64T).slice.pair Ty.unit))))))) 0 true [([115, 116, 97, 114, 116, 115], 7, 0, 0, [], (0, [], [], ()), [s1], ()), ([101, 110, 100, 115], 7, 0, 0, [], (0, [], [], ()), [e1], ())]), (2, AObj.arr 9 Ty.str 0 false [[120]])]) else  bif countE [IntKind.i64.wrap (bndI e1 d1 - bndI s1 d1)] != 0 then some (AEnd.ret [(AV.d Ty.str []).pr ((I 0).pr (AV.nils.pr (AV.d Ty.unit PUnit.unit))), I (countE [IntKind.i64.wrap (bndI e1 d1 - bndI s1 d1)])], [(0, AObj.arr 25 Y0 0 false [(t, [d1], x, ())]), (1, AObj.arr 37 (Ty.str.pair ((i64T).pair ((i64T).pair ((i64T).pair (Ty.str.pair (Y0.pair ((i64T).slice.pair Ty.unit))))))) 0 true [([115, 116, 97, 114, 116, 115], 7, 0, 0, [], (0, [], [], ()), [s1], ()), ([101, 110, 100, 115], 7, 0, 0, [], (0, [], [], ()), [e1], ())]), (2, AObj.arr 9 Ty.str 0 false [[120]])]) else some (AEnd.ret [(AV.d Ty.str [121]).pr ((I t).pr ((AV.os 3 0).pr (AV.d Ty.unit PUnit.unit))), I 0], [(0, AObj.arr 25 Y0 0 false [(t, [d1], x, ())]), (1, AObj.arr 37 (Ty.str.pair ((i64T).pair ((i64T).pair ((i64T).pair (Ty.str.pair (Y0.pair ((i64T).slice.pair Ty.unit))))))) 0 true [([115, 116, 97, 114, 116, 115], 7, 0, 0, [], (0, [], [], ()), [s1], ()), ([101, 110, 100, 115], 7, 0, 0, [], (0, [], [], ()), [e1], ())]), (2, AObj.arr 9 Ty.str 0 false [[120]]), (3, AObj.arr 3 (i64T) 0 false [IntKind.i64.wrap (bndI e1 d1 - bndI s1 d1)])]) else none := by kernel_rfl
theorem sbq2_eq (t s1 s2 e1 e2 d1 d2 : Int) (x : List Int) : runC gSb Tryz.f42 6 [(3, [2, 4, 6, 9, 10, 11])] [nodeA strSL [] [121] (.os 2 0) (.os 1 0), .os 0 0] (hpTb false t [d1, d2] x (at2 [s1, s2] [e1, e2])) ah = bif decide (2 ≤ 9223372036854775807 ∧ x.length ≤ 9223372036854775807) then  bif tenE t [d1, d2] x != 0 then some (AEnd.ret [(AV.d Ty.str []).pr ((I 0).pr (AV.nils.pr (AV.d Ty.unit PUnit.unit))), I 1], [(0, AObj.arr 25 Y0 0 false [(t, [d1, d2], x, ())]), (1, AObj.arr 37 (Ty.str.pair ((i64T).pair ((i64T).pair ((i64T).pair (Ty.str.pair (Y0.pair ((i64T).slice.pair Ty.unit))))))) 0 false [([115, 116, 97, 114, 116, 115], 7, 0, 0, [], (0, [], [], ()), [s1, s2], ()), ([101, 110, 100, 115], 7, 0, 0, [], (0, [], [], ()), [e1, e2], ())]), (2, AObj.arr 9 Ty.str 0 false [[120]])]) else  bif !numOk t 0 then some (AEnd.ret [(AV.d Ty.str []).pr ((I 0).pr (AV.nils.pr (AV.d Ty.unit PUnit.unit))), I 5], [(0, AObj.arr 25 Y0 0 false [(t, [d1, d2], x, ())]), (1, AObj.arr 37 (Ty.str.pair ((i64T).pair ((i64T).pair ((i64T).pair (Ty.str.pair (Y0.pair ((i64T).slice.pair Ty.unit))))))) 0 true [([115, 116, 97, 114, 116, 115], 7, 0, 0, [], (0, [], [], ()), [s1, s2], ()), ([101, 110, 100, 115], 7, 0, 0, [], (0, [], [], ()), [e1, e2], ())]), (2, AObj.arr 9 Ty.str 0 false [[120]])]) else  bif countE [d1, d2] != 0 then some (AEnd.ret [(AV.d Ty.str []).pr ((I 0).pr (AV.nils.pr (AV.d Ty.unit PUnit.unit))), I (countE [d1, d2])], [(0, AObj.arr 25 Y0 0 false [(t, [d1, d2], x, ())]), (1, AObj.arr 37 (Ty.str.pair ((i64T).pair ((i64T).pair ((i64T).pair (Ty.str.pair (Y0.pair ((i64T).slice.pair Ty.unit))))))) 0 true [([115, 116, 97, 114, 116, 115], 7, 0, 0, [], (0, [], [], ()), [s1, s2], ()), ([101, 110, 100, 115], 7, 0, 0, [], (0, [], [], ()), [e1, e2], ())]), (2, AObj.arr 9 Ty.str 0 false [[120]])]) else  bif t == 6 then  bif !decide (IntKind.i64.wrap (bndI e1 d1 - bndI s1 d1) > 0) then some (AEnd.ret [(AV.d Ty.str []).pr ((I 0).pr (AV.nils.pr (AV.d Ty.unit PUnit.unit))), I 4], [(0, AObj.arr 25 Y0 0 false [(t, [d1, d2], x, ())]), (1, AObj.arr 37 (Ty.str.pair ((i64T).pair ((i64T).pair ((i64T).pair (Ty.str.pair (Y0.pair ((i64T).slice.pair Ty.unit))))))) 0 true [([115, 116, 97, 114, 116, 115], 7, 0, 0, [], (0, [], [], ()), [s1, s2], ()), ([101, 110, 100, 115], 7, 0, 0, [], (0, [], [], ()), [e1, e2], ())]), (2, AObj.arr 9 Ty.str 0 false [[120]])]) else  bif !decide (IntKind.i64.wrap (bndI e2 d2 - bndI s2 d2) > 0) then some (AEnd.ret [(AV.d Ty.str []).pr ((I 0).pr (AV.nils.pr (AV.d Ty.unit PUnit.unit))), I 4], [(0, AObj.arr 25 Y0 0 false [(t, [d1, d2], x, ())]), (1, AObj.arr 37 (Ty.str.pair ((i64T).pair ((i64T).pair ((i64T).pair (Ty.str.pair (Y0.pair ((i64T).slice.pair Ty.unit))))))) 0 true [([115, 116, 97, 114, 116, 115], 7, 0, 0, [], (0, [], [], ()), [s1, s2], ()), ([101, 110, 100, 115], 7, 0, 0, [], (0, [], [], ()), [e1, e2], ())]), (2, AObj.arr 9 Ty.str 0 false [[120]])]) else  bif countE [IntKind.i64.wrap (bndI e1 d1 - bndI s1 d1), IntKind.i64.wrap (bndI e2 d2 - bndI s2 d2)] != 0 then some (AEnd.ret [(AV.d Ty.str []).pr ((I 0).pr (AV.nils.pr (AV.d Ty.unit PUnit.unit))), I (countE [IntKind.i64.wrap (bndI e1 d1 - bndI s1 d1), IntKind.i64.wrap (bndI e2 d2 - bndI s2 d2)])], [(0, AObj.arr 25 Y0 0 false [(t, [d1, d2], x, ())]), (1, AObj.arr 37 (Ty.str.pair ((i64T).pair ((i64T).pair ((i64T).pair (Ty.str.pair (Y0.pair ((i64T).slice.pair Ty.unit))))))) 0 true [([115, 116, 97, 114, 116, 115], 7, 0, 0, [], (0, [], [], ()), [s1, s2], ()), ([101, 110, 100, 115], 7, 0, 0, [], (0, [], [], ()), [e1, e2], ())]), (2, AObj.arr 9 Ty.str 0 false [[120]])]) else some (AEnd.ret [(AV.d Ty.str [121]).pr ((I t).pr ((AV.os 3 0).pr (AV.d Ty.unit PUnit.unit))), I 0], [(0, AObj.arr 25 Y0 0 false [(t, [d1, d2], x, ())]), (1, AObj.arr 37 (Ty.str.pair ((i64T).pair ((i64T).pair ((i64T).pair (Ty.str.pair (Y0.pair ((i64T).slice.pair Ty.unit))))))) 0 true [([115, 116, 97, 114, 116, 115], 7, 0, 0, [], (0, [], [], ()), [s1, s2], ()), ([101, 110, 100, 115], 7, 0, 0, [], (0, [], [], ()), [e1, e2], ())]), (2, AObj.arr 9 Ty.str 0 false [[120]]), (3, AObj.arr 3 (i64T) 0 false [IntKind.i64.wrap (bndI e1 d1 - bndI s1 d1), IntKind.i64.wrap (bndI e2 d2 - bndI s2 d2)])]) else  bif !decide (IntKind.i64.wrap (bndI e1 d1 - bndI s1 d1) > 0) then some (AEnd.ret [(AV.d Ty.str []).pr ((I 0).pr (AV.nils.pr (AV.d Ty.unit PUnit.unit))), I 4], [(0, AObj.arr 25 Y0 0 false [(t, [d1, d2], x, ())]), (1, AObj.arr 37 (Ty.str.pair ((i64T).pair ((i64T).pair ((i64T).pair (Ty.str.pair (Y0.pair ((i64T).slice.pair Ty.unit))))))) 0 true [([115, 116, 97, 114, 116, 115], 7, 0, 0, [], (0, [], [], ()), [s1, s2], ()), ([101, 110, 100, 115], 7, 0, 0, [], (0, [], [], ()), [e1, e2], ())]), (2, AObj.arr 9 Ty.str 0 false [[120]])]) else  bif !decide (IntKind.i64.wrap (bndI e2 d2 - bndI s2 d2) > 0) then some (AEnd.ret [(AV.d Ty.str []).pr ((I 0).pr (AV.nils.pr (AV.d Ty.unit PUnit.unit))), I 4], [(0, AObj.arr 25 Y0 0 false [(t, [d1, d2], x, ())]), (1, AObj.arr 37 (Ty.str.pair ((i64T).pair ((i64T).pair ((i64T).pair (Ty.str.pair (Y0.pair ((i64T).slice.pair Ty.unit))))))) 0 true [([115, 116, 97, 114, 116, 115], 7, 0, 0, [], (0, [], [], ()), [s1, s2], ()), ([101, 110, 100, 115], 7, 0, 0, [], (0, [], [], ()), [e1, e2], ())]), (2, AObj.arr 9 Ty.str 0 false [[120]])]) else  bif countE [IntKind.i64.wrap (bndI e1 d1 - bndI s1 d1), IntKind.i64.wrap (bndI e2 d2 - bndI s2 d2)] != 0 then some (AEnd.ret [(AV.d Ty.str []).pr ((I 0).pr (AV.nils.pr (AV.d Ty.unit PUnit.unit))), I (countE [IntKind.i64.wrap (bndI e1 d1 - bndI s1 d1), IntKind.i64.wrap (bndI e2 d2 - bndI s2 d2)])], [(0, AObj.arr 25 Y0 0 false [(t, [d1, d2], x, ())]), (1, AObj.arr 37 (Ty.str.pair ((i64T).pair ((i64T).pair ((i64T).pair (Ty.str.pair (Y0.pair ((i64T).slice.pair Ty.unit))))))) 0 true [([115, 116, 97, 114, 116, 115], 7, 0, 0, [], (0, [], [], ()), [s1, s2], ()), ([101, 110, 100, 115], 7, 0, 0, [], (0, [], [], ()), [e1, e2], ())]), (2, AObj.arr 9 Ty.str 0 false [[120]])]) else some (AEnd.ret [(AV.d Ty.str [121]).pr ((I t).pr ((AV.os 3 0).pr (AV.d Ty.unit PUnit.unit))), I 0], [(0, AObj.arr 25 Y0 0 false [(t, [d1, d2], x, ())]), (1, AObj.arr 37 (Ty.str.pair ((i64T).pair ((i64T).pair ((i64T).pair (Ty.str.pair (Y0.pair ((i64T).slice.pair Ty.unit))))))) 0 true [([115, 116, 97, 114, 116, 115], 7, 0, 0, [], (0, [], [], ()), [s1, s2], ()), ([101, 110, 100, 115], 7, 0, 0, [], (0, [], [], ()), [e1, e2], ())]), (2, AObj.arr 9 Ty.str 0 false [[120]]), (3, AObj.arr 3 (i64T) 0 false [IntKind.i64.wrap (bndI e1 d1 - bndI s1 d1), IntKind.i64.wrap (bndI e2 d2 - bndI s2 d2)])]) else none := by kernel_rfl
theorem sbq3_eq (t s1 s2 s3 e1 e2 e3 d1 d2 d3 : Int) (x : List Int) : runC gSb Tryz.f42 6 [(3, [2, 4, 6, 9, 10, 11])] [nodeA strSL [] [121] (.os 2 0) (.os 1 0), .os 0 0] (hpTb false t [d1, d2, d3] x (at2 [s1, s2, s3] [e1, e2, e3])) ah = bif decide (3 ≤ 9223372036854775807 ∧ x.length ≤ 9223372036854775807) then  bif tenE t [d1, d2, d3] x != 0 then some (AEnd.ret [(AV.d Ty.str []).pr ((I 0).pr (AV.nils.pr (AV.d Ty.unit PUnit.unit))), I 1], [(0, AObj.arr 25 Y0 0 false [(t, [d1, d2, d3], x, ())]), (1, AObj.arr 37 (Ty.str.pair ((i64T).pair ((i64T).pair ((i64T).pair (Ty.str.pair (Y0.pair ((i64T).slice.pair Ty.unit))))))) 0 false [([115, 116, 97, 114, 116, 115], 7, 0, 0, [], (0, [], [], ()), [s1, s2, s3], ()), ([101, 110, 100, 115], 7, 0, 0, [], (0, [], [], ()), [e1, e2, e3], ())]), (2, AObj.arr 9 Ty.str 0 false [[120]])]) else  bif !numOk t 0 then some (AEnd.ret [(AV.d Ty.str []).pr ((I 0).pr (AV.nils.pr (AV.d Ty.unit PUnit.unit))), I 5], [(0, AObj.arr 25 Y0 0 false [(t, [d1, d2, d3], x, ())]), (1, AObj.arr 37 (Ty.str.pair ((i64T).pair ((i64T).pair ((i64T).pair (Ty.str.pair (Y0.pair ((i64T).slice.pair Ty.unit))))))) 0 true [([115, 116, 97, 114, 116, 115], 7, 0, 0, [], (0, [], [], ()), [s1, s2, s3], ()), ([101, 110, 100, 115], 7, 0, 0, [], (0, [], [], ()), [e1, e2, e3], ())]), (2, AObj.arr 9 Ty.str 0 false [[120]])]) else  bif countE [d1, d2, d3] != 0 then some (AEnd.ret [(AV.d Ty.str []).pr ((I 0).pr (AV.nils.pr (AV.d Ty.unit PUnit.unit))), I (countE [d1, d2, d3])], [(0, AObj.arr 25 Y0 0 false [(t, [d1, d2, d3], x, ())]), (1, AObj.arr 37 (Ty.str.pair ((i64T).pair ((i64T).pair ((i64T).pair (Ty.str.pair (Y0.pair ((i64T).slice.pair Ty.unit))))))) 0 true [([115, 116, 97, 114, 116, 115], 7, 0, 0, [], (0, [], [], ()), [s1, s2, s3], ()), ([101, 110, 100, 115], 7, 0, 0, [], (0, [], [], ()), [e1, e2, e3], ())]), (2, AObj.arr 9 Ty.str 0 false [[120]])]) else  bif t == 6 then  bif !decide (IntKind.i64.wrap (bndI e1 d1 - bndI s1 d1) > 0) then some (AEnd.ret [(AV.d Ty.str []).pr ((I 0).pr (AV.nils.pr (AV.d Ty.unit PUnit.unit))), I 4], [(0, AObj.arr 25 Y0 0 false [(t, [d1, d2, d3], x, ())]), (1, AObj.arr 37 (Ty.str.pair ((i64T).pair ((i64T).pair ((i64T).pair (Ty.str.pair (Y0.pair ((i64T).slice.pair Ty.unit))))))) 0 true [([115, 116, 97, 114, 116, 115], 7, 0, 0, [], (0, [], [], ()), [s1, s2, s3], ()), ([101, 110, 100, 115], 7, 0, 0, [], (0, [], [], ()), [e1, e2, e3], ())]), (2, AObj.arr 9 Ty.str 0 false [[120]])]) else  bif !decide (IntKind.i64.wrap (bndI e2 d2 - bndI s2 d2) > 0) then some (AEnd.ret [(AV.d Ty.str []).pr ((I 0).pr (AV.nils.pr (AV.d Ty.unit PUnit.unit))), I 4], [(0, AObj.arr 25 Y0 0 false [(t, [d1, d2, d3], x, ())]), (1, AObj.arr 37 (Ty.str.pair ((i64T).pair ((i64T).pair ((i64T).pair (Ty.str.pair (Y0.pair ((i64T).slice.pair Ty.unit))))))) 0 true [([115, 116, 97, 114, 116, 115], 7, 0, 0, [], (0, [], [], ()), [s1, s2, s3], ()), ([101, 110, 100, 115], 7, 0, 0, [], (0, [], [], ()), [e1, e2, e3], ())]), (2, AObj.arr 9 Ty.str 0 false [[120]])]) else  bif !decide (IntKind.i64.wrap (bndI e3 d3 - bndI s3 d3) > 0) then some (AEnd.ret [(AV.d Ty.str []).pr ((I 0).pr (AV.nils.pr (AV.d Ty.unit PUnit.unit))), I 4], [(0, AObj.arr 25 Y0 0 false [(t, [d1, d2, d3], x, ())]), (1, AObj.arr 37 (Ty.str.pair ((i64T).pair ((i64T).pair ((i64T).pair (Ty.str.pair (Y0.pair ((i64T).slice.pair Ty.unit))))))) 0 true [([115, 116, 97, 114, 116, 115], 7, 0, 0, [], (0, [], [], ()), [s1, s2, s3], ()), ([101, 110, 100, 115], 7, 0, 0, [], (0, [], [], ()), [e1, e2, e3], ())]), (2, AObj.arr 9 Ty.str 0 false [[120]])]) else  bif countE [IntKind.i64.wrap (bndI e1 d1 - bndI s1 d1), IntKind.i64.wrap (bndI e2 d2 - bndI s2 d2), IntKind.i64.wrap (bndI e3 d3 - bndI s3 d3)] != 0 then some (AEnd.ret [(AV.d Ty.str []).pr ((I 0).pr (AV.nils.pr (AV.d Ty.unit PUnit.unit))), I (countE [IntKind.i64.wrap (bndI e1 d1 - bndI s1 d1), IntKind.i64.wrap (bndI e2 d2 - bndI s2 d2), IntKind.i64.wrap (bndI e3 d3 - bndI s3 d3)])], [(0, AObj.arr 25 Y0 0 false [(t, [d1, d2, d3], x, ())]), (1, AObj.arr 37 (Ty.str.pair ((i64T).pair ((i64T).pair ((i64T).pair (Ty.str.pair (Y0.pair ((i64T).slice.pair Ty.unit))))))) 0 true [([115, 116, 97, 114, 116, 115], 7, 0, 0, [], (0, [], [], ()), [s1, s2, s3], ()), ([101, 110, 100, 115], 7, 0, 0, [], (0, [], [], ()), [e1, e2, e3], ())]), (2, AObj.arr 9 Ty.str 0 false [[120]])]) else some (AEnd.ret [(AV.d Ty.str [121]).pr ((I t).pr ((AV.os 3 0).pr (AV.d Ty.unit PUnit.unit))), I 0], [(0, AObj.arr 25 Y0 0 false [(t, [d1, d2, d3], x, ())]), (1, AObj.arr 37 (Ty.str.pair ((i64T).pair ((i64T).pair ((i64T).pair (Ty.str.pair (Y0.pair ((i64T).slice.pair Ty.unit))))))) 0 true [([115, 116, 97, 114, 116, 115], 7, 0, 0, [], (0, [], [], ()), [s1, s2, s3], ()), ([101, 110, 100, 115], 7, 0, 0, [], (0, [], [], ()), [e1, e2, e3], ())]), (2, AObj.arr 9 Ty.str 0 false [[120]]), (3, AObj.arr 3 (i64T) 0 false [IntKind.i64.wrap (bndI e1 d1 - bndI s1 d1), IntKind.i64.wrap (bndI e2 d2 - bndI s2 d2), IntKind.i64.wrap (bndI e3 d3 - bndI s3 d3)])]) else  bif !decide (IntKind.i64.wrap (bndI e1 d1 - bndI s1 d1) > 0) then some (AEnd.ret [(AV.d Ty.str []).pr ((I 0).pr (AV.nils.pr (AV.d Ty.unit PUnit.unit))), I 4], [(0, AObj.arr 25 Y0 0 false [(t, [d1, d2, d3], x, ())]), (1, AObj.arr 37 (Ty.str.pair ((i64T).pair ((i64T).pair ((i64T).pair (Ty.str.pair (Y0.pair ((i64T).slice.pair Ty.unit))))))) 0 true [([115, 116, 97, 114, 116, 115], 7, 0, 0, [], (0, [], [], ()), [s1, s2, s3], ()), ([101, 110, 100, 115], 7, 0, 0, [], (0, [], [], ()), [e1, e2, e3], ())]), (2, AObj.arr 9 Ty.str 0 false [[120]])]) else  bif !decide (IntKind.i64.wrap (bndI e2 d2 - bndI s2 d2) > 0) then some (AEnd.ret [(AV.d Ty.str []).pr ((I 0).pr (AV.nils.pr (AV.d Ty.unit PUnit.unit))), I 4], [(0, AObj.arr 25 Y0 0 false [(t, [d1, d2, d3], x, ())]), (1, AObj.arr 37 (Ty.str.pair ((i64T).pair ((i64T).pair ((i64T).pair (Ty.str.pair (Y0.pair ((i64T).slice.pair Ty.unit))))))) 0 true [([115, 116, 97, 114, 116, 115], 7, 0, 0, [], (0, [], [], ()), [s1, s2, s3], ()), ([101, 110, 100, 115], 7, 0, 0, [], (0, [], [], ()), [e1, e2, e3], ())]), (2, AObj.arr 9 Ty.str 0 false [[120]])]) else  bif !decide (IntKind.i64.wrap (bndI e3 d3 - bndI s3 d3) > 0) then some (AEnd.ret [(AV.d Ty.str []).pr ((I 0).pr (AV.nils.pr (AV.d Ty.unit PUnit.unit))), I 4], [(0, AObj.arr 25 Y0 0 false [(t, [d1, d2, d3], x, ())]), (1, AObj.arr 37 (Ty.str.pair ((i64T).pair ((i64T).pair ((i64T).pair (Ty.str.pair (Y0.pair ((i64T).slice.pair Ty.unit))))))) 0 true [([115, 116, 97, 114, 116, 115], 7, 0, 0, [], (0, [], [], ()), [s1, s2, s3], ()), ([101, 110, 100, 115], 7, 0, 0, [], (0, [], [], ()), [e1, e2, e3], ())]), (2, AObj.arr 9 Ty.str 0 false [[120]])]) else  bif countE [IntKind.i64.wrap (bndI e1 d1 - bndI s1 d1), IntKind.i64.wrap (bndI e2 d2 - bndI s2 d2), IntKind.i64.wrap (bndI e3 d3 - bndI s3 d3)] != 0 then some (AEnd.ret [(AV.d Ty.str []).pr ((I 0).pr (AV.nils.pr (AV.d Ty.unit PUnit.unit))), I (countE [IntKind.i64.wrap (bndI e1 d1 - bndI s1 d1), IntKind.i64.wrap (bndI e2 d2 - bndI s2 d2), IntKind.i64.wrap (bndI e3 d3 - bndI s3 d3)])], [(0, AObj.arr 25 Y0 0 false [(t, [d1, d2, d3], x, ())]), (1, AObj.arr 37 (Ty.str.pair ((i64T).pair ((i64T).pair ((i64T).pair (Ty.str.pair (Y0.pair ((i64T).slice.pair Ty.unit))))))) 0 true [([115, 116, 97, 114, 116, 115], 7, 0, 0, [], (0, [], [], ()), [s1, s2, s3], ()), ([101, 110, 100, 115], 7, 0, 0, [], (0, [], [], ()), [e1, e2, e3], ())]), (2, AObj.arr 9 Ty.str 0 false [[120]])]) else some (AEnd.ret [(AV.d Ty.str [121]).pr ((I t).pr ((AV.os 3 0).pr (AV.d Ty.unit PUnit.unit))), I 0], [(0, AObj.arr 25 Y0 0 false [(t, [d1, d2, d3], x, ())]), (1, AObj.arr 37 (Ty.str.pair ((i64T).pair ((i64T).pair ((i64T).pair (Ty.str.pair (Y0.pair ((i64T).slice.pair Ty.unit))))))) 0 true [([115, 116, 97, 114, 116, 115], 7, 0, 0, [], (0, [], [], ()), [s1, s2, s3], ()), ([101, 110, 100, 115], 7, 0, 0, [], (0, [], [], ()), [e1, e2, e3], ())]), (2, AObj.arr 9 Ty.str 0 false [[120]]), (3, AObj.arr 3 (i64T) 0 false [IntKind.i64.wrap (bndI e1 d1 - bndI s1 d1), IntKind.i64.wrap (bndI e2 d2 - bndI s2 d2), IntKind.i64.wrap (bndI e3 d3 - bndI s3 d3)])]) else none := by kernel_rfl
theorem sbq4_eq (t s1 s2 s3 s4 e1 e2 e3 e4 d1 d2 d3 d4 : Int) (x : List Int) : runC gSb Tryz.f42 6 [(3, [2, 4, 6, 9, 10, 11])] [nodeA strSL [] [121] (.os 2 0) (.os 1 0), .os 0 0] (hpTb false t [d1, d2, d3, d4] x (at2 [s1, s2, s3, s4] [e1, e2, e3, e4])) ah = bif decide (4 ≤ 9223372036854775807 ∧ x.length ≤ 9223372036854775807) then  bif tenE t [d1, d2, d3, d4] x != 0 then some (AEnd.ret [(AV.d Ty.str []).pr ((I 0).pr (AV.nils.pr (AV.d Ty.unit PUnit.unit))), I 1], [(0, AObj.arr 25 Y0 0 false [(t, [d1, d2, d3, d4], x, ())]), (1, AObj.arr 37 (Ty.str.pair ((i64T).pair ((i64T).pair ((i64T).pair (Ty.str.pair (Y0.pair ((i64T).slice.pair Ty.unit))))))) 0 false [([115, 116, 97, 114, 116, 115], 7, 0, 0, [], (0, [], [], ()), [s1, s2, s3, s4], ()), ([101, 110, 100, 115], 7, 0, 0, [], (0, [], [], ()), [e1, e2, e3, e4], ())]), (2, AObj.arr 9 Ty.str 0 false [[120]])]) else  bif !numOk t 0 then some (AEnd.ret [(AV.d Ty.str []).pr ((I 0).pr (AV.nils.pr (AV.d Ty.unit PUnit.unit))), I 5], [(0, AObj.arr 25 Y0 0 false [(t, [d1, d2, d3, d4], x, ())]), (1, AObj.arr 37 (Ty.str.pair ((i64T).pair ((i64T).pair ((i64T).pair (Ty.str.pair (Y0.pair ((i64T).slice.pair Ty.unit))))))) 0 true [([115, 116, 97, 114, 116, 115], 7, 0, 0, [], (0, [], [], ()), [s1, s2, s3, s4], ()), ([101, 110, 100, 115], 7, 0, 0, [], (0, [], [], ()), [e1, e2, e3, e4], ())]), (2, AObj.arr 9 Ty.str 0 false [[120]])]) else  bif countE [d1, d2, d3, d4] != 0 then some (AEnd.ret [(AV.d Ty.str []).pr ((I 0).pr (AV.nils.pr (AV.d Ty.unit PUnit.unit))), I (countE [d1, d2, d3, d4])], [(0, AObj.arr 25 Y0 0 false [(t, [d1, d2, d3, d4], x, ())]), (1, AObj.arr 37 (Ty.str.pair ((i64T).pair ((i64T).pair ((i64T).pair (Ty.str.pair (Y0.pair ((i64T).slice.pair Ty.unit))))))) 0 true [([115, 116, 97, 114, 116, 115], 7, 0, 0, [], (0, [], [], ()), [s1, s2, s3, s4], ()), ([101, 110, 100, 115], 7, 0, 0, [], (0, [], [], ()), [e1, e2, e3, e4], ())]), (2, AObj.arr 9 Ty.str 0 false [[120]])]) else  bif t == 6 then  bif !decide (IntKind.i64.wrap (bndI e1 d1 - bndI s1 d1) > 0) then some (AEnd.ret [(AV.d Ty.str []).pr ((I 0).pr (AV.nils.pr (AV.d Ty.unit PUnit.unit))), I 4], [(0, AObj.arr 25 Y0 0 false [(t, [d1, d2, d3, d4], x, ())]), (1, AObj.arr 37 (Ty.str.pair ((i64T).pair ((i64T).pair ((i64T).pair (Ty.str.pair (Y0.pair ((i64T).slice.pair Ty.unit))))))) 0 true [([115, 116, 97, 114, 116, 115], 7, 0, 0, [], (0, [], [], ()), [s1, s2, s3, s4], ()), ([101, 110, 100, 115], 7, 0, 0, [], (0, [], [], ()), [e1, e2, e3, e4], ())]), (2, AObj.arr 9 Ty.str 0 false [[120]])]) else  bif !decide (IntKind.i64.wrap (bndI e2 d2 - bndI s2 d2) > 0) then some (AEnd.ret [(AV.d Ty.str []).pr ((I 0).pr (AV.nils.pr (AV.d Ty.unit PUnit.unit))), I 4], [(0, AObj.arr 25 Y0 0 false [(t, [d1, d2, d3, d4], x, ())]), (1, AObj.arr 37 (Ty.str.pair ((i64T).pair ((i64T).pair ((i64T).pair (Ty.str.pair (Y0.pair ((i64T).slice.pair Ty.unit))))))) 0 true [([115, 116, 97, 114, 116, 115], 7, 0, 0, [], (0, [], [], ()), [s1, s2, s3, s4], ()), ([101, 110, 100, 115], 7, 0, 0, [], (0, [], [], ()), [e1, e2, e3, e4], ())]), (2, AObj.arr 9 Ty.str 0 false [[120]])]) else  bif !decide (IntKind.i64.wrap (bndI e3 d3 - bndI s3 d3) > 0) then some (AEnd.ret [(AV.d Ty.str []).pr ((I 0).pr (AV.nils.pr (AV.d Ty.unit PUnit.unit))), I 4], [(0, AObj.arr 25 Y0 0 false [(t, [d1, d2, d3, d4], x, ())]), (1, AObj.arr 37 (Ty.str.pair ((i64T).pair ((i64T).pair ((i64T).pair (Ty.str.pair (Y0.pair ((i64T).slice.pair Ty.unit))))))) 0 true [([115, 116, 97, 114, 116, 115], 7, 0, 0, [], (0, [], [], ()), [s1, s2, s3, s4], ()), ([101, 110, 100, 115], 7, 0, 0, [], (0, [], [], ()), [e1, e2, e3, e4], ())]), (2, AObj.arr 9 Ty.str 0 false [[120]])]) else  bif !decide (IntKind.i64.wrap (bndI e4 d4 - bndI s4 d4) > 0) then some (AEnd.ret [(AV.d Ty.str []).pr ((I 0).pr (AV.nils.pr (AV.d Ty.unit PUnit.unit))), I 4], [(0, AObj.arr 25 Y0 0 false [(t, [d1, d2, d3, d4], x, ())]), (1, AObj.arr 37 (Ty.str.pair ((i64T).pair ((i64T).pair ((i64T).pair (Ty.str.pair (Y0.pair ((i64T).slice.pair Ty.unit))))))) 0 true [([115, 116, 97, 114, 116, 115], 7, 0, 0, [], (0, [], [], ()), [s1, s2, s3, s4], ()), ([101, 110, 100, 115], 7, 0, 0, [], (0, [], [], ()), [e1, e2, e3, e4], ())]), (2, AObj.arr 9 Ty.str 0 false [[120]])]) else  bif countE [IntKind.i64.wrap (bndI e1 d1 - bndI s1 d1), IntKind.i64.wrap (bndI e2 d2 - bndI s2 d2), IntKind.i64.wrap (bndI e3 d3 - bndI s3 d3), IntKind.i64.wrap (bndI e4 d4 - bndI s4 d4)] != 0 then some (AEnd.ret [(AV.d Ty.str []).pr ((I 0).pr (AV.nils.pr (AV.d Ty.unit PUnit.unit))), I (countE [IntKind.i64.wrap (bndI e1 d1 - bndI s1 d1), IntKind.i64.wrap (bndI e2 d2 - bndI s2 d2), IntKind.i64.wrap (bndI e3 d3 - bndI s3 d3), IntKind.i64.wrap (bndI e4 d4 - bndI s4 d4)])], [(0, AObj.arr 25 Y0 0 false [(t, [d1, d2, d3, d4], x, ())]), (1, AObj.arr 37 (Ty.str.pair ((i64T).pair ((i64T).pair ((i64T).pair (Ty.str.pair (Y0.pair ((i64T).slice.pair Ty.unit))))))) 0 true [([115, 116, 97, 114, 116, 115], 7, 0, 0, [], (0, [], [], ()), [s1, s2, s3, s4], ()), ([101, 110, 100, 115], 7, 0, 0, [], (0, [], [], ()), [e1, e2, e3, e4], ())]), (2, AObj.arr 9 Ty.str 0 false [[120]])]) else some (AEnd.ret [(AV.d Ty.str [121]).pr ((I t).pr ((AV.os 3 0).pr (AV.d Ty.unit PUnit.unit))), I 0], [(0, AObj.arr 25 Y0 0 false [(t, [d1, d2, d3, d4], x, ())]), (1, AObj.arr 37 (Ty.str.pair ((i64T).pair ((i64T).pair ((i64T).pair (Ty.str.pair (Y0.pair ((i64T).slice.pair Ty.unit))))))) 0 true [([115, 116, 97, 114, 116, 115], 7, 0, 0, [], (0, [], [], ()), [s1, s2, s3, s4], ()), ([101, 110, 100, 115], 7, 0, 0, [], (0, [], [], ()), [e1, e2, e3, e4], ())]), (2, AObj.arr 9 Ty.str 0 false [[120]]), (3, AObj.arr 3 (i64T) 0 false [IntKind.i64.wrap (bndI e1 d1 - bndI s1 d1), IntKind.i64.wrap (bndI e2 d2 - bndI s2 d2), IntKind.i64.wrap (bndI e3 d3 - bndI s3 d3), IntKind.i64.wrap (bndI e4 d4 - bndI s4 d4)])]) else  bif !decide (IntKind.i64.wrap (bndI e1 d1 - bndI s1 d1) > 0) then some (AEnd.ret [(AV.d Ty.str []).pr ((I 0).pr (AV.nils.pr (AV.d Ty.unit PUnit.unit))), I 4], [(0, AObj.arr 25 Y0 0 false [(t, [d1, d2, d3, d4], x, ())]), (1, AObj.arr 37 (Ty.str.pair ((i64T).pair ((i64T).pair ((i64T).pair (Ty.str.pair (Y0.pair ((i64T).slice.pair Ty.unit))))))) 0 true [([115, 116, 97, 114, 116, 115], 7, 0, 0, [], (0, [], [], ()), [s1, s2, s3, s4], ()), ([101, 110, 100, 115], 7, 0, 0, [], (0, [], [], ()), [e1, e2, e3, e4], ())]), (2, AObj.arr 9 Ty.str 0 false [[120]])]) else  bif !decide (IntKind.i64.wrap (bndI e2 d2 - bndI s2 d2) > 0) then some (AEnd.ret [(AV.d Ty.str []).pr ((I 0).pr (AV.nils.pr (AV.d Ty.unit PUnit.unit))), I 4], [(0, AObj.arr 25 Y0 0 false [(t, [d1, d2, d3, d4], x, ())]), (1, AObj.arr 37 (Ty.str.pair ((i64T).pair ((i64T).pair ((i64T).pair (Ty.str.pair (Y0.pair ((i64T).slice.pair Ty.unit))))))) 0 true [([115, 116, 97, 114, 116, 115], 7, 0, 0, [], (0, [], [], ()), [s1, s2, s3, s4], ()), ([101, 110, 100, 115], 7, 0, 0, [], (0, [], [], ()), [e1, e2, e3, e4], ())]), (2, AObj.arr 9 Ty.str 0 false [[120]])]) else  bif !decide (IntKind.i64.wrap (bndI e3 d3 - bndI s3 d3) > 0) then some (AEnd.ret [(AV.d Ty.str []).pr ((I 0).pr (AV.nils.pr (AV.d Ty.unit PUnit.unit))), I 4], [(0, AObj.arr 25 Y0 0 false [(t, [d1, d2, d3, d4], x, ())]), (1, AObj.arr 37 (Ty.str.pair ((i64T).pair ((i64T).pair ((i64T).pair (Ty.str.pair (Y0.pair ((i64T).slice.pair Ty.unit))))))) 0 true [([115, 116, 97, 114, 116, 115], 7, 0, 0, [], (0, [], [], ()), [s1, s2, s3, s4], ()), ([101, 110, 100, 115], 7, 0, 0, [], (0, [], [], ()), [e1, e2, e3, e4], ())]), (2, AObj.arr 9 Ty.str 0 false [[120]])]) else  bif !decide (IntKind.i64.wrap (bndI e4 d4 - bndI s4 d4) > 0) then some (AEnd.ret [(AV.d Ty.str []).pr ((I 0).pr (AV.nils.pr (AV.d Ty.unit PUnit.unit))), I 4], [(0, AObj.arr 25 Y0 0 false [(t, [d1, d2, d3, d4], x, ())]), (1, AObj.arr 37 (Ty.str.pair ((i64T).pair ((i64T).pair ((i64T).pair (Ty.str.pair (Y0.pair ((i64T).slice.pair Ty.unit))))))) 0 true [([115, 116, 97, 114, 116, 115], 7, 0, 0, [], (0, [], [], ()), [s1, s2, s3, s4], ()), ([101, 110, 100, 115], 7, 0, 0, [], (0, [], [], ()), [e1, e2, e3, e4], ())]), (2, AObj.arr 9 Ty.str 0 false [[120]])]) else  bif countE [IntKind.i64.wrap (bndI e1 d1 - bndI s1 d1), IntKind.i64.wrap (bndI e2 d2 - bndI s2 d2), IntKind.i64.wrap (bndI e3 d3 - bndI s3 d3), IntKind.i64.wrap (bndI e4 d4 - bndI s4 d4)] != 0 then some (AEnd.ret [(AV.d Ty.str []).pr ((I 0).pr (AV.nils.pr (AV.d Ty.unit PUnit.unit))), I (countE [IntKind.i64.wrap (bndI e1 d1 - bndI s1 d1), IntKind.i64.wrap (bndI e2 d2 - bndI s2 d2), IntKind.i64.wrap (bndI e3 d3 - bndI s3 d3), IntKind.i64.wrap (bndI e4 d4 - bndI s4 d4)])], [(0, AObj.arr 25 Y0 0 false [(t, [d1, d2, d3, d4], x, ())]), (1, AObj.arr 37 (Ty.str.pair ((i64T).pair ((i64T).pair ((i64T).pair (Ty.str.pair (Y0.pair ((i64T).slice.pair Ty.unit))))))) 0 true [([115, 116, 97, 114, 116, 115], 7, 0, 0, [], (0, [], [], ()), [s1, s2, s3, s4], ()), ([101, 110, 100, 115], 7, 0, 0, [], (0, [], [], ()), [e1, e2, e3, e4], ())]), (2, AObj.arr 9 Ty.str 0 false [[120]])]) else some (AEnd.ret [(AV.d Ty.str [121]).pr ((I t).pr ((AV.os 3 0).pr (AV.d Ty.unit PUnit.unit))), I 0], [(0, AObj.arr 25 Y0 0 false [(t, [d1, d2, d3, d4], x, ())]), (1, AObj.arr 37 (Ty.str.pair ((i64T).pair ((i64T).pair ((i64T).pair (Ty.str.pair (Y0.pair ((i64T).slice.pair Ty.unit))))))) 0 true [([115, 116, 97, 114, 116, 115], 7, 0, 0, [], (0, [], [], ()), [s1, s2, s3, s4], ()), ([101, 110, 100, 115], 7, 0, 0, [], (0, [], [], ()), [e1, e2, e3, e4], ())]), (2, AObj.arr 9 Ty.str 0 false [[120]]), (3, AObj.arr 3 (i64T) 0 false [IntKind.i64.wrap (bndI e1 d1 - bndI s1 d1), IntKind.i64.wrap (bndI e2 d2 - bndI s2 d2), IntKind.i64.wrap (bndI e3 d3 - bndI s3 d3), IntKind.i64.wrap (bndI e4 d4 - bndI s4 d4)])]) else none := by kernel_rfl
theorem sbq5_eq (t s1 s2 s3 s4 s5 e1 e2 e3 e4 e5 d1 d2 d3 d4 d5 : Int) (x : List Int) : runC gSb Tryz.f42 6 [(3, [2, 4, 6, 9, 10, 11])] [nodeA strSL [] [121] (.os 2 0) (.os 1 0), .os 0 0] (hpTb false t [d1, d2, d3, d4, d5] x (at2 [s1, s2, s3, s4, s5] [e1, e2, e3, e4, e5])) ah = bif decide (5 ≤ 9223372036854775807 ∧ x.length ≤ 9223372036854775807) then  bif tenE t [d1, d2, d3, d4, d5] x != 0 then some (AEnd.ret [(AV.d Ty.str []).pr ((I 0).pr (AV.nils.pr (AV.d Ty.unit PUnit.unit))), I 1], [(0, AObj.arr 25 Y0 0 false [(t, [d1, d2, d3, d4, d5], x, ())]), (1, AObj.arr 37 (Ty.str.pair ((i64T).pair ((i64T).pair ((i64T).pair (Ty.str.pair (Y0.pair ((i64T).slice.pair Ty.unit))))))) 0 false [([115, 116, 97, 114, 116, 115], 7, 0, 0, [], (0, [], [], ()), [s1, s2, s3, s4, s5], ()), ([101, 110, 100, 115], 7, 0, 0, [], (0, [], [], ()), [e1, e2, e3, e4, e5], ())]), (2, AObj.arr 9 Ty.str 0 false [[120]])]) else  bif !numOk t 0 then some (AEnd.ret [(AV.d Ty.str []).pr ((I 0).pr (AV.nils.pr (AV.d Ty.unit PUnit.unit))), I 5], [(0, AObj.arr 25 Y0 0 false [(t, [d1, d2, d3, d4, d5], x, ())]), (1, AObj.arr 37 (Ty.str.pair ((i64T).pair ((i64T).pair ((i64T).pair (Ty.str.pair (Y0.pair ((i64T).slice.pair Ty.unit))))))) 0 true [([115, 116, 97, 114, 116, 115], 7, 0, 0, [], (0, [], [], ()), [s1, s2, s3, s4, s5], ()), ([101, 110, 100, 115], 7, 0, 0, [], (0, [], [], ()), [e1, e2, e3, e4, e5], ())]), (2, AObj.arr 9 Ty.str 0 false [[120]])]) else  bif countE [d1, d2, d3, d4, d5] != 0 then some (AEnd.ret [(AV.d Ty.str []).pr ((I 0).pr (AV.nils.pr (AV.d Ty.unit PUnit.unit))), I (countE [d1, d2, d3, d4, d5])], [(0, AObj.arr 25 Y0 0 false [(t, [d1, d2, d3, d4, d5], x, ())]), (1, AObj.arr 37 (Ty.str.pair ((i64T).pair ((i64T).pair ((i64T).pair (Ty.str.pair (Y0.pair ((i64T).slice.pair Ty.unit))))))) 0 true [([115, 116, 97, 114, 116, 115], 7, 0, 0, [], (0, [], [], ()), [s1, s2, s3, s4, s5], ()), ([101, 110, 100, 115], 7, 0, 0, [], (0, [], [], ()), [e1, e2, e3, e4, e5], ())]), (2, AObj.arr 9 Ty.str 0 false [[120]])]) else  bif t == 6 then  bif !decide (IntKind.i64.wrap (bndI e1 d1 - bndI s1 d1) > 0) then some (AEnd.ret [(AV.d Ty.str []).pr ((I 0).pr (AV.nils.pr (AV.d Ty.unit PUnit.unit))), I 4], [(0, AObj.arr 25 Y0 0 false [(t, [d1, d2, d3, d4, d5], x, ())]), (1, AObj.arr 37 (Ty.str.pair ((i64T).pair ((i64T).pair ((i64T).pair (Ty.str.pair (Y0.pair ((i64T).slice.pair Ty.unit))))))) 0 true [([115, 116, 97, 114, 116, 115], 7, 0, 0, [], (0, [], [], ()), [s1, s2, s3, s4, s5], ()), ([101, 110, 100, 115], 7, 0, 0, [], (0, [], [], ()), [e1, e2, e3, e4, e5], ())]), (2, AObj.arr 9 Ty.str 0 false [[120]])]) else  bif !decide (IntKind.i64.wrap (bndI e2 d2 - bndI s2 d2) > 0) then some (AEnd.ret [(AV.d Ty.str []).pr ((I 0).pr (AV.nils.pr (AV.d Ty.unit PUnit.unit))), I 4], [(0, AObj.arr 25 Y0 0 false [(t, [d1, d2, d3, d4, d5], x, ())]), (1, AObj.arr 37 (Ty.str.pair ((i64T).pair ((i64T).pair ((i64T).pair (Ty.str.pair (Y0.pair ((i64T).slice.pair Ty.unit))))))) 0 true [([115, 116, 97, 114, 116, 115], 7, 0, 0, [], (0, [], [], ()), [s1, s2, s3, s4, s5], ()), ([101, 110, 100, 115], 7, 0, 0, [], (0, [], [], ()), [e1, e2, e3, e4, e5], ())]), (2, AObj.arr 9 Ty.str 0 false [[120]])]) else  bif !decide (IntKind.i64.wrap (bndI e3 d3 - bndI s3 d3) > 0) then some (AEnd.ret [(AV.d Ty.str []).pr ((I 0).pr (AV.nils.pr (AV.d Ty.unit PUnit.unit))), I 4], [(0, AObj.arr 25 Y0 0 false [(t, [d1, d2, d3, d4, d5], x, ())]), (1, AObj.arr 37 (Ty.str.pair ((i64T).pair ((i64T).pair ((i64T).pair (Ty.str.pair (Y0.pair ((i64T).slice.pair Ty.unit))))))) 0 true [([115, 116, 97, 114, 116, 115], 7, 0, 0, [], (0, [], [], ()), [s1, s2, s3, s4, s5], ()), ([101, 110, 100, 115], 7, 0, 0, [], (0, [], [], ()), [e1, e2, e3, e4, e5], ())]), (2, AObj.arr 9 Ty.str 0 false [[120]])]) else  bif !decide (IntKind.i64.wrap (bndI e4 d4 - bndI s4 d4) > 0) then some (AEnd.ret [(AV.d Ty.str []).pr ((I 0).pr (AV.nils.pr (AV.d Ty.unit PUnit.unit))), I 4], [(0, AObj.arr 25 Y0 0 false [(t, [d1, d2, d3, d4, d5], x, ())]), (1, AObj.arr 37 (Ty.str.pair ((i64T).pair ((i64T).pair ((i64T).pair (Ty.str.pair (Y0.pair ((i64T).slice.pair Ty.unit))))))) 0 true [([115, 116, 97, 114, 116, 115], 7, 0, 0, [], (0, [], [], ()), [s1, s2, s3, s4, s5], ()), ([101, 110, 100, 115], 7, 0, 0, [], (0, [], [], ()), [e1, e2, e3, e4, e5], ())]), (2, AObj.arr 9 Ty.str 0 false [[120]])]) else  bif !decide (IntKind.i64.wrap (bndI e5 d5 - bndI s5 d5) > 0) then some (AEnd.ret [(AV.d Ty.str []).pr ((I 0).pr (AV.nils.pr (AV.d Ty.unit PUnit.unit))), I 4], [(0, AObj.arr 25 Y0 0 false [(t, [d1, d2, d3, d4, d5], x, ())]), (1, AObj.arr 37 (Ty.str.pair ((i64T).pair ((i64T).pair ((i64T).pair (Ty.str.pair (Y0.pair ((i64T).slice.pair Ty.unit))))))) 0 true [([115, 116, 97, 114, 116, 115], 7, 0, 0, [], (0, [], [], ()), [s1, s2, s3, s4, s5], ()), ([101, 110, 100, 115], 7, 0, 0, [], (0, [], [], ()), [e1, e2, e3, e4, e5], ())]), (2, AObj.arr 9 Ty.str 0 false [[120]])]) else  bif countE [IntKind.i64.wrap (bndI e1 d1 - bndI s1 d1), IntKind.i64.wrap (bndI e2 d2 - bndI s2 d2), IntKind.i64.wrap (bndI e3 d3 - bndI s3 d3), IntKind.i64.wrap (bndI e4 d4 - bndI s4 d4), IntKind.i64.wrap (bndI e5 d5 - bndI s5 d5)] != 0 then some (AEnd.ret [(AV.d Ty.str []).pr ((I 0).pr (AV.nils.pr (AV.d Ty.unit PUnit.unit))), I (countE [IntKind.i64.wrap (bndI e1 d1 - bndI s1 d1), IntKind.i64.wrap (bndI e2 d2 - bndI s2 d2), IntKind.i64.wrap (bndI e3 d3 - bndI s3 d3), IntKind.i64.wrap (bndI e4 d4 - bndI s4 d4), IntKind.i64.wrap (bndI e5 d5 - bndI s5 d5)])], [(0, AObj.arr 25 Y0 0 false [(t, [d1, d2, d3, d4, d5], x, ())]), (1, AObj.arr 37 (Ty.str.pair ((i64T).pair ((i64T).pair ((i64T).pair (Ty.str.pair (Y0.pair ((i64T).slice.pair Ty.unit))))))) 0 true [([115, 116, 97, 114, 116, 115], 7, 0, 0, [], (0, [], [], ()), [s1, s2, s3, s4, s5], ()), ([101, 110, 100, 115], 7, 0, 0, [], (0, [], [], ()), [e1, e2, e3, e4, e5], ())]), (2, AObj.arr 9 Ty.str 0 false [[120]])]) else some (AEnd.ret [(AV.d Ty.str [121]).pr ((I t).pr ((AV.os 3 0).pr (AV.d Ty.unit PUnit.unit))), I 0], [(0, AObj.arr 25 Y0 0 false [(t, [d1, d2, d3, d4, d5], x, ())]), (1, AObj.arr 37 (Ty.str.pair ((i64T).pair ((i64T).pair ((i64T).pair (Ty.str.pair (Y0.pair ((i64T).slice.pair Ty.unit))))))) 0 true [([115, 116, 97, 114, 116, 115], 7, 0, 0, [], (0, [], [], ()), [s1, s2, s3, s4, s5], ()), ([101, 110, 100, 115], 7, 0, 0, [], (0, [], [], ()), [e1, e2, e3, e4, e5], ())]), (2, AObj.arr 9 Ty.str 0 false [[120]]), (3, AObj.arr 3 (i64T) 0 false [IntKind.i64.wrap (bndI e1 d1 - bndI s1 d1), IntKind.i64.wrap (bndI e2 d2 - bndI s2 d2), IntKind.i64.wrap (bndI e3 d3 - bndI s3 d3), IntKind.i64.wrap (bndI e4 d4 - bndI s4 d4), IntKind.i64.wrap (bndI e5 d5 - bndI s5 d5)])]) else  bif !decide (IntKind.i64.wrap (bndI e1 d1 - bndI s1 d1) > 0) then some (AEnd.ret [(AV.d Ty.str []).pr ((I 0).pr (AV.nils.pr (AV.d Ty.unit PUnit.unit))), I 4], [(0, AObj.arr 25 Y0 0 false [(t, [d1, d2, d3, d4, d5], x, ())]), (1, AObj.arr 37 (Ty.str.pair ((i64T).pair ((i64T).pair ((i64T).pair (Ty.str.pair (Y0.pair ((i64T).slice.pair Ty.unit))))))) 0 true [([115, 116, 97, 114, 116, 115], 7, 0, 0, [], (0, [], [], ()), [s1, s2, s3, s4, s5], ()), ([101, 110, 100, 115], 7, 0, 0, [], (0, [], [], ()), [e1, e2, e3, e4, e5], ())]), (2, AObj.arr 9 Ty.str 0 false [[120]])]) else  bif !decide (IntKind.i64.wrap (bndI e2 d2 - bndI s2 d2) > 0) then some (AEnd.ret [(AV.d Ty.str []).pr ((I 0).pr (AV.nils.pr (AV.d Ty.unit PUnit.unit))), I 4], [(0, AObj.arr 25 Y0 0 false [(t, [d1, d2, d3, d4, d5], x, ())]), (1, AObj.arr 37 (Ty.str.pair ((i64T).pair ((i64T).pair ((i64T).pair (Ty.str.pair (Y0.pair ((i64T).slice.pair Ty.unit))))))) 0 true [([115, 116, 97, 114, 116, 115], 7, 0, 0, [], (0, [], [], ()), [s1, s2, s3, s4, s5], ()), ([101, 110, 100, 115], 7, 0, 0, [], (0, [], [], ()), [e1, e2, e3, e4, e5], ())]), (2, AObj.arr 9 Ty.str 0 false [[120]])]) else  bif !decide (IntKind.i64.wrap (bndI e3 d3 - bndI s3 d3) > 0) then some (AEnd.ret [(AV.d Ty.str []).pr ((I 0).pr (AV.nils.pr (AV.d Ty.unit PUnit.unit))), I 4], [(0, AObj.arr 25 Y0 0 false [(t, [d1, d2, d3, d4, d5], x, ())]), (1, AObj.arr 37 (Ty.str.pair ((i64T).pair ((i64T).pair ((i64T).pair (Ty.str.pair (Y0.pair ((i64T).slice.pair Ty.unit))))))) 0 true [([115, 116, 97, 114, 116, 115], 7, 0, 0, [], (0, [], [], ()), [s1, s2, s3, s4, s5], ()), ([101, 110, 100, 115], 7, 0, 0, [], (0, [], [], ()), [e1, e2, e3, e4, e5], ())]), (2, AObj.arr 9 Ty.str 0 false [[120]])]) else  bif !decide (IntKind.i64.wrap (bndI e4 d4 - bndI s4 d4) > 0) then some (AEnd.ret [(AV.d Ty.str []).pr ((I 0).pr (AV.nils.pr (AV.d Ty.unit PUnit.unit))), I 4], [(0, AObj.arr 25 Y0 0 false [(t, [d1, d2, d3, d4, d5], x, ())]), (1, AObj.arr 37 (Ty.str.pair ((i64T).pair ((i64T).pair ((i64T).pair (Ty.str.pair (Y0.pair ((i64T).slice.pair Ty.unit))))))) 0 true [([115, 116, 97, 114, 116, 115], 7, 0, 0, [], (0, [], [], ()), [s1, s2, s3, s4, s5], ()), ([101, 110, 100, 115], 7, 0, 0, [], (0, [], [], ()), [e1, e2, e3, e4, e5], ())]), (2, AObj.arr 9 Ty.str 0 false [[120]])]) else  bif !decide (IntKind.i64.wrap (bndI e5 d5 - bndI s5 d5) > 0) then some (AEnd.ret [(AV.d Ty.str []).pr ((I 0).pr (AV.nils.pr (AV.d Ty.unit PUnit.unit))), I 4], [(0, AObj.arr 25 Y0 0 false [(t, [d1, d2, d3, d4, d5], x, ())]), (1, AObj.arr 37 (Ty.str.pair ((i64T).pair ((i64T).pair ((i64T).pair (Ty.str.pair (Y0.pair ((i64T).slice.pair Ty.unit))))))) 0 true [([115, 116, 97, 114, 116, 115], 7, 0, 0, [], (0, [], [], ()), [s1, s2, s3, s4, s5], ()), ([101, 110, 100, 115], 7, 0, 0, [], (0, [], [], ()), [e1, e2, e3, e4, e5], ())]), (2, AObj.arr 9 Ty.str 0 false [[120]])]) else  bif countE [IntKind.i64.wrap (bndI e1 d1 - bndI s1 d1), IntKind.i64.wrap (bndI e2 d2 - bndI s2 d2), IntKind.i64.wrap (bndI e3 d3 - bndI s3 d3), IntKind.i64.wrap (bndI e4 d4 - bndI s4 d4), IntKind.i64.wrap (bndI e5 d5 - bndI s5 d5)] != 0 then some (AEnd.ret [(AV.d Ty.str []).pr ((I 0).pr (AV.nils.pr (AV.d Ty.unit PUnit.unit))), I (countE [IntKind.i64.wrap (bndI e1 d1 - bndI s1 d1), IntKind.i64.wrap (bndI e2 d2 - bndI s2 d2), IntKind.i64.wrap (bndI e3 d3 - bndI s3 d3), IntKind.i64.wrap (bndI e4 d4 - bndI s4 d4), IntKind.i64.wrap (bndI e5 d5 - bndI s5 d5)])], [(0, AObj.arr 25 Y0 0 false [(t, [d1, d2, d3, d4, d5], x, ())]), (1, AObj.arr 37 (Ty.str.pair ((i64T).pair ((i64T).pair ((i64T).pair (Ty.str.pair (Y0.pair ((i64T).slice.pair Ty.unit))))))) 0 true [([115, 116, 97, 114, 116, 115], 7, 0, 0, [], (0, [], [], ()), [s1, s2, s3, s4, s5], ()), ([101, 110, 100, 115], 7, 0, 0, [], (0, [], [], ()), [e1, e2, e3, e4, e5], ())]), (2, AObj.arr 9 Ty.str 0 false [[120]])]) else some (AEnd.ret [(AV.d Ty.str [121]).pr ((I t).pr ((AV.os 3 0).pr (AV.d Ty.unit PUnit.unit))), I 0], [(0, AObj.arr 25 Y0 0 false [(t, [d1, d2, d3, d4, d5], x, ())]), (1, AObj.arr 37 (Ty.str.pair ((i64T).pair ((i64T).pair ((i64T).pair (Ty.str.pair (Y0.pair ((i64T).slice.pair Ty.unit))))))) 0 true [([115, 116, 97, 114, 116, 115], 7, 0, 0, [], (0, [], [], ()), [s1, s2, s3, s4, s5], ()), ([101, 110, 100, 115], 7, 0, 0, [], (0, [], [], ()), [e1, e2, e3, e4, e5], ())]), (2, AObj.arr 9 Ty.str 0 false [[120]]), (3, AObj.arr 3 (i64T) 0 false [IntKind.i64.wrap (bndI e1 d1 - bndI s1 d1), IntKind.i64.wrap (bndI e2 d2 - bndI s2 d2), IntKind.i64.wrap (bndI e3 d3 - bndI s3 d3), IntKind.i64.wrap (bndI e4 d4 - bndI s4 d4), IntKind.i64.wrap (bndI e5 d5 - bndI s5 d5)])]) else none := by kernel_rfl
theorem sbq6_eq (t s1 s2 s3 s4 s5 s6 e1 e2 e3 e4 e5 e6 d1 d2 d3 d4 d5 d6 : Int) (x : List Int) : runC gSb Tryz.f42 6 [(3, [2, 4, 6, 9, 10, 11])] [nodeA strSL [] [121] (.os 2 0) (.os 1 0), .os 0 0] (hpTb false t [d1, d2, d3, d4, d5, d6] x (at2 [s1, s2, s3, s4, s5, s6] [e1, e2, e3, e4, e5, e6])) ah = bif decide (6 ≤ 9223372036854775807 ∧ x.length ≤ 9223372036854775807) then  bif tenE t [d1, d2, d3, d4, d5, d6] x != 0 then some (AEnd.ret [(AV.d Ty.str []).pr ((I 0).pr (AV.nils.pr (AV.d Ty.unit PUnit.unit))), I 1], [(0, AObj.arr 25 Y0 0 false [(t, [d1, d2, d3, d4, d5, d6], x, ())]), (1, AObj.arr 37 (Ty.str.pair ((i64T).pair ((i64T).pair ((i64T).pair (Ty.str.pair (Y0.pair ((i64T).slice.pair Ty.unit))))))) 0 false [([115, 116, 97, 114, 116, 115], 7, 0, 0, [], (0, [], [], ()), [s1, s2, s3, s4, s5, s6], ()), ([101, 110, 100, 115], 7, 0, 0, [], (0, [], [], ()), [e1, e2, e3, e4, e5, e6], ())]), (2, AObj.arr 9 Ty.str 0 false [[120]])]) else  bif !numOk t 0 then some (AEnd.ret [(AV.d Ty.str []).pr ((I 0).pr (AV.nils.pr (AV.d Ty.unit PUnit.unit))), I 5], [(0, AObj.arr 25 Y0 0 false [(t, [d1, d2, d3, d4, d5, d6], x, ())]), (1, AObj.arr 37 (Ty.str.pair ((i64T).pair ((i64T).pair ((i64T).pair (Ty.str.pair (Y0.pair ((i64T).slice.pair Ty.unit))))))) 0 true [([115, 116, 97, 114, 116, 115], 7, 0, 0, [], (0, [], [], ()), [s1, s2, s3, s4, s5, s6], ()), ([101, 110, 100, 115], 7, 0, 0, [], (0, [], [], ()), [e1, e2, e3, e4, e5, e6], ())]), (2, AObj.arr 9 Ty.str 0 false [[120]])]) else  bif countE [d1, d2, d3, d4, d5, d6] != 0 then some (AEnd.ret [(AV.d Ty.str []).pr ((I 0).pr (AV.nils.pr (AV.d Ty.unit PUnit.unit))), I (countE [d1, d2, d3, d4, d5, d6])], [(0, AObj.arr 25 Y0 0 false [(t, [d1, d2, d3, d4, d5, d6], x, ())]), (1, AObj.arr 37 (Ty.str.pair ((i64T).pair ((i64T).pair ((i64T).pair (Ty.str.pair (Y0.pair ((i64T).slice.pair Ty.unit))))))) 0 true [([115, 116, 97, 114, 116, 115], 7, 0, 0, [], (0, [], [], ()), [s1, s2, s3, s4, s5, s6], ()), ([101, 110, 100, 115], 7, 0, 0, [], (0, [], [], ()), [e1, e2, e3, e4, e5, e6], ())]), (2, AObj.arr 9 Ty.str 0 false [[120]])]) else  bif t == 6 then  bif !decide (IntKind.i64.wrap (bndI e1 d1 - bndI s1 d1) > 0) then some (AEnd.ret [(AV.d Ty.str []).pr ((I 0).pr (AV.nils.pr (AV.d Ty.unit PUnit.unit))), I 4], [(0, AObj.arr 25 Y0 0 false [(t, [d1, d2, d3, d4, d5, d6], x, ())]), (1, AObj.arr 37 (Ty.str.pair ((i64T).pair ((i64T).pair ((i64T).pair (Ty.str.pair (Y0.pair ((i64T).slice.pair Ty.unit))))))) 0 true [([115, 116, 97, 114, 116, 115], 7, 0, 0, [], (0, [], [], ()), [s1, s2, s3, s4, s5, s6], ()), ([101, 110, 100, 115], 7, 0, 0, [], (0, [], [], ()), [e1, e2, e3, e4, e5, e6], ())]), (2, AObj.arr 9 Ty.str 0 false [[120]])]) else  bif !decide (IntKind.i64.wrap (bndI e2 d2 - bndI s2 d2) > 0) then some (AEnd.ret [(AV.d Ty.str []).pr ((I 0).pr (AV.nils.pr (AV.d Ty.unit PUnit.unit))), I 4], [(0, AObj.arr 25 Y0 0 false [(t, [d1, d2, d3, d4, d5, d6], x, ())]), (1, AObj.arr 37 (Ty.str.pair ((i64T).pair ((i64T).pair ((i64T).pair (Ty.str.pair (Y0.pair ((i64T).slice.pair Ty.unit))))))) 0 true [([115, 116, 97, 114, 116, 115], 7, 0, 0, [], (0, [], [], ()), [s1, s2, s3, s4, s5, s6], ()), ([101, 110, 100, 115], 7, 0, 0, [], (0, [], [], ()), [e1, e2, e3, e4, e5, e6], ())]), (2, AObj.arr 9 Ty.str 0 false [[120]])]) else  bif !decide (IntKind.i64.wrap (bndI e3 d3 - bndI s3 d3) > 0) then some (AEnd.ret [(AV.d Ty.str []).pr ((I 0).pr (AV.nils.pr (AV.d Ty.unit PUnit.unit))), I 4], [(0, AObj.arr 25 Y0 0 false [(t, [d1, d2, d3, d4, d5, d6], x, ())]), (1, AObj.arr 37 (Ty.str.pair ((i64T).pair ((i64T).pair ((i64T).pair (Ty.str.pair (Y0.pair ((i64T).slice.pair Ty.unit))))))) 0 true [([115, 116, 97, 114, 116, 115], 7, 0, 0, [], (0, [], [], ()), [s1, s2, s3, s4, s5, s6], ()), ([101, 110, 100, 115], 7, 0, 0, [], (0, [], [], ()), [e1, e2, e3, e4, e5, e6], ())]), (2, AObj.arr 9 Ty.str 0 false [[120]])]) else  bif !decide (IntKind.i64.wrap (bndI e4 d4 - bndI s4 d4) > 0) then some (AEnd.ret [(AV.d Ty.str []).pr ((I 0).pr (AV.nils.pr (AV.d Ty.unit PUnit.unit))), I 4], [(0, AObj.arr 25 Y0 0 false [(t, [d1, d2, d3, d4, d5, d6], x, ())]), (1, AObj.arr 37 (Ty.str.pair ((i64T).pair ((i64T).pair ((i64T).pair (Ty.str.pair (Y0.pair ((i64T).slice.pair Ty.unit))))))) 0 true [([115, 116, 97, 114, 116, 115], 7, 0, 0, [], (0, [], [], ()), [s1, s2, s3, s4, s5, s6], ()), ([101, 110, 100, 115], 7, 0, 0, [], (0, [], [], ()), [e1, e2, e3, e4, e5, e6], ())]), (2, AObj.arr 9 Ty.str 0 false [[120]])]) else  bif !decide (IntKind.i64.wrap (bndI e5 d5 - bndI s5 d5) > 0) then some (AEnd.ret [(AV.d Ty.str []).pr ((I 0).pr (AV.nils.pr (AV.d Ty.unit PUnit.unit))), I 4], [(0, AObj.arr 25 Y0 0 false [(t, [d1, d2, d3, d4, d5, d6], x, ())]), (1, AObj.arr 37 (Ty.str.pair ((i64T).pair ((i64T).pair ((i64T).pair (Ty.str.pair (Y0.pair ((i64T).slice.pair Ty.unit))))))) 0 true [([115, 116, 97, 114, 116, 115], 7, 0, 0, [], (0, [], [], ()), [s1, s2, s3, s4, s5, s6], ()), ([101, 110, 100, 115], 7, 0, 0, [], (0, [], [], ()), [e1, e2, e3, e4, e5, e6], ())]), (2, AObj.arr 9 Ty.str 0 false [[120]])]) else  bif !decide (IntKind.i64.wrap (bndI e6 d6 - bndI s6 d6) > 0) then some (AEnd.ret [(AV.d Ty.str []).pr ((I 0).pr (AV.nils.pr (AV.d Ty.unit PUnit.unit))), I 4], [(0, AObj.arr 25 Y0 0 false [(t, [d1, d2, d3, d4, d5, d6], x, ())]), (1, AObj.arr 37 (Ty.str.pair ((i64T).pair ((i64T).pair ((i64T).pair (Ty.str.pair (Y0.pair ((i64T).slice.pair Ty.unit))))))) 0 true [([115, 116, 97, 114, 116, 115], 7, 0, 0, [], (0, [], [], ()), [s1, s2, s3, s4, s5, s6], ()), ([101, 110, 100, 115], 7, 0, 0, [], (0, [], [], ()), [e1, e2, e3, e4, e5, e6], ())]), (2, AObj.arr 9 Ty.str 0 false [[120]])]) else  bif countE [IntKind.i64.wrap (bndI e1 d1 - bndI s1 d1), IntKind.i64.wrap (bndI e2 d2 - bndI s2 d2), IntKind.i64.wrap (bndI e3 d3 - bndI s3 d3), IntKind.i64.wrap (bndI e4 d4 - bndI s4 d4), IntKind.i64.wrap (bndI e5 d5 - bndI s5 d5), IntKind.i64.wrap (bndI e6 d6 - bndI s6 d6)] != 0 then some (AEnd.ret [(AV.d Ty.str []).pr ((I 0).pr (AV.nils.pr (AV.d Ty.unit PUnit.unit))), I (countE [IntKind.i64.wrap (bndI e1 d1 - bndI s1 d1), IntKind.i64.wrap (bndI e2 d2 - bndI s2 d2), IntKind.i64.wrap (bndI e3 d3 - bndI s3 d3), IntKind.i64.wrap (bndI e4 d4 - bndI s4 d4), IntKind.i64.wrap (bndI e5 d5 - bndI s5 d5), IntKind.i64.wrap (bndI e6 d6 - bndI s6 d6)])], [(0, AObj.arr 25 Y0 0 false [(t, [d1, d2, d3, d4, d5, d6], x, ())]), (1, AObj.arr 37 (Ty.str.pair ((i64T).pair ((i64T).pair ((i64T).pair (Ty.str.pair (Y0.pair ((i64T).slice.pair Ty.unit))))))) 0 true [([115, 116, 97, 114, 116, 115], 7, 0, 0, [], (0, [], [], ()), [s1, s2, s3, s4, s5, s6], ()), ([101, 110, 100, 115], 7, 0, 0, [], (0, [], [], ()), [e1, e2, e3, e4, e5, e6], ())]), (2, AObj.arr 9 Ty.str 0 false [[120]])]) else some (AEnd.ret [(AV.d Ty.str [121]).pr ((I t).pr ((AV.os 3 0).pr (AV.d Ty.unit PUnit.unit))), I 0], [(0, AObj.arr 25 Y0 0 false [(t, [d1, d2, d3, d4, d5, d6], x, ())]), (1, AObj.arr 37 (Ty.str.pair ((i64T).pair ((i64T).pair ((i64T).pair (Ty.str.pair (Y0.pair ((i64T).slice.pair Ty.unit))))))) 0 true [([115, 116, 97, 114, 116, 115], 7, 0, 0, [], (0, [], [], ()), [s1, s2, s3, s4, s5, s6], ()), ([101, 110, 100, 115], 7, 0, 0, [], (0, [], [], ()), [e1, e2, e3, e4, e5, e6], ())]), (2, AObj.arr 9 Ty.str 0 false [[120]]), (3, AObj.arr 3 (i64T) 0 false [IntKind.i64.wrap (bndI e1 d1 - bndI s1 d1), IntKind.i64.wrap (bndI e2 d2 - bndI s2 d2), IntKind.i64.wrap (bndI e3 d3 - bndI s3 d3), IntKind.i64.wrap (bndI e4 d4 - bndI s4 d4), IntKind.i64.wrap (bndI e5 d5 - bndI s5 d5), IntKind.i64.wrap (bndI e6 d6 - bndI s6 d6)])]) else  bif !decide (IntKind.i64.wrap (bndI e1 d1 - bndI s1 d1) > 0) then some (AEnd.ret [(AV.d Ty.str []).pr ((I 0).pr (AV.nils.pr (AV.d Ty.unit PUnit.unit))), I 4], [(0, AObj.arr 25 Y0 0 false [(t, [d1, d2, d3, d4, d5, d6], x, ())]), (1, AObj.arr 37 (Ty.str.pair ((i64T).pair ((i64T).pair ((i64T).pair (Ty.str.pair (Y0.pair ((i64T).slice.pair Ty.unit))))))) 0 true [([115, 116, 97, 114, 116, 115], 7, 0, 0, [], (0, [], [], ()), [s1, s2, s3, s4, s5, s6], ()), ([101, 110, 100, 115], 7, 0, 0, [], (0, [], [], ()), [e1, e2, e3, e4, e5, e6], ())]), (2, AObj.arr 9 Ty.str 0 false [[120]])]) else  bif !decide (IntKind.i64.wrap (bndI e2 d2 - bndI s2 d2) > 0) then some (AEnd.ret [(AV.d Ty.str []).pr ((I 0).pr (AV.nils.pr (AV.d Ty.unit PUnit.unit))), I 4], [(0, AObj.arr 25 Y0 0 false [(t, [d1, d2, d3, d4, d5, d6], x, ())]), (1, AObj.arr 37 (Ty.str.pair ((i64T).pair ((i64T).pair ((i64T).pair (Ty.str.pair (Y0.pair ((i64T).slice.pair Ty.unit))))))) 0 true [([115, 116, 97, 114, 116, 115], 7, 0, 0, [], (0, [], [], ()), [s1, s2, s3, s4, s5, s6], ()), ([101, 110, 100, 115], 7, 0, 0, [], (0, [], [], ()), [e1, e2, e3, e4, e5, e6], ())]), (2, AObj.arr 9 Ty.str 0 false [[120]])]) else  bif !decide (IntKind.i64.wrap (bndI e3 d3 - bndI s3 d3) > 0) then some (AEnd.ret [(AV.d Ty.str []).pr ((I 0).pr (AV.nils.pr (AV.d Ty.unit PUnit.unit))), I 4], [(0, AObj.arr 25 Y0 0 false [(t, [d1, d2, d3, d4, d5, d6], x, ())]), (1, AObj.arr 37 (Ty.str.pair ((i64T).pair ((i64T).pair ((i64T).pair (Ty.str.pair (Y0.pair ((i64T).slice.pair Ty.unit))))))) 0 true [([115, 116, 97, 114, 116, 115], 7, 0, 0, [], (0, [], [], ()), [s1, s2, s3, s4, s5, s6], ()), ([101, 110, 100, 115], 7, 0, 0, [], (0, [], [], ()), [e1, e2, e3, e4, e5, e6], ())]), (2, AObj.arr 9 Ty.str 0 false [[120]])]) else  bif !decide (IntKind.i64.wrap (bndI e4 d4 - bndI s4 d4) > 0) then some (AEnd.ret [(AV.d Ty.str []).pr ((I 0).pr (AV.nils.pr (AV.d Ty.unit PUnit.unit))), I 4], [(0, AObj.arr 25 Y0 0 false [(t, [d1, d2, d3, d4, d5, d6], x, ())]), (1, AObj.arr 37 (Ty.str.pair ((i64T).pair ((i64T).pair ((i64T).pair (Ty.str.pair (Y0.pair ((i64T).slice.pair Ty.unit))))))) 0 true [([115, 116, 97, 114, 116, 115], 7, 0, 0, [], (0, [], [], ()), [s1, s2, s3, s4, s5, s6], ()), ([101, 110, 100, 115], 7, 0, 0, [], (0, [], [], ()), [e1, e2, e3, e4, e5, e6], ())]), (2, AObj.arr 9 Ty.str 0 false [[120]])]) else  bif !decide (IntKind.i64.wrap (bndI e5 d5 - bndI s5 d5) > 0) then some (AEnd.ret [(AV.d Ty.str []).pr ((I 0).pr (AV.nils.pr (AV.d Ty.unit PUnit.unit))), I 4], [(0, AObj.arr 25 Y0 0 false [(t, [d1, d2, d3, d4, d5, d6], x, ())]), (1, AObj.arr 37 (Ty.str.pair ((i64T).pair ((i64T).pair ((i64T).pair (Ty.str.pair (Y0.pair ((i64T).slice.pair Ty.unit))))))) 0 true [([115, 116, 97, 114, 116, 115], 7, 0, 0, [], (0, [], [], ()), [s1, s2, s3, s4, s5, s6], ()), ([101, 110, 100, 115], 7, 0, 0, [], (0, [], [], ()), [e1, e2, e3, e4, e5, e6], ())]), (2, AObj.arr 9 Ty.str 0 false [[120]])]) else  bif !decide (IntKind.i64.wrap (bndI e6 d6 - bndI s6 d6) > 0) then some (AEnd.ret [(AV.d Ty.str []).pr ((I 0).pr (AV.nils.pr (AV.d Ty.unit PUnit.unit))), I 4], [(0, AObj.arr 25 Y0 0 false [(t, [d1, d2, d3, d4, d5, d6], x, ())]), (1, AObj.arr 37 (Ty.str.pair ((i64T).pair ((i64T).pair ((i64T).pair (Ty.str.pair (Y0.pair ((i64T).slice.pair Ty.unit))))))) 0 true [([115, 116, 97, 114, 116, 115], 7, 0, 0, [], (0, [], [], ()), [s1, s2, s3, s4, s5, s6], ()), ([101, 110, 100, 115], 7, 0, 0, [], (0, [], [], ()), [e1, e2, e3, e4, e5, e6], ())]), (2, AObj.arr 9 Ty.str 0 false [[120]])]) else  bif countE [IntKind.i64.wrap (bndI e1 d1 - bndI s1 d1), IntKind.i64.wrap (bndI e2 d2 - bndI s2 d2), IntKind.i64.wrap (bndI e3 d3 - bndI s3 d3), IntKind.i64.wrap (bndI e4 d4 - bndI s4 d4), IntKind.i64.wrap (bndI e5 d5 - bndI s5 d5), IntKind.i64.wrap (bndI e6 d6 - bndI s6 d6)] != 0 then some (AEnd.ret [(AV.d Ty.str []).pr ((I 0).pr (AV.nils.pr (AV.d Ty.unit PUnit.unit))), I (countE [IntKind.i64.wrap (bndI e1 d1 - bndI s1 d1), IntKind.i64.wrap (bndI e2 d2 - bndI s2 d2), IntKind.i64.wrap (bndI e3 d3 - bndI s3 d3), IntKind.i64.wrap (bndI e4 d4 - bndI s4 d4), IntKind.i64.wrap (bndI e5 d5 - bndI s5 d5), IntKind.i64.wrap (bndI e6 d6 - bndI s6 d6)])], [(0, AObj.arr 25 Y0 0 false [(t, [d1, d2, d3, d4, d5, d6], x, ())]), (1, AObj.arr 37 (Ty.str.pair ((i64T).pair ((i64T).pair ((i64T).pair (Ty.str.pair (Y0.pair ((i64T).slice.pair Ty.unit))))))) 0 true [([115, 116, 97, 114, 116, 115], 7, 0, 0, [], (0, [], [], ()), [s1, s2, s3, s4, s5, s6], ()), ([101, 110, 100, 115], 7, 0, 0, [], (0, [], [], ()), [e1, e2, e3, e4, e5, e6], ())]), (2, AObj.arr 9 Ty.str 0 false [[120]])]) else some (AEnd.ret [(AV.d Ty.str [121]).pr ((I t).pr ((AV.os 3 0).pr (AV.d Ty.unit PUnit.unit))), I 0], [(0, AObj.arr 25 Y0 0 false [(t, [d1, d2, d3, d4, d5, d6], x, ())]), (1, AObj.arr 37 (Ty.str.pair ((i64T).pair ((i64T).pair ((i64T).pair (Ty.str.pair (Y0.pair ((i64T).slice.pair Ty.unit))))))) 0 true [([115, 116, 97, 114, 116, 115], 7, 0, 0, [], (0, [], [], ()), [s1, s2, s3, s4, s5, s6], ()), ([101, 110, 100, 115], 7, 0, 0, [], (0, [], [], ()), [e1, e2, e3, e4, e5, e6], ())]), (2, AObj.arr 9 Ty.str 0 false [[120]]), (3, AObj.arr 3 (i64T) 0 false [IntKind.i64.wrap (bndI e1 d1 - bndI s1 d1), IntKind.i64.wrap (bndI e2 d2 - bndI s2 d2), IntKind.i64.wrap (bndI e3 d3 - bndI s3 d3), IntKind.i64.wrap (bndI e4 d4 - bndI s4 d4), IntKind.i64.wrap (bndI e5 d5 - bndI s5 d5), IntKind.i64.wrap (bndI e6 d6 - bndI s6 d6)])]) else none := by kernel_rfl
end Go.Proofs.XGT
namespace Go.Proofs.XGT
open Go.Vm Go
set_option maxRecDepth 100000
set_option maxHeartbeats 4000000
/-- ends less starts -/
def difI : List Int → List Int → List Int
  | e :: r, s :: u => (e - s) :: difI r u
  | _, _ => []
def fitB : List Nat → List Nat → List Nat → Bool
  | [], [], [] => true
  | f :: r, w :: u, d :: v => decide (f + w ≤ d) && (decide (1 ≤ w) && fitB r u v)
  | _, _, _ => false
theorem fitB_ok : ∀ {f w d : List Nat}, fitB f w d = true → fitN f w d
  | [], [], [], _ => trivial
  | f :: r, w :: u, d :: v, h => by
    rw [show fitB (f :: r) (w :: u) (d :: v) = (decide (f + w ≤ d) && (decide (1 ≤ w) && fitB r u v)) from rfl, Bool.and_eq_true, Bool.and_eq_true] at h
    exact ⟨of_decide_eq_true h.1, of_decide_eq_true h.2.1, fitB_ok h.2.2⟩
theorem fitB_of : ∀ {f w d : List Nat}, fitN f w d → fitB f w d = true
  | [], [], [], _ => rfl
  | f :: r, w :: u, d :: v, h => by
    rw [show fitB (f :: r) (w :: u) (d :: v) = (decide (f + w ≤ d) && (decide (1 ≤ w) && fitB r u v)) from rfl, decide_eq_true h.1, decide_eq_true h.2.1, fitB_of (f := r) (w := u) (d := v) h.2.2]
    rfl
/-- a cut that stays within the dims, told in natural numbers -/
def cutB (t : Int) (d s e x : List Int) : Bool := decide (tenE t d x = 0 ∧ d ≠ [] ∧ (∀ v ∈ s, 0 ≤ v) ∧ s.length = d.length ∧ e.length = d.length) && fitB (s.map Int.toNat) ((difI e s).map Int.toNat) (d.map Int.toNat)
theorem cutB_ok {t : Int} {d s e x : List Int} (h : cutB t d s e x = true) : tenE t d x = 0 ∧ d ≠ [] ∧ (∀ v ∈ s, 0 ≤ v) ∧ s.length = d.length ∧ e.length = d.length ∧ fitN (s.map Int.toNat) ((difI e s).map Int.toNat) (d.map Int.toNat) := by
  unfold cutB at h
  rw [Bool.and_eq_true] at h
  obtain ⟨a, b, c, d, e⟩ := of_decide_eq_true h.1
  exact ⟨a, b, c, d, e, fitB_ok h.2⟩
theorem dif_nat {s e d : List Int} (h : fitN (s.map Int.toNat) ((difI e s).map Int.toNat) (d.map Int.toNat)) : ints ((difI e s).map Int.toNat) = difI e s := by
  refine ints_nat fun x hx => ?_
  have := fit_one h x.toNat (List.mem_map_of_mem hx)
  omega
theorem dif_count {s e d : List Int} (hd : countE d = 0) (h : fitN (s.map Int.toNat) ((difI e s).map Int.toNat) (d.map Int.toNat)) : countE (difI e s) = 0 := by
  obtain ⟨D, eD, eD2, o1, o2, o3⟩ := nat_dims hd
  have e1 := dif_nat h
  rw [← eD2] at h
  rw [← e1]
  exact count_ints (fit_one h) (Nat.le_trans (fit_prod h) o2) (by rw [(fitN_len h).2]; exact o3)
theorem bnd_dif {g e d : Int} (h0 : 0 ≤ g) (h1 : g.toNat + (e - g).toNat ≤ d.toNat) (h2 : 1 ≤ (e - g).toNat) (h3 : d ≤ 65536) : IntKind.i64.wrap (bndI e d - bndI g d) = e - g ∧ decide (e - g > 0) = true := by
  have a1 : bndI e d = e := by
    unfold bndI
    rw [decide_eq_false (by omega), cond_false]
    split <;> split <;> omega
  have a2 : bndI g d = g := by
    unfold bndI
    rw [decide_eq_false (by omega), cond_false]
    split <;> split <;> omega
  rw [a1, a2]
  exact ⟨wrap64 (by omega) (by omega), decide_eq_true (by omega)⟩
theorem dim_le {d : List Int} (h : countE d = 0) : ∀ y ∈ d, y ≤ 65536 := by
  obtain ⟨D, rfl, _, o1, o2, o3⟩ := nat_dims h
  intro y hy
  obtain ⟨z, hz, rfl⟩ := List.mem_map.1 hy
  have := le_prodN o1 z hz
  omega
def cqR (t : Int) (d x s e : List Int) : AEnd × LHp := (.ret [(AV.d Ty.str [121]).pr ((I t).pr ((AV.os 3 0).pr (AV.d Ty.unit PUnit.unit))), I 0], hpTb true t d x (at2 s e) ++ [(3, .arr 3 i64T 0 false (difI e s))])
theorem bq1 {t s1 e1 d1 : Int} {x : List Int} (h : cutB t [d1] [s1] [e1] x = true) : runC gSb Tryz.f42 6 [(3, [2, 4, 6, 9, 10, 11])] [nodeA strSL [] [121] (.os 2 0) (.os 1 0), .os 0 0] (hpTb false t [d1] x (at2 [s1] [e1])) ah = some (cqR t [d1] x [s1] [e1]) := by
  obtain ⟨ht, _, hs, _, _, hf⟩ := cutB_ok h
  obtain ⟨n1, n2, n3, _⟩ := ten_ok ht
  obtain ⟨_, _, m1, q1⟩ := count_ok n2
  have hd := dim_le n2
  have hc : countE [e1 - s1] = 0 := dif_count n2 hf
  have c1 := bnd_dif (hs s1 (by simp)) hf.1 hf.2.1 (hd d1 (by simp))
  rw [sbq1_eq, decide_eq_true (show 1 ≤ 9223372036854775807 ∧ x.length ≤ 9223372036854775807 by omega), ht, n1, n2, c1.1, hc, c1.2]
  cases t == 6 <;> rfl
theorem bq2 {t s1 s2 e1 e2 d1 d2 : Int} {x : List Int} (h : cutB t [d1, d2] [s1, s2] [e1, e2] x = true) : runC gSb Tryz.f42 6 [(3, [2, 4, 6, 9, 10, 11])] [nodeA strSL [] [121] (.os 2 0) (.os 1 0), .os 0 0] (hpTb false t [d1, d2] x (at2 [s1, s2] [e1, e2])) ah = some (cqR t [d1, d2] x [s1, s2] [e1, e2]) := by
  obtain ⟨ht, _, hs, _, _, hf⟩ := cutB_ok h
  obtain ⟨n1, n2, n3, _⟩ := ten_ok ht
  obtain ⟨_, _, m1, q1⟩ := count_ok n2
  have hd := dim_le n2
  have hc : countE [e1 - s1, e2 - s2] = 0 := dif_count n2 hf
  have c1 := bnd_dif (hs s1 (by simp)) hf.1 hf.2.1 (hd d1 (by simp))
  have c2 := bnd_dif (hs s2 (by simp)) hf.2.2.1 hf.2.2.2.1 (hd d2 (by simp))
  rw [sbq2_eq, decide_eq_true (show 2 ≤ 9223372036854775807 ∧ x.length ≤ 9223372036854775807 by omega), ht, n1, n2, c1.1, c2.1, hc, c1.2, c2.2]
  cases t == 6 <;> rfl
theorem bq3 {t s1 s2 s3 e1 e2 e3 d1 d2 d3 : Int} {x : List Int} (h : cutB t [d1, d2, d3] [s1, s2, s3] [e1, e2, e3] x = true) : runC gSb Tryz.f42 6 [(3, [2, 4, 6, 9, 10, 11])] [nodeA strSL [] [121] (.os 2 0) (.os 1 0), .os 0 0] (hpTb false t [d1, d2, d3] x (at2 [s1, s2, s3] [e1, e2, e3])) ah = some (cqR t [d1, d2, d3] x [s1, s2, s3] [e1, e2, e3]) := by
  obtain ⟨ht, _, hs, _, _, hf⟩ := cutB_ok h
  obtain ⟨n1, n2, n3, _⟩ := ten_ok ht
  obtain ⟨_, _, m1, q1⟩ := count_ok n2
  have hd := dim_le n2
  have hc : countE [e1 - s1, e2 - s2, e3 - s3] = 0 := dif_count n2 hf
  have c1 := bnd_dif (hs s1 (by simp)) hf.1 hf.2.1 (hd d1 (by simp))
  have c2 := bnd_dif (hs s2 (by simp)) hf.2.2.1 hf.2.2.2.1 (hd d2 (by simp))
  have c3 := bnd_dif (hs s3 (by simp)) hf.2.2.2.2.1 hf.2.2.2.2.2.1 (hd d3 (by simp))
  rw [sbq3_eq, decide_eq_true (show 3 ≤ 9223372036854775807 ∧ x.length ≤ 9223372036854775807 by omega), ht, n1, n2, c1.1, c2.1, c3.1, hc, c1.2, c2.2, c3.2]
  cases t == 6 <;> rfl
theorem bq4 {t s1 s2 s3 s4 e1 e2 e3 e4 d1 d2 d3 d4 : Int} {x : List Int} (h : cutB t [d1, d2, d3, d4] [s1, s2, s3, s4] [e1, e2, e3, e4] x = true) : runC gSb Tryz.f42 6 [(3, [2, 4, 6, 9, 10, 11])] [nodeA strSL [] [121] (.os 2 0) (.os 1 0), .os 0 0] (hpTb false t [d1, d2, d3, d4] x (at2 [s1, s2, s3, s4] [e1, e2, e3, e4])) ah = some (cqR t [d1, d2, d3, d4] x [s1, s2, s3, s4] [e1, e2, e3, e4]) := by
  obtain ⟨ht, _, hs, _, _, hf⟩ := cutB_ok h
  obtain ⟨n1, n2, n3, _⟩ := ten_ok ht
  obtain ⟨_, _, m1, q1⟩ := count_ok n2
  have hd := dim_le n2
  have hc : countE [e1 - s1, e2 - s2, e3 - s3, e4 - s4] = 0 := dif_count n2 hf
  have c1 := bnd_dif (hs s1 (by simp)) hf.1 hf.2.1 (hd d1 (by simp))
  have c2 := bnd_dif (hs s2 (by simp)) hf.2.2.1 hf.2.2.2.1 (hd d2 (by simp))
  have c3 := bnd_dif (hs s3 (by simp)) hf.2.2.2.2.1 hf.2.2.2.2.2.1 (hd d3 (by simp))
  have c4 := bnd_dif (hs s4 (by simp)) hf.2.2.2.2.2.2.1 hf.2.2.2.2.2.2.2.1 (hd d4 (by simp))
  rw [sbq4_eq, decide_eq_true (show 4 ≤ 9223372036854775807 ∧ x.length ≤ 9223372036854775807 by omega), ht, n1, n2, c1.1, c2.1, c3.1, c4.1, hc, c1.2, c2.2, c3.2, c4.2]
  cases t == 6 <;> rfl
theorem bq5 {t s1 s2 s3 s4 s5 e1 e2 e3 e4 e5 d1 d2 d3 d4 d5 : Int} {x : List Int} (h : cutB t [d1, d2, d3, d4, d5] [s1, s2, s3, s4, s5] [e1, e2, e3, e4, e5] x = true) : runC gSb Tryz.f42 6 [(3, [2, 4, 6, 9, 10, 11])] [nodeA strSL [] [121] (.os 2 0) (.os 1 0), .os 0 0] (hpTb false t [d1, d2, d3, d4, d5] x (at2 [s1, s2, s3, s4, s5] [e1, e2, e3, e4, e5])) ah = some (cqR t [d1, d2, d3, d4, d5] x [s1, s2, s3, s4, s5] [e1, e2, e3, e4, e5]) := by
  obtain ⟨ht, _, hs, _, _, hf⟩ := cutB_ok h
  obtain ⟨n1, n2, n3, _⟩ := ten_ok ht
  obtain ⟨_, _, m1, q1⟩ := count_ok n2
  have hd := dim_le n2
  have hc : countE [e1 - s1, e2 - s2, e3 - s3, e4 - s4, e5 - s5] = 0 := dif_count n2 hf
  have c1 := bnd_dif (hs s1 (by simp)) hf.1 hf.2.1 (hd d1 (by simp))
  have c2 := bnd_dif (hs s2 (by simp)) hf.2.2.1 hf.2.2.2.1 (hd d2 (by simp))
  have c3 := bnd_dif (hs s3 (by simp)) hf.2.2.2.2.1 hf.2.2.2.2.2.1 (hd d3 (by simp))
  have c4 := bnd_dif (hs s4 (by simp)) hf.2.2.2.2.2.2.1 hf.2.2.2.2.2.2.2.1 (hd d4 (by simp))
  have c5 := bnd_dif (hs s5 (by simp)) hf.2.2.2.2.2.2.2.2.1 hf.2.2.2.2.2.2.2.2.2.1 (hd d5 (by simp))
  rw [sbq5_eq, decide_eq_true (show 5 ≤ 9223372036854775807 ∧ x.length ≤ 9223372036854775807 by omega), ht, n1, n2, c1.1, c2.1, c3.1, c4.1, c5.1, hc, c1.2, c2.2, c3.2, c4.2, c5.2]
  cases t == 6 <;> rfl
theorem bq6 {t s1 s2 s3 s4 s5 s6 e1 e2 e3 e4 e5 e6 d1 d2 d3 d4 d5 d6 : Int} {x : List Int} (h : cutB t [d1, d2, d3, d4, d5, d6] [s1, s2, s3, s4, s5, s6] [e1, e2, e3, e4, e5, e6] x = true) : runC gSb Tryz.f42 6 [(3, [2, 4, 6, 9, 10, 11])] [nodeA strSL [] [121] (.os 2 0) (.os 1 0), .os 0 0] (hpTb false t [d1, d2, d3, d4, d5, d6] x (at2 [s1, s2, s3, s4, s5, s6] [e1, e2, e3, e4, e5, e6])) ah = some (cqR t [d1, d2, d3, d4, d5, d6] x [s1, s2, s3, s4, s5, s6] [e1, e2, e3, e4, e5, e6]) := by
  obtain ⟨ht, _, hs, _, _, hf⟩ := cutB_ok h
  obtain ⟨n1, n2, n3, _⟩ := ten_ok ht
  obtain ⟨_, _, m1, q1⟩ := count_ok n2
  have hd := dim_le n2
  have hc : countE [e1 - s1, e2 - s2, e3 - s3, e4 - s4, e5 - s5, e6 - s6] = 0 := dif_count n2 hf
  have c1 := bnd_dif (hs s1 (by simp)) hf.1 hf.2.1 (hd d1 (by simp))
  have c2 := bnd_dif (hs s2 (by simp)) hf.2.2.1 hf.2.2.2.1 (hd d2 (by simp))
  have c3 := bnd_dif (hs s3 (by simp)) hf.2.2.2.2.1 hf.2.2.2.2.2.1 (hd d3 (by simp))
  have c4 := bnd_dif (hs s4 (by simp)) hf.2.2.2.2.2.2.1 hf.2.2.2.2.2.2.2.1 (hd d4 (by simp))
  have c5 := bnd_dif (hs s5 (by simp)) hf.2.2.2.2.2.2.2.2.1 hf.2.2.2.2.2.2.2.2.2.1 (hd d5 (by simp))
  have c6 := bnd_dif (hs s6 (by simp)) hf.2.2.2.2.2.2.2.2.2.2.1 hf.2.2.2.2.2.2.2.2.2.2.2.1 (hd d6 (by simp))
  rw [sbq6_eq, decide_eq_true (show 6 ≤ 9223372036854775807 ∧ x.length ≤ 9223372036854775807 by omega), ht, n1, n2, c1.1, c2.1, c3.1, c4.1, c5.1, c6.1, hc, c1.2, c2.2, c3.2, c4.2, c5.2, c6.2]
  cases t == 6 <;> rfl
theorem bq_run {t : Int} {d s e x : List Int} (h : cutB t d s e x = true) : runC gSb Tryz.f42 6 [(3, [2, 4, 6, 9, 10, 11])] [nodeA strSL [] [121] (.os 2 0) (.os 1 0), .os 0 0] (hpTb false t d x (at2 s e)) ah = some (cqR t d x s e) := by
  obtain ⟨ht, hne, hs, l1, l2, hf⟩ := cutB_ok h
  obtain ⟨n1, n2, n3, _⟩ := ten_ok ht
  obtain ⟨_, l3, _⟩ := count_ok n2
  match d, s, e, hne, l1, l2, l3, h with
  | [d1], [s1], [e1], _, _, _, _, h => exact bq1 h
  | [d1, d2], [s1, s2], [e1, e2], _, _, _, _, h => exact bq2 h
  | [d1, d2, d3], [s1, s2, s3], [e1, e2, e3], _, _, _, _, h => exact bq3 h
  | [d1, d2, d3, d4], [s1, s2, s3, s4], [e1, e2, e3, e4], _, _, _, _, h => exact bq4 h
  | [d1, d2, d3, d4, d5], [s1, s2, s3, s4, s5], [e1, e2, e3, e4, e5], _, _, _, _, h => exact bq5 h
  | [d1, d2, d3, d4, d5, d6], [s1, s2, s3, s4, s5, s6], [e1, e2, e3, e4, e5, e6], _, _, _, _, h => exact bq6 h
  | _ :: _ :: _ :: _ :: _ :: _ :: _ :: _, _, _, _, _, _, l3, _ => exact absurd l3 (by simp only [List.length_cons]; omega)
end Go.Proofs.XGT
namespace Go.Proofs.XGT
open Go.Vm Go
set_option maxRecDepth 100000
set_option maxHeartbeats 4000000
def bqL (t : Int) (d x s e : List Int) : Tq := .br (cutB t d s e x) (.leaf (cqR t d x s e).1 (cqR t d x s e).2) .no
def bqT : List AV → LHp → Tq
  | [n, .os 0 0], [(0, .arr 25 ((.pair (.int .i64) (.pair (.slice (.int .i64)) (.pair (.slice (.int .i64)) .unit)))) 0 false [(t, d, x, ())]), (1, .arr 37 ((.pair .str (.pair (.int .i64) (.pair (.int .i64) (.pair (.int .i64) (.pair .str (.pair (.pair (.int .i64) (.pair (.slice (.int .i64)) (.pair (.slice (.int .i64)) .unit))) (.pair (.slice (.int .i64)) .unit)))))))) 0 false [a, b]), (2, .arr 9 .str 0 false ins)] =>
    (match nodeP n with
    | some (op, nm, out, .os 2 0, .os 1 0) => gate (decide (op = strSL) && decide (nm = []) && decide (out = [121]) && decide (ins = [[120]]) && isL a strStarts && isL b strEnds) (bqL t d x a.2.2.2.2.2.2.1 b.2.2.2.2.2.2.1)
    | _ => .no)
  | _, _ => .no
theorem bqT_ok : FnE.OK e0.P e0.gam 42 (treeE bqT) := by
  have h1 : FnE.OK e0.P e0.gam 42 (execFnC gSb Tryz.f42 6 [(3, [2, 4, 6, 9, 10, 11])]) := execFnC_ok gSb_good hmix Tryz.func42 Tryz.call42 (by decide +kernel) rfl
  refine ⟨fun _ _ _ => Tq.eq _ _, fun args hs ae hs' h => ?_⟩
  have h' : (bqT args hs).run ah = some (ae, hs') := h
  clear h
  unfold bqT at h'
  split at h'
  · rename_i n t d x a b ins
    split at h'
    · rename_i hn
      rw [nodeP_some hn]
      obtain ⟨hb, h2⟩ := gate_run h'
      clear h'
      simp only [Bool.and_eq_true, decide_eq_true_eq] at hb
      obtain ⟨⟨⟨⟨⟨b1, b2⟩, b3⟩, b4⟩, b5⟩, b6⟩ := hb
      subst b1 b2 b3 b4
      obtain ⟨s, rfl⟩ := isL_eq b5
      obtain ⟨e, rfl⟩ := isL_eq b6
      change (bqL t d x s e).run ah = _ at h2
      obtain ⟨hc, h3⟩ := Tq.br_no h2
      exact h1.okC ((bq_run hc).trans h3)
    · cases h'
  · cases h'
def cuX (d x s e : List Int) : List Int := rdG (dot (s.map Int.toNat) (strN (d.map Int.toNat)) : Nat) (difI e s) (strI d) x
theorem mq_run {t : Int} {d s e x : List Int} (h : cutB t d s e x = true) : runC gSv Tryz.f48 7 [(4, [2, 3, 4, 7, 8, 19, 20]), (10, [2, 4, 7, 10, 32, 33, 34])] [nodeA strSL [] [121] (.os 2 0) (.os 1 0), .d (Y0) (t, d, x, ()), .os 0 0] (hpS2 s e (difI e s)) ah =
    some (.ret [.os 3 0], hpS2 s e (difI e s) ++ [(3, .arr 2 i64T 0 false (cuX d x s e))]) := by
  obtain ⟨ht, hne, hs, l1, l2, hf⟩ := cutB_ok h
  obtain ⟨n1, n2, n3, _⟩ := ten_ok ht
  obtain ⟨_, _, m1, q1⟩ := count_ok n2
  obtain ⟨D, eD, eD2, o1, o2, o3⟩ := nat_dims n2
  have eW := dif_nat hf
  have eS := ints_nat hs
  rw [← eD2] at hf
  have hx : x.length = prodN D := by
    rw [q1, eD, prodI_ints] at n3
    omega
  have key := msl2_run (t := t) (e := e) (x := x) hf (by rw [← eD]; exact n2) (fun h => hne (by rw [eD, h]; rfl)) hx
  unfold cuX
  rw [← eD2]
  rw [eS, eW, ← strI_ints, ← eD] at key
  exact key
def mqL (t : Int) (d x l s e : List Int) : Tq := .br (decide (l = difI e s) && cutB t d s e x) (.leaf (.ret [.os 3 0]) (hpS2 s e l ++ [(3, .arr 2 i64T 0 false (cuX d x s e))])) .no
def mqT : List AV → LHp → Tq
  | [n, .d ((.pair (.int .i64) (.pair (.slice (.int .i64)) (.pair (.slice (.int .i64)) .unit)))) (t, d, x, ()), .os 0 0], [(0, .arr 3 (.int .i64) 0 false l), (1, .arr 37 ((.pair .str (.pair (.int .i64) (.pair (.int .i64) (.pair (.int .i64) (.pair .str (.pair (.pair (.int .i64) (.pair (.slice (.int .i64)) (.pair (.slice (.int .i64)) .unit))) (.pair (.slice (.int .i64)) .unit)))))))) 0 true [a, b]), (2, .arr 9 .str 0 false ins)] =>
    (match nodeP n with
    | some (op, nm, out, .os 2 0, .os 1 0) => gate (decide (op = strSL) && decide (nm = []) && decide (out = [121]) && decide (ins = [[120]]) && isL a strStarts && isL b strEnds) (mqL t d x l a.2.2.2.2.2.2.1 b.2.2.2.2.2.2.1)
    | _ => .no)
  | _, _ => .no
theorem mqT_ok : FnE.OK e0.P e0.gam 48 (treeE mqT) := by
  have h1 : FnE.OK e0.P e0.gam 48 (execFnC gSv Tryz.f48 7 [(4, [2, 3, 4, 7, 8, 19, 20]), (10, [2, 4, 7, 10, 32, 33, 34])]) := execFnC_ok gSv_good hmix Tryz.func48 Tryz.call48 (by decide +kernel) rfl
  refine ⟨fun _ _ _ => Tq.eq _ _, fun args hs ae hs' h => ?_⟩
  have h' : (mqT args hs).run ah = some (ae, hs') := h
  clear h
  unfold mqT at h'
  split at h'
  · rename_i n t d x l a b ins
    split at h'
    · rename_i hn
      rw [nodeP_some hn]
      obtain ⟨hb, h2⟩ := gate_run h'
      clear h'
      simp only [Bool.and_eq_true, decide_eq_true_eq] at hb
      obtain ⟨⟨⟨⟨⟨b1, b2⟩, b3⟩, b4⟩, b5⟩, b6⟩ := hb
      subst b1 b2 b3 b4
      obtain ⟨s, rfl⟩ := isL_eq b5
      obtain ⟨e, rfl⟩ := isL_eq b6
      change (mqL t d x l s e).run ah = _ at h2
      obtain ⟨hc, h3⟩ := Tq.br_no h2
      rw [Bool.and_eq_true] at hc
      obtain ⟨hc1, hc2⟩ := hc
      obtain rfl := of_decide_eq_true hc1
      cases h3
      exact h1.okC (mq_run hc2)
    · cases h'
  · cases h'
noncomputable def gMw : Env := (g227.add 42 (treeE bqT)).add 48 (treeE mqT)
theorem gMw_good : gMw.Good := (g227_good.add bqT_ok).add mqT_ok
theorem mdw_eq (t : Int) (d x s e : List Int) : runC gMw Tryz.f27 7 [] [nodeA strSL [] [121] (.os 2 0) (.os 1 0), .os 0 0] (hpTb false t d x (at2 s e)) ah = bif cutB t d s e x then  bif decide (difI e s = difI e s) && cutB t d s e x then some (AEnd.ret [(I t).pr ((AV.os 3 0).pr ((AV.os 4 0).pr (AV.d Ty.unit PUnit.unit))), I 0], [(0, AObj.arr 25 Y0 0 false [(t, d, x, ())]), (1, AObj.arr 37 (Ty.str.pair ((i64T).pair ((i64T).pair ((i64T).pair (Ty.str.pair (Y0.pair ((i64T).slice.pair Ty.unit))))))) 0 true [([115, 116, 97, 114, 116, 115], 7, 0, 0, [], (0, [], [], ()), s, ()), ([101, 110, 100, 115], 7, 0, 0, [], (0, [], [], ()), e, ())]), (2, AObj.arr 9 Ty.str 0 false [[120]]), (3, AObj.arr 3 (i64T) 0 false (difI e s)), (4, AObj.arr 2 (i64T) 0 false (cuX d x s e))]) else none else none := by kernel_rfl
end Go.Proofs.XGT
namespace Go.Proofs.XGT
open Go.Vm Go
set_option maxRecDepth 100000
set_option maxHeartbeats 4000000
noncomputable def C_smxs : Code := codeOf Tryz.f33
noncomputable def cf_smxs : Cfg := ⟨26, 5, 1, [(4, [0, 1, 5])], true⟩
def smxsH (z4 : Bool) (xs : List Int) : LHp := [(0, .arr 3 i64T 0 z4 xs)]
theorem smxs_eqH (hl : Hl) (z4 : Bool) (xs : List Int) : runH g173 Tryz.f33 5 [(4, [0, 1, 5])] [4] hl [.os 0 0, .d (.slice i64T) xs] (smxsH z4 xs) ah = bif Int.ofNat xs.length != Int.ofNat xs.length then some (AEnd.ret [B false], [(0, AObj.arr 3 (i64T) 0 z4 xs)]) else hl (cL (cL (cR (cL (cR (cR C_smxs)))))) _ { fr := mkFr 5 [(0, AV.os 0 0), (1, AV.d (i64T).slice xs), (5, I 0)], hp := [(0, AObj.arr 3 (i64T) 0 z4 xs)], nx := 2 } (blkK 0 (seqH g173 cf_smxs [4] hl (cR (cR (cR C_smxs))) (endC Tryz.prog 1 Tryz.f33.results.toList ah))) := by kernel_rfl
theorem smxs_eq (z4 : Bool) (xs : List Int) : runC g173 Tryz.f33 5 [(4, [0, 1, 5])] [.os 0 0, .d (.slice i64T) xs] (smxsH z4 xs) ah = bif Int.ofNat xs.length != Int.ofNat xs.length then some (AEnd.ret [B false], [(0, AObj.arr 3 (i64T) 0 z4 xs)]) else (hlp g173 cf_smxs) (cL (cL (cR (cL (cR (cR C_smxs)))))) _ { fr := mkFr 5 [(0, AV.os 0 0), (1, AV.d (i64T).slice xs), (5, I 0)], hp := [(0, AObj.arr 3 (i64T) 0 z4 xs)], nx := 2 } (blkK 0 (seqH g173 cf_smxs [4] (hlp g173 cf_smxs) (cR (cR (cR C_smxs))) (endC Tryz.prog 1 Tryz.f33.results.toList ah))) := runH_runC.trans (smxs_eqH (hlp g173 cf_smxs) z4 xs)
def smxsSt (z4 : Bool) (xs : List Int) (i : Int) : LSt := ⟨mkFr 5 [(0, .os 0 0), (1, .d (.slice i64T) xs), (5, I i)], smxsH z4 xs, 2⟩
theorem smxs_stepH (hl : Hl) (z4 : Bool) (xs : List Int) (i : Int) (n : Nat) {R : Type} (k : AEx → LSt → Option R) : lpH g173 cf_smxs [4] hl (cL (cL (cR (cL (cR (cR C_smxs)))))) (n + 1) (smxsSt z4 xs i) k = bif decide (i < Int.ofNat xs.length) then (idx xs i).bind fun v1 => (xs[i.toNat]?).bind fun v2 => (idx xs i).bind fun v3 => bif v2 != v3 then k AEx.ret { fr := mkFr 5 [(0, AV.os 0 0), (1, AV.d (i64T).slice xs), (4, B false), (5, I i), (11, I i), (12, AV.os 0 0), (13, I (Int.ofNat xs.length)), (14, B true), (17, AV.os 0 0), (18, I i), (19, AV.oe 0 0 i.toNat), (20, I v2), (21, AV.d (i64T).slice xs), (22, I i), (23, AV.ip (i64T) v3), (24, I v3), (25, B true)], hp := [(0, AObj.arr 3 (i64T) 0 z4 xs)], nx := 2 } else lpH g173 cf_smxs [4] hl (cL (cL (cR (cL (cR (cR C_smxs)))))) n { fr := mkFr 5 [(0, AV.os 0 0), (1, AV.d (i64T).slice xs), (5, I (IntKind.i64.wrap (i + 1)))], hp := [(0, AObj.arr 3 (i64T) 0 z4 xs)], nx := 2 } k else k (AEx.exit 0) { fr := mkFr 5 [(0, AV.os 0 0), (1, AV.d (i64T).slice xs), (5, I i), (11, I i), (12, AV.os 0 0), (13, I (Int.ofNat xs.length)), (14, B false)], hp := [(0, AObj.arr 3 (i64T) 0 z4 xs)], nx := 2 } := by kernel_rfl
theorem smxs_step (z4 : Bool) (xs : List Int) (i : Int) (n : Nat) {R : Type} (k : AEx → LSt → Option R) : lp g173 cf_smxs (cL (cL (cR (cL (cR (cR C_smxs)))))) (n + 1) (smxsSt z4 xs i) k = bif decide (i < Int.ofNat xs.length) then (idx xs i).bind fun v1 => (xs[i.toNat]?).bind fun v2 => (idx xs i).bind fun v3 => bif v2 != v3 then k AEx.ret { fr := mkFr 5 [(0, AV.os 0 0), (1, AV.d (i64T).slice xs), (4, B false), (5, I i), (11, I i), (12, AV.os 0 0), (13, I (Int.ofNat xs.length)), (14, B true), (17, AV.os 0 0), (18, I i), (19, AV.oe 0 0 i.toNat), (20, I v2), (21, AV.d (i64T).slice xs), (22, I i), (23, AV.ip (i64T) v3), (24, I v3), (25, B true)], hp := [(0, AObj.arr 3 (i64T) 0 z4 xs)], nx := 2 } else lp g173 cf_smxs (cL (cL (cR (cL (cR (cR C_smxs)))))) n { fr := mkFr 5 [(0, AV.os 0 0), (1, AV.d (i64T).slice xs), (5, I (IntKind.i64.wrap (i + 1)))], hp := [(0, AObj.arr 3 (i64T) 0 z4 xs)], nx := 2 } k else k (AEx.exit 0) { fr := mkFr 5 [(0, AV.os 0 0), (1, AV.d (i64T).slice xs), (5, I i), (11, I i), (12, AV.os 0 0), (13, I (Int.ofNat xs.length)), (14, B false)], hp := [(0, AObj.arr 3 (i64T) 0 z4 xs)], nx := 2 } := by
  have h := smxs_stepH (hlp g173 cf_smxs) z4 xs i n k
  simp only [lpH_lp] at h
  exact h
noncomputable def smxsK : AEx → LSt → Option (AEnd × LHp) := (blkK 0 (seqH g173 cf_smxs [4] (hlp g173 cf_smxs) (cR (cR (cR C_smxs))) (endC Tryz.prog 1 Tryz.f33.results.toList ah)))
theorem smxs_lp (z4 : Bool) (xs : List Int) : runC g173 Tryz.f33 5 [(4, [0, 1, 5])] [.os 0 0, .d (.slice i64T) xs] (smxsH z4 xs) ah = lp g173 cf_smxs (cL (cL (cR (cL (cR (cR C_smxs)))))) fu (smxsSt z4 xs 0) smxsK := (smxs_eq z4 xs).trans (by rw [bne_self_eq_false, cond_false]; kernel_rfl)
theorem smxsK_exit (z4 : Bool) (xs : List Int) (i : Int) : smxsK (AEx.exit 0) ⟨mkFr 5 [(0, .os 0 0), (1, .d (.slice i64T) xs), (5, I i), (11, I i), (12, .os 0 0), (13, I (Int.ofNat xs.length)), (14, B false)], smxsH z4 xs, 2⟩ = some (.ret [B true], smxsH z4 xs) := by kernel_rfl
theorem smxs_run (z4 : Bool) (xs : List Int) (hl : xs.length ≤ maxLen) : runC g173 Tryz.f33 5 [(4, [0, 1, 5])] [.os 0 0, .d (.slice i64T) xs] (smxsH z4 xs) ah = some (.ret [B true], smxsH z4 xs) := by
  rw [smxs_lp]
  exact allP_lp (T := fun n s => lp g173 cf_smxs (cL (cL (cR (cL (cR (cR C_smxs)))))) n s smxsK) (xs := xs) (st := smxsSt z4 xs) (r := some (.ret [B true], smxsH z4 xs)) hl (fun i x hx hi hlt n => by
    rw [smxs_step, decide_eq_true (show (i : Int) < Int.ofNat xs.length from Int.ofNat_lt.2 hlt), hi, show xs[(i : Int).toNat]? = some x from hx]
    simp only [cond_true, Option.bind_some, bne_self_eq_false, cond_false]
    rfl) (fun n => by
    rw [smxs_step, decide_eq_false (show ¬ (Int.ofNat xs.length < Int.ofNat xs.length) from Int.lt_irrefl _)]
    exact smxsK_exit _ _ _)
def smxsF : List AV → LHp → Tq
  | [.os 0 0, .d (.slice (.int .i64)) ys], [(0, .arr 3 (.int .i64) 0 z4 xs)] => .br (decide (xs.length ≤ maxLen ∧ xs = ys)) (.leaf (.ret [B true]) (smxsH z4 xs)) .no
  | _, _ => .no
theorem smxsE_ok : FnE.OK e0.P e0.gam 33 (treeE smxsF) := by
  have h1 : FnE.OK e0.P e0.gam 33 (execFnC g173 Tryz.f33 5 [(4, [0, 1, 5])]) := y33_ok
  refine ⟨fun _ _ _ => Tq.eq _ _, fun args hs ae hs' h => ?_⟩
  have h' : (smxsF args hs).run ah = some (ae, hs') := h
  clear h
  unfold smxsF at h'
  split at h'
  · obtain ⟨hb, h2⟩ := Tq.br_no h'
    clear h'
    obtain ⟨hl, he⟩ := of_decide_eq_true hb
    subst he
    cases h2
    exact h1.okC (smxs_run _ _ hl)
  · cases h'
noncomputable def C_smxt : Code := codeOf Tryz.f18
noncomputable def cf_smxt : Cfg := ⟨46, 6, 2, [(4, [2, 3, 5])], true⟩
noncomputable def gsmx : Env := g174.add 33 (treeE smxsF)
theorem gsmx_good : gsmx.Good := g174_good.add smxsE_ok
def smxtH (z3 z4 : Bool) (xd dt : List Int) : LHp := [(0, .arr 2 i64T 0 z3 dt), (1, .arr 3 i64T 0 z4 xd)]
def smxtA (t : Int) : AV := .pr (I t) (.pr (.os 1 0) (.pr (.os 0 0) (.d .unit ())))
def smxtB (t : Int) (xd dt : List Int) : AV := .d (Y0) (t, xd, dt, ())
theorem smxt_eqH (hl : Hl) (z3 z4 : Bool) (t : Int) (xd dt : List Int) : runH gsmx Tryz.f18 6 [(4, [2, 3, 5])] [4] hl [smxtA t, smxtB t xd dt] (smxtH z3 z4 xd dt) ah = bif t != t then some (AEnd.ret [B false], [(0, AObj.arr 2 (i64T) 0 z3 dt), (1, AObj.arr 3 (i64T) 0 z4 xd)]) else  bif decide (xd.length ≤ 9223372036854775807 ∧ xd = xd) then  bif Int.ofNat dt.length != Int.ofNat dt.length then some (AEnd.ret [B false], [(0, AObj.arr 2 (i64T) 0 z3 dt), (1, AObj.arr 3 (i64T) 0 z4 xd)]) else hl (cL (cL (cR (cL (cR (cR C_smxt)))))) _ { fr := mkFr 6 [(2, AV.op 2 [] 0), (3, AV.op 3 [] 0), (5, I 0)], hp := [(0, AObj.arr 2 (i64T) 0 z3 dt), (1, AObj.arr 3 (i64T) 0 z4 xd), (2, AObj.box ((I t).pr ((AV.os 1 0).pr ((AV.os 0 0).pr (AV.d Ty.unit PUnit.unit))))), (3, AObj.box (AV.d Y0 (t, xd, dt, ())))], nx := 6 } (blkK 0 (seqH gsmx cf_smxt [4] hl (cR (cR (cR C_smxt))) (endC Tryz.prog 2 Tryz.f18.results.toList ah))) else none := by kernel_rfl
theorem smxt_eq (z3 z4 : Bool) (t : Int) (xd dt : List Int) : runC gsmx Tryz.f18 6 [(4, [2, 3, 5])] [smxtA t, smxtB t xd dt] (smxtH z3 z4 xd dt) ah = bif t != t then some (AEnd.ret [B false], [(0, AObj.arr 2 (i64T) 0 z3 dt), (1, AObj.arr 3 (i64T) 0 z4 xd)]) else  bif decide (xd.length ≤ 9223372036854775807 ∧ xd = xd) then  bif Int.ofNat dt.length != Int.ofNat dt.length then some (AEnd.ret [B false], [(0, AObj.arr 2 (i64T) 0 z3 dt), (1, AObj.arr 3 (i64T) 0 z4 xd)]) else (hlp gsmx cf_smxt) (cL (cL (cR (cL (cR (cR C_smxt)))))) _ { fr := mkFr 6 [(2, AV.op 2 [] 0), (3, AV.op 3 [] 0), (5, I 0)], hp := [(0, AObj.arr 2 (i64T) 0 z3 dt), (1, AObj.arr 3 (i64T) 0 z4 xd), (2, AObj.box ((I t).pr ((AV.os 1 0).pr ((AV.os 0 0).pr (AV.d Ty.unit PUnit.unit))))), (3, AObj.box (AV.d Y0 (t, xd, dt, ())))], nx := 6 } (blkK 0 (seqH gsmx cf_smxt [4] (hlp gsmx cf_smxt) (cR (cR (cR C_smxt))) (endC Tryz.prog 2 Tryz.f18.results.toList ah))) else none := runH_runC.trans (smxt_eqH (hlp gsmx cf_smxt) z3 z4 t xd dt)
def smxtSt (z3 z4 : Bool) (t : Int) (xd dt : List Int) (i : Int) : LSt := ⟨mkFr 6 [(2, .op 2 [] 0), (3, .op 3 [] 0), (5, I i)], smxtH z3 z4 xd dt ++ [(2, .box (smxtA t)), (3, .box (smxtB t xd dt))], 6⟩
theorem smxt_stepH (hl : Hl) (z3 z4 : Bool) (t : Int) (xd dt : List Int) (i : Int) (n : Nat) {R : Type} (k : AEx → LSt → Option R) : lpH gsmx cf_smxt [4] hl (cL (cL (cR (cL (cR (cR C_smxt)))))) (n + 1) (smxtSt z3 z4 t xd dt i) k = bif decide (i < Int.ofNat dt.length) then (idx dt i).bind fun v1 => (dt[i.toNat]?).bind fun v2 => (idx dt i).bind fun v3 => bif v2 != v3 then k AEx.ret { fr := mkFr 6 [(2, AV.op 2 [] 0), (3, AV.op 3 [] 0), (4, B false), (5, I i), (28, I i), (29, AV.op 2 [2] 2), (30, AV.os 0 0), (31, I (Int.ofNat dt.length)), (32, B true), (35, AV.op 2 [2] 2), (36, AV.os 0 0), (37, I i), (38, AV.oe 0 0 i.toNat), (39, I v2), (40, AV.op 3 [2] 2), (41, AV.d (i64T).slice dt), (42, I i), (43, AV.ip (i64T) v3), (44, I v3), (45, B true)], hp := [(0, AObj.arr 2 (i64T) 0 z3 dt), (1, AObj.arr 3 (i64T) 0 z4 xd), (2, AObj.box ((I t).pr ((AV.os 1 0).pr ((AV.os 0 0).pr (AV.d Ty.unit PUnit.unit))))), (3, AObj.box (AV.d Y0 (t, xd, dt, ())))], nx := 6 } else lpH gsmx cf_smxt [4] hl (cL (cL (cR (cL (cR (cR C_smxt)))))) n { fr := mkFr 6 [(2, AV.op 2 [] 0), (3, AV.op 3 [] 0), (5, I (IntKind.i64.wrap (i + 1)))], hp := [(0, AObj.arr 2 (i64T) 0 z3 dt), (1, AObj.arr 3 (i64T) 0 z4 xd), (2, AObj.box ((I t).pr ((AV.os 1 0).pr ((AV.os 0 0).pr (AV.d Ty.unit PUnit.unit))))), (3, AObj.box (AV.d Y0 (t, xd, dt, ())))], nx := 6 } k else k (AEx.exit 0) { fr := mkFr 6 [(2, AV.op 2 [] 0), (3, AV.op 3 [] 0), (5, I i), (28, I i), (29, AV.op 2 [2] 2), (30, AV.os 0 0), (31, I (Int.ofNat dt.length)), (32, B false)], hp := [(0, AObj.arr 2 (i64T) 0 z3 dt), (1, AObj.arr 3 (i64T) 0 z4 xd), (2, AObj.box ((I t).pr ((AV.os 1 0).pr ((AV.os 0 0).pr (AV.d Ty.unit PUnit.unit))))), (3, AObj.box (AV.d Y0 (t, xd, dt, ())))], nx := 6 } := by kernel_rfl
theorem smxt_step (z3 z4 : Bool) (t : Int) (xd dt : List Int) (i : Int) (n : Nat) {R : Type} (k : AEx → LSt → Option R) : lp gsmx cf_smxt (cL (cL (cR (cL (cR (cR C_smxt)))))) (n + 1) (smxtSt z3 z4 t xd dt i) k = bif decide (i < Int.ofNat dt.length) then (idx dt i).bind fun v1 => (dt[i.toNat]?).bind fun v2 => (idx dt i).bind fun v3 => bif v2 != v3 then k AEx.ret { fr := mkFr 6 [(2, AV.op 2 [] 0), (3, AV.op 3 [] 0), (4, B false), (5, I i), (28, I i), (29, AV.op 2 [2] 2), (30, AV.os 0 0), (31, I (Int.ofNat dt.length)), (32, B true), (35, AV.op 2 [2] 2), (36, AV.os 0 0), (37, I i), (38, AV.oe 0 0 i.toNat), (39, I v2), (40, AV.op 3 [2] 2), (41, AV.d (i64T).slice dt), (42, I i), (43, AV.ip (i64T) v3), (44, I v3), (45, B true)], hp := [(0, AObj.arr 2 (i64T) 0 z3 dt), (1, AObj.arr 3 (i64T) 0 z4 xd), (2, AObj.box ((I t).pr ((AV.os 1 0).pr ((AV.os 0 0).pr (AV.d Ty.unit PUnit.unit))))), (3, AObj.box (AV.d Y0 (t, xd, dt, ())))], nx := 6 } else lp gsmx cf_smxt (cL (cL (cR (cL (cR (cR C_smxt)))))) n { fr := mkFr 6 [(2, AV.op 2 [] 0), (3, AV.op 3 [] 0), (5, I (IntKind.i64.wrap (i + 1)))], hp := [(0, AObj.arr 2 (i64T) 0 z3 dt), (1, AObj.arr 3 (i64T) 0 z4 xd), (2, AObj.box ((I t).pr ((AV.os 1 0).pr ((AV.os 0 0).pr (AV.d Ty.unit PUnit.unit))))), (3, AObj.box (AV.d Y0 (t, xd, dt, ())))], nx := 6 } k else k (AEx.exit 0) { fr := mkFr 6 [(2, AV.op 2 [] 0), (3, AV.op 3 [] 0), (5, I i), (28, I i), (29, AV.op 2 [2] 2), (30, AV.os 0 0), (31, I (Int.ofNat dt.length)), (32, B false)], hp := [(0, AObj.arr 2 (i64T) 0 z3 dt), (1, AObj.arr 3 (i64T) 0 z4 xd), (2, AObj.box ((I t).pr ((AV.os 1 0).pr ((AV.os 0 0).pr (AV.d Ty.unit PUnit.unit))))), (3, AObj.box (AV.d Y0 (t, xd, dt, ())))], nx := 6 } := by
  have h := smxt_stepH (hlp gsmx cf_smxt) z3 z4 t xd dt i n k
  simp only [lpH_lp] at h
  exact h
noncomputable def smxtK : AEx → LSt → Option (AEnd × LHp) := (blkK 0 (seqH gsmx cf_smxt [4] (hlp gsmx cf_smxt) (cR (cR (cR C_smxt))) (endC Tryz.prog 2 Tryz.f18.results.toList ah)))
theorem smxt_lp (z3 z4 : Bool) (t : Int) (xd dt : List Int) (hl : xd.length ≤ maxLen) : runC gsmx Tryz.f18 6 [(4, [2, 3, 5])] [smxtA t, smxtB t xd dt] (smxtH z3 z4 xd dt) ah = lp gsmx cf_smxt (cL (cL (cR (cL (cR (cR C_smxt)))))) fu (smxtSt z3 z4 t xd dt 0) smxtK := (smxt_eq z3 z4 t xd dt).trans (by rw [bne_self_eq_false, bne_self_eq_false, decide_eq_true (show xd.length ≤ 9223372036854775807 ∧ xd = xd from ⟨hl, rfl⟩), cond_false, cond_false, cond_true]; kernel_rfl)
theorem smxtK_exit (z3 z4 : Bool) (t : Int) (xd dt : List Int) (i : Int) : smxtK (AEx.exit 0) ⟨mkFr 6 [(2, .op 2 [] 0), (3, .op 3 [] 0), (5, I i), (28, I i), (29, AV.op 2 [2] 2), (30, AV.os 0 0), (31, I (Int.ofNat dt.length)), (32, B false)], smxtH z3 z4 xd dt ++ [(2, .box (smxtA t)), (3, .box (smxtB t xd dt))], 6⟩ = some (.ret [B true], smxtH z3 z4 xd dt) := by kernel_rfl
theorem smxt_run (z3 z4 : Bool) (t : Int) (xd dt : List Int) (h1 : xd.length ≤ maxLen) (h2 : dt.length ≤ maxLen) : runC gsmx Tryz.f18 6 [(4, [2, 3, 5])] [smxtA t, smxtB t xd dt] (smxtH z3 z4 xd dt) ah = some (.ret [B true], smxtH z3 z4 xd dt) := by
  rw [smxt_lp z3 z4 t xd dt h1]
  exact allP_lp (T := fun n s => lp gsmx cf_smxt (cL (cL (cR (cL (cR (cR C_smxt)))))) n s smxtK) (xs := dt) (st := smxtSt z3 z4 t xd dt) (r := some (.ret [B true], smxtH z3 z4 xd dt)) h2 (fun i x hx hi hlt n => by
    rw [smxt_step, decide_eq_true (show (i : Int) < Int.ofNat dt.length from Int.ofNat_lt.2 hlt), hi]
    simp only [show dt[(i : Int).toNat]? = some x from hx, cond_true, Option.bind_some, bne_self_eq_false, cond_false]
    rfl) (fun n => by
    rw [smxt_step, decide_eq_false (show ¬ (Int.ofNat dt.length < Int.ofNat dt.length) from Int.lt_irrefl _)]
    exact smxtK_exit _ _ _ _ _ _)
def smxtF : List AV → LHp → Tq
  | [.pr (.d (.int .i64) t) (.pr (.os 1 0) (.pr (.os 0 0) (.d .unit ()))), .d ((.pair (.int .i64) (.pair (.slice (.int .i64)) (.pair (.slice (.int .i64)) .unit)))) (t2, xd2, dt2, ())], [(0, .arr 2 (.int .i64) 0 z3 dt), (1, .arr 3 (.int .i64) 0 z4 xd)] =>
    .br (decide (xd.length ≤ maxLen ∧ dt.length ≤ maxLen ∧ t = t2 ∧ xd = xd2 ∧ dt = dt2)) (.leaf (.ret [B true]) (smxtH z3 z4 xd dt)) .no
  | _, _ => .no
theorem smxtE_ok : FnE.OK e0.P e0.gam 18 (treeE smxtF) := by
  have h1 : FnE.OK e0.P e0.gam 18 (execFnC gsmx Tryz.f18 6 [(4, [2, 3, 5])]) := execFnC_ok gsmx_good hmix Tryz.func18 Tryz.call18 (by decide +kernel) rfl
  refine ⟨fun _ _ _ => Tq.eq _ _, fun args hs ae hs' h => ?_⟩
  have h' : (smxtF args hs).run ah = some (ae, hs') := h
  clear h
  unfold smxtF at h'
  split at h'
  · obtain ⟨hb, h2⟩ := Tq.br_no h'
    clear h'
    obtain ⟨hl, hl2, he1, he2, he3⟩ := of_decide_eq_true hb
    subst he1 he2 he3
    cases h2
    exact h1.okC (smxt_run _ _ _ _ _ hl hl2)
  · cases h'
end Go.Proofs.XGT
namespace Go.Proofs.XGT
open Go.Vm Go
set_option maxRecDepth 100000
set_option maxHeartbeats 4000000
def zTC : AV := (I 0).pr (AV.nils.pr (AV.nils.pr (AV.d Ty.unit PUnit.unit)))
def oTC (t : Int) : AV := (I t).pr ((AV.os 3 0).pr ((AV.os 4 0).pr (AV.d Ty.unit PUnit.unit)))
theorem padE_ok {t : Int} {d l : List Int} (h : padE t d l = 0) : t = 1 ∧ numC (Int.ofNat (2 * d.length)) 0 65536 l = true ∧ countE (padD d l) = 0 := by
  unfold padE at h
  cases ht : t != 1 with
  | true => rw [ht] at h; cases h
  | false =>
    rw [ht, cond_false] at h
    cases hn : numC (Int.ofNat (2 * d.length)) 0 65536 l with
    | false => rw [hn] at h; cases h
    | true =>
      rw [hn, cond_true] at h
      exact ⟨by simpa using ht, rfl, h⟩
def mzL (t : Int) (d x l : List Int) : Tq :=
  .br (decide (x.length ≤ maxLen ∧ d.length ≤ maxLen ∧ l.length ≤ 2147483648)) (.br (tenE t d x != 0) (.leaf (.ret [zTC, I 1]) (hpTb false t d x [lattr strPads l])) (.br (!decide (d = [] ∧ l = [])) (.br (padE t d l != 0) (.leaf (.ret [zTC, I (padE t d l)]) (hpTb true t d x [lattr strPads l])) (.leaf (.ret [oTC t, I 0]) (hpTb true t d x [lattr strPads l] ++ [(3, .arr 3 i64T 0 false (padD d l)), (4, .arr 2 i64T 0 false (padX d l x))]))) .no)) .no
def mwL (t : Int) (d x s e : List Int) : Tq :=
  .br (cutB t d s e x) (.leaf (.ret [oTC t, I 0]) (hpTb true t d x (at2 s e) ++ [(3, .arr 3 i64T 0 false (difI e s)), (4, .arr 2 i64T 0 false (cuX d x s e))])) .no
def mkT : List AV → LHp → Tq
  | [n, .os 0 0], [(0, .arr 25 ((.pair (.int .i64) (.pair (.slice (.int .i64)) (.pair (.slice (.int .i64)) .unit)))) 0 false [(t, d, x, ())]), (1, .arr 37 ((.pair .str (.pair (.int .i64) (.pair (.int .i64) (.pair (.int .i64) (.pair .str (.pair (.pair (.int .i64) (.pair (.slice (.int .i64)) (.pair (.slice (.int .i64)) .unit))) (.pair (.slice (.int .i64)) .unit)))))))) 0 false [a]), (2, .arr 9 .str 0 false ins)] =>
    (match nodeP n with
    | some (op, nm, out, .os 2 0, .os 1 0) => gate (decide (op = strPA) && decide (nm = []) && decide (out = [121]) && decide (ins = [[120]]) && isL a strPads) (mzL t d x a.2.2.2.2.2.2.1)
    | _ => .no)
  | [n, .os 0 0], [(0, .arr 25 ((.pair (.int .i64) (.pair (.slice (.int .i64)) (.pair (.slice (.int .i64)) .unit)))) 0 false [(t, d, x, ())]), (1, .arr 37 ((.pair .str (.pair (.int .i64) (.pair (.int .i64) (.pair (.int .i64) (.pair .str (.pair (.pair (.int .i64) (.pair (.slice (.int .i64)) (.pair (.slice (.int .i64)) .unit))) (.pair (.slice (.int .i64)) .unit)))))))) 0 false [a, b]), (2, .arr 9 .str 0 false ins)] =>
    (match nodeP n with
    | some (op, nm, out, .os 2 0, .os 1 0) => gate (decide (op = strSL) && decide (nm = []) && decide (out = [121]) && decide (ins = [[120]]) && isL a strStarts && isL b strEnds) (mwL t d x a.2.2.2.2.2.2.1 b.2.2.2.2.2.2.1)
    | _ => .no)
  | _, _ => .no
theorem mkT_ok : FnE.OK e0.P e0.gam 27 (treeE mkT) := by
  have h1 : FnE.OK e0.P e0.gam 27 (execFnC gMz Tryz.f27 7 []) := execFnC_ok gMz_good hmix Tryz.func27 Tryz.call27 (by decide +kernel) rfl
  have h0 : FnE.OK e0.P e0.gam 27 (execFnC gMw Tryz.f27 7 []) := execFnC_ok gMw_good hmix Tryz.func27 Tryz.call27 (by decide +kernel) rfl
  refine ⟨fun _ _ _ => Tq.eq _ _, fun args hs ae hs' h => ?_⟩
  have h' : (mkT args hs).run ah = some (ae, hs') := h
  clear h
  unfold mkT at h'
  split at h'
  · rename_i n t d x a ins
    split at h'
    · rename_i hn
      rw [nodeP_some hn]
      obtain ⟨hb, h2⟩ := gate_run h'
      clear h'
      simp only [Bool.and_eq_true, decide_eq_true_eq] at hb
      obtain ⟨⟨⟨⟨b1, b2⟩, b3⟩, b4⟩, b5⟩ := hb
      subst b1 b2 b3 b4
      obtain ⟨l, rfl⟩ := isL_eq b5
      change (mzL t d x l).run ah = _ at h2
      obtain ⟨hg, h4⟩ := Tq.br_no h2
      refine h1.okC ((mdz_eq t d x l).trans (Eq.trans ?_ h4))
      rw [decide_eq_true (show x.length ≤ 9223372036854775807 ∧ d.length ≤ 9223372036854775807 ∧ l.length ≤ 2147483648 from of_decide_eq_true hg), cond_true]
      show _ = (bif tenE t d x != 0 then _ else (bif !decide (d = [] ∧ l = []) then (bif padE t d l != 0 then _ else _) else _))
      cases ht : tenE t d x != 0 with
      | true => rfl
      | false =>
        cases hd : decide (d = [] ∧ l = []) with
        | true => rfl
        | false =>
          cases hp : padE t d l != 0 with
          | true => rfl
          | false =>
            obtain ⟨_, c1, c2⟩ := padE_ok (show padE t d l = 0 by simpa using hp)
            have hl : l ≠ [] := fun e => by
              have := (numC_in c1).2
              subst e
              simp only [List.length_nil, Int.ofNat_eq_natCast] at this
              have hd2 : d = [] := List.length_eq_zero_iff.1 (by omega)
              exact of_decide_eq_false hd ⟨hd2, rfl⟩
            rw [decide_eq_true (show padD d l = padD d l ∧ tenE t d x = 0 ∧ numC (Int.ofNat (2 * d.length)) 0 65536 l = true ∧ countE (padD d l) = 0 ∧ l ≠ [] from ⟨rfl, by simpa using ht, c1, c2, hl⟩)]
            rfl
    · cases h'
  · rename_i n t d x a b ins
    split at h'
    · rename_i hn
      rw [nodeP_some hn]
      obtain ⟨hb, h2⟩ := gate_run h'
      clear h'
      simp only [Bool.and_eq_true, decide_eq_true_eq] at hb
      obtain ⟨⟨⟨⟨⟨b1, b2⟩, b3⟩, b4⟩, b5⟩, b6⟩ := hb
      subst b1 b2 b3 b4
      obtain ⟨s, rfl⟩ := isL_eq b5
      obtain ⟨e, rfl⟩ := isL_eq b6
      change (mwL t d x s e).run ah = _ at h2
      obtain ⟨hc, h3⟩ := Tq.br_no h2
      refine h0.okC ((mdw_eq t d x s e).trans (Eq.trans ?_ h3))
      rw [hc, decide_eq_true (show difI e s = difI e s from rfl)]
      rfl
    · cases h'
  · cases h'
end Go.Proofs.XGT
namespace Go.Proofs.XGT
open Go.Vm Go
set_option maxRecDepth 100000
set_option maxHeartbeats 4000000
noncomputable def C_muo : Code := codeOf Tryz.f12
noncomputable def cf_muo : Cfg := ⟨105, 7, 0, [(9, [1, 2, 5, 7, 8, 9])], true⟩
noncomputable def gMu : Env := ((g232.add 27 (treeE mkT)).add 18 (treeElse smxtF y18)).add 25 (fnE livtF)
theorem gMu_good : gMu.Good := ((g232_good.add mkT_ok).add (treeElse_ok smxtE_ok y18_ok)).add livtE_ok
theorem muo_eqH (hl : Hl) (t : Int) (d x l : List Int) : runH gMu Tryz.f12 7 [(9, [1, 2, 5, 7, 8, 9])] [9] hl [.d (Y0) (t, d, x, ()), .d (.slice i64T) l] [] ah = bif decide (Int.ofNat x.length > 2000) then some (AEnd.ret [B true], []) else  bif decide (x.length ≤ 9223372036854775807 ∧ d.length ≤ 9223372036854775807 ∧ l.length ≤ 2147483648) then  bif tenE t d x != 0 then some (AEnd.ret [B true], []) else  bif !decide (d = [] ∧ l = []) then  bif padE t d l != 0 then  bif padE t d l != 0 then  bif padE t d l != 0 then some (AEnd.ret [B true], []) else some (AEnd.ret [B false], []) else  bif Int.ofNat l.length != IntKind.i64.wrap (Int.ofNat (2 * d.length)) then  bif padE t d l != 0 then some (AEnd.ret [B true], []) else some (AEnd.ret [B false], []) else hl (cL (cL (cR (cL (cR (cR (cR (cR (cR (cR C_muo)))))))))) _ { fr := mkFr 7 [(1, AV.d (i64T).slice l), (2, AV.op 0 [] 0), (5, AV.op 1 [] 0), (7, AV.nils), (8, AV.nils), (9, I 0)], hp := [(0, AObj.box (AV.d Y0 (t, d, x, ()))), (1, AObj.box ((I 0).pr (AV.nils.pr (AV.nils.pr (AV.d Ty.unit PUnit.unit)))))], nx := 2 } (blkK 0 (seqH gMu cf_muo [9] hl (cR (cR (cR (cR (cR (cR (cR C_muo))))))) (endC Tryz.prog 0 Tryz.f12.results.toList ah))) else  bif decide (Int.ofNat (padX d l x).length > 2000) then  bif decide (Int.ofNat (padX d l x).length > 2000) then some (AEnd.ret [B true], []) else some (AEnd.ret [B false], []) else  bif Int.ofNat l.length != IntKind.i64.wrap (Int.ofNat (2 * d.length)) then  bif decide (Int.ofNat (padX d l x).length > 2000) then some (AEnd.ret [B true], []) else some (AEnd.ret [B false], []) else hl (cL (cL (cR (cL (cR (cR (cR (cR (cR (cR C_muo)))))))))) _ { fr := mkFr 7 [(1, AV.d (i64T).slice l), (2, AV.op 0 [] 0), (5, AV.op 1 [] 0), (7, AV.nils), (8, AV.nils), (9, I 0)], hp := [(0, AObj.box (AV.d Y0 (t, d, x, ()))), (1, AObj.box ((I t).pr ((AV.os 2 0).pr ((AV.os 3 0).pr (AV.d Ty.unit PUnit.unit))))), (2, AObj.arr 3 (i64T) 0 false (padD d l)), (3, AObj.arr 2 (i64T) 0 false (padX d l x))], nx := 4 } (blkK 0 (seqH gMu cf_muo [9] hl (cR (cR (cR (cR (cR (cR (cR C_muo))))))) (endC Tryz.prog 0 Tryz.f12.results.toList ah))) else none else none := by kernel_rfl
theorem muo_eq (t : Int) (d x l : List Int) : runC gMu Tryz.f12 7 [(9, [1, 2, 5, 7, 8, 9])] [.d (Y0) (t, d, x, ()), .d (.slice i64T) l] [] ah = bif decide (Int.ofNat x.length > 2000) then some (AEnd.ret [B true], []) else  bif decide (x.length ≤ 9223372036854775807 ∧ d.length ≤ 9223372036854775807 ∧ l.length ≤ 2147483648) then  bif tenE t d x != 0 then some (AEnd.ret [B true], []) else  bif !decide (d = [] ∧ l = []) then  bif padE t d l != 0 then  bif padE t d l != 0 then  bif padE t d l != 0 then some (AEnd.ret [B true], []) else some (AEnd.ret [B false], []) else  bif Int.ofNat l.length != IntKind.i64.wrap (Int.ofNat (2 * d.length)) then  bif padE t d l != 0 then some (AEnd.ret [B true], []) else some (AEnd.ret [B false], []) else (hlp gMu cf_muo) (cL (cL (cR (cL (cR (cR (cR (cR (cR (cR C_muo)))))))))) _ { fr := mkFr 7 [(1, AV.d (i64T).slice l), (2, AV.op 0 [] 0), (5, AV.op 1 [] 0), (7, AV.nils), (8, AV.nils), (9, I 0)], hp := [(0, AObj.box (AV.d Y0 (t, d, x, ()))), (1, AObj.box ((I 0).pr (AV.nils.pr (AV.nils.pr (AV.d Ty.unit PUnit.unit)))))], nx := 2 } (blkK 0 (seqH gMu cf_muo [9] (hlp gMu cf_muo) (cR (cR (cR (cR (cR (cR (cR C_muo))))))) (endC Tryz.prog 0 Tryz.f12.results.toList ah))) else  bif decide (Int.ofNat (padX d l x).length > 2000) then  bif decide (Int.ofNat (padX d l x).length > 2000) then some (AEnd.ret [B true], []) else some (AEnd.ret [B false], []) else  bif Int.ofNat l.length != IntKind.i64.wrap (Int.ofNat (2 * d.length)) then  bif decide (Int.ofNat (padX d l x).length > 2000) then some (AEnd.ret [B true], []) else some (AEnd.ret [B false], []) else (hlp gMu cf_muo) (cL (cL (cR (cL (cR (cR (cR (cR (cR (cR C_muo)))))))))) _ { fr := mkFr 7 [(1, AV.d (i64T).slice l), (2, AV.op 0 [] 0), (5, AV.op 1 [] 0), (7, AV.nils), (8, AV.nils), (9, I 0)], hp := [(0, AObj.box (AV.d Y0 (t, d, x, ()))), (1, AObj.box ((I t).pr ((AV.os 2 0).pr ((AV.os 3 0).pr (AV.d Ty.unit PUnit.unit))))), (2, AObj.arr 3 (i64T) 0 false (padD d l)), (3, AObj.arr 2 (i64T) 0 false (padX d l x))], nx := 4 } (blkK 0 (seqH gMu cf_muo [9] (hlp gMu cf_muo) (cR (cR (cR (cR (cR (cR (cR C_muo))))))) (endC Tryz.prog 0 Tryz.f12.results.toList ah))) else none else none := runH_runC.trans (muo_eqH (hlp gMu cf_muo) t d x l)
end Go.Proofs.XGT
namespace Go.Proofs.XGT
open Go.Vm Go
set_option maxRecDepth 100000
set_option maxHeartbeats 4000000
def hpMu (t : Int) (d x pd px : List Int) : LHp := [(0, AObj.box (AV.d (Y0) (t, d, x, ()))), (1, AObj.box ((I t).pr ((AV.os 2 0).pr ((AV.os 3 0).pr (AV.d Ty.unit PUnit.unit))))), (2, .arr 3 i64T 0 false pd), (3, .arr 2 i64T 0 false px)]
def stMu0 (t : Int) (d x l pd px : List Int) : LSt := { fr := mkFr 7 [(1, AV.d (i64T).slice l), (2, AV.op 0 [] 0), (5, AV.op 1 [] 0), (7, AV.nils), (8, AV.nils), (9, I 0)], hp := hpMu t d x pd px, nx := 4 }
theorem mu_s0H (hl : Hl) (t : Int) (d x l pd px : List Int) (n : Nat) {R : Type} (k : AEx → LSt → Option R) : lpH gMu cf_muo [9] hl (cL (cL (cR (cL (cR (cR (cR (cR (cR (cR C_muo)))))))))) (n + 1) (stMu0 t d x l pd px) k = bif decide (0 < Int.ofNat d.length) then (idx l 0).bind fun v1 => (idx l 0).bind fun v2 => (idx d 0).bind fun v3 => lpH gMu cf_muo [9] hl (cL (cL (cR (cL (cR (cR (cR (cR (cR (cR C_muo)))))))))) n { fr := mkFr 7 [(1, AV.d (i64T).slice l), (2, AV.op 0 [] 0), (5, AV.op 1 [] 0), (7, AV.os 4 0), (8, AV.os 5 0), (9, I 1)], hp := [(0, AObj.box (AV.d Y0 (t, d, x, ()))), (1, AObj.box ((I t).pr ((AV.os 2 0).pr ((AV.os 3 0).pr (AV.d Ty.unit PUnit.unit))))), (2, AObj.arr 3 (i64T) 0 false pd), (3, AObj.arr 2 (i64T) 0 false px), (4, AObj.arr 2 (i64T) 0 false [v1]), (5, AObj.arr 2 (i64T) 0 false [IntKind.i64.wrap (v2 + v3)])], nx := 6 } k else k (AEx.exit 0) { fr := mkFr 7 [(1, AV.d (i64T).slice l), (2, AV.op 0 [] 0), (5, AV.op 1 [] 0), (7, AV.nils), (8, AV.nils), (9, I 0), (55, I 0), (56, AV.op 0 [1] 1), (57, AV.d (i64T).slice d), (58, I (Int.ofNat d.length)), (59, B false)], hp := [(0, AObj.box (AV.d Y0 (t, d, x, ()))), (1, AObj.box ((I t).pr ((AV.os 2 0).pr ((AV.os 3 0).pr (AV.d Ty.unit PUnit.unit))))), (2, AObj.arr 3 (i64T) 0 false pd), (3, AObj.arr 2 (i64T) 0 false px)], nx := 4 } := by kernel_rfl
theorem mu_s0 (t : Int) (d x l pd px : List Int) (n : Nat) {R : Type} (k : AEx → LSt → Option R) : lp gMu cf_muo (cL (cL (cR (cL (cR (cR (cR (cR (cR (cR C_muo)))))))))) (n + 1) (stMu0 t d x l pd px) k = bif decide (0 < Int.ofNat d.length) then (idx l 0).bind fun v1 => (idx l 0).bind fun v2 => (idx d 0).bind fun v3 => lp gMu cf_muo (cL (cL (cR (cL (cR (cR (cR (cR (cR (cR C_muo)))))))))) n { fr := mkFr 7 [(1, AV.d (i64T).slice l), (2, AV.op 0 [] 0), (5, AV.op 1 [] 0), (7, AV.os 4 0), (8, AV.os 5 0), (9, I 1)], hp := [(0, AObj.box (AV.d Y0 (t, d, x, ()))), (1, AObj.box ((I t).pr ((AV.os 2 0).pr ((AV.os 3 0).pr (AV.d Ty.unit PUnit.unit))))), (2, AObj.arr 3 (i64T) 0 false pd), (3, AObj.arr 2 (i64T) 0 false px), (4, AObj.arr 2 (i64T) 0 false [v1]), (5, AObj.arr 2 (i64T) 0 false [IntKind.i64.wrap (v2 + v3)])], nx := 6 } k else k (AEx.exit 0) { fr := mkFr 7 [(1, AV.d (i64T).slice l), (2, AV.op 0 [] 0), (5, AV.op 1 [] 0), (7, AV.nils), (8, AV.nils), (9, I 0), (55, I 0), (56, AV.op 0 [1] 1), (57, AV.d (i64T).slice d), (58, I (Int.ofNat d.length)), (59, B false)], hp := [(0, AObj.box (AV.d Y0 (t, d, x, ()))), (1, AObj.box ((I t).pr ((AV.os 2 0).pr ((AV.os 3 0).pr (AV.d Ty.unit PUnit.unit))))), (2, AObj.arr 3 (i64T) 0 false pd), (3, AObj.arr 2 (i64T) 0 false px)], nx := 4 } := by
  have h := mu_s0H (hlp gMu cf_muo) t d x l pd px n k
  simp only [lpH_lp] at h
  exact h
def stMu (t : Int) (d x l pd px s e : List Int) (i : Int) : LSt := { fr := mkFr 7 [(1, AV.d (i64T).slice l), (2, AV.op 0 [] 0), (5, AV.op 1 [] 0), (7, AV.os 4 0), (8, AV.os 5 0), (9, I i)], hp := hpMu t d x pd px ++ [(4, .arr 2 i64T 0 false s), (5, .arr 2 i64T 0 false e)], nx := 6 }
theorem mu_stH (hl : Hl) (t : Int) (d x l pd px s e : List Int) (i : Int) (n : Nat) {R : Type} (k : AEx → LSt → Option R) : lpH gMu cf_muo [9] hl (cL (cL (cR (cL (cR (cR (cR (cR (cR (cR C_muo)))))))))) (n + 1) (stMu t d x l pd px s e i) k = bif decide (i < Int.ofNat d.length) then (idx l i).bind fun v1 => (app s [v1]).bind fun v2 => (idx l i).bind fun v3 => (idx d i).bind fun v4 => (app e [IntKind.i64.wrap (v3 + v4)]).bind fun v5 => lpH gMu cf_muo [9] hl (cL (cL (cR (cL (cR (cR (cR (cR (cR (cR C_muo)))))))))) n { fr := mkFr 7 [(1, AV.d (i64T).slice l), (2, AV.op 0 [] 0), (5, AV.op 1 [] 0), (7, AV.os 4 0), (8, AV.os 5 0), (9, I (IntKind.i64.wrap (i + 1)))], hp := [(0, AObj.box (AV.d Y0 (t, d, x, ()))), (1, AObj.box ((I t).pr ((AV.os 2 0).pr ((AV.os 3 0).pr (AV.d Ty.unit PUnit.unit))))), (2, AObj.arr 3 (i64T) 0 false pd), (3, AObj.arr 2 (i64T) 0 false px), (4, AObj.arr 2 (i64T) 0 false v2), (5, AObj.arr 2 (i64T) 0 false v5)], nx := 6 } k else k (AEx.exit 0) { fr := mkFr 7 [(1, AV.d (i64T).slice l), (2, AV.op 0 [] 0), (5, AV.op 1 [] 0), (7, AV.os 4 0), (8, AV.os 5 0), (9, I i), (55, I i), (56, AV.op 0 [1] 1), (57, AV.d (i64T).slice d), (58, I (Int.ofNat d.length)), (59, B false)], hp := [(0, AObj.box (AV.d Y0 (t, d, x, ()))), (1, AObj.box ((I t).pr ((AV.os 2 0).pr ((AV.os 3 0).pr (AV.d Ty.unit PUnit.unit))))), (2, AObj.arr 3 (i64T) 0 false pd), (3, AObj.arr 2 (i64T) 0 false px), (4, AObj.arr 2 (i64T) 0 false s), (5, AObj.arr 2 (i64T) 0 false e)], nx := 6 } := by kernel_rfl
theorem mu_st (t : Int) (d x l pd px s e : List Int) (i : Int) (n : Nat) {R : Type} (k : AEx → LSt → Option R) : lp gMu cf_muo (cL (cL (cR (cL (cR (cR (cR (cR (cR (cR C_muo)))))))))) (n + 1) (stMu t d x l pd px s e i) k = bif decide (i < Int.ofNat d.length) then (idx l i).bind fun v1 => (app s [v1]).bind fun v2 => (idx l i).bind fun v3 => (idx d i).bind fun v4 => (app e [IntKind.i64.wrap (v3 + v4)]).bind fun v5 => lp gMu cf_muo (cL (cL (cR (cL (cR (cR (cR (cR (cR (cR C_muo)))))))))) n { fr := mkFr 7 [(1, AV.d (i64T).slice l), (2, AV.op 0 [] 0), (5, AV.op 1 [] 0), (7, AV.os 4 0), (8, AV.os 5 0), (9, I (IntKind.i64.wrap (i + 1)))], hp := [(0, AObj.box (AV.d Y0 (t, d, x, ()))), (1, AObj.box ((I t).pr ((AV.os 2 0).pr ((AV.os 3 0).pr (AV.d Ty.unit PUnit.unit))))), (2, AObj.arr 3 (i64T) 0 false pd), (3, AObj.arr 2 (i64T) 0 false px), (4, AObj.arr 2 (i64T) 0 false v2), (5, AObj.arr 2 (i64T) 0 false v5)], nx := 6 } k else k (AEx.exit 0) { fr := mkFr 7 [(1, AV.d (i64T).slice l), (2, AV.op 0 [] 0), (5, AV.op 1 [] 0), (7, AV.os 4 0), (8, AV.os 5 0), (9, I i), (55, I i), (56, AV.op 0 [1] 1), (57, AV.d (i64T).slice d), (58, I (Int.ofNat d.length)), (59, B false)], hp := [(0, AObj.box (AV.d Y0 (t, d, x, ()))), (1, AObj.box ((I t).pr ((AV.os 2 0).pr ((AV.os 3 0).pr (AV.d Ty.unit PUnit.unit))))), (2, AObj.arr 3 (i64T) 0 false pd), (3, AObj.arr 2 (i64T) 0 false px), (4, AObj.arr 2 (i64T) 0 false s), (5, AObj.arr 2 (i64T) 0 false e)], nx := 6 } := by
  have h := mu_stH (hlp gMu cf_muo) t d x l pd px s e i n k
  simp only [lpH_lp] at h
  exact h
noncomputable def KMu : AEx → LSt → Option (AEnd × LHp) := (blkK 0 (seqH gMu cf_muo [9] (hlp gMu cf_muo) (cR (cR (cR (cR (cR (cR (cR C_muo))))))) (endC Tryz.prog 0 Tryz.f12.results.toList ah)))
theorem mu_ex (t : Int) (d x l pd px s e : List Int) (i : Int) : KMu (.exit 0) { fr := mkFr 7 [(1, AV.d (i64T).slice l), (2, AV.op 0 [] 0), (5, AV.op 1 [] 0), (7, AV.os 4 0), (8, AV.os 5 0), (9, I i), (55, I i), (56, AV.op 0 [1] 1), (57, AV.d (i64T).slice d), (58, I (Int.ofNat d.length)), (59, B false)], hp := (stMu t d x l pd px s e i).hp, nx := 6 } = bif cutB t pd s e px then  bif decide ((difI e s).length ≤ 9223372036854775807 ∧ (cuX pd px s e).length ≤ 9223372036854775807 ∧ t = t ∧ difI e s = d ∧ cuX pd px s e = x) then some (AEnd.ret [B true], []) else none else none := by kernel_rfl
end Go.Proofs.XGT
namespace Go.Proofs.XGT
open Go.Vm Go
set_option maxRecDepth 100000
set_option maxHeartbeats 1000000
theorem set_at {o : List Int} {a : Nat} {v : Int} (h : a < o.length) : (o.set a v).getD a 0 = v := by
  rw [List.getD_eq_getElem?_getD, List.getElem?_set_self h]
  rfl
theorem set_off {o : List Int} {a b : Nat} {v : Int} (h : b ≠ a) : (o.set b v).getD a 0 = o.getD a 0 := by
  rw [List.getD_eq_getElem?_getD, List.getElem?_set_ne h, List.getD_eq_getElem?_getD]
theorem putN_len {D P S : List Nat} : ∀ (xr : List Int) (q : Nat) (o : List Int), (putN D P S xr q o).length = o.length
  | [], _, _ => rfl
  | v :: r, q, o => by
    show (putN D P S r (q + 1) (o.set _ v)).length = _
    rw [putN_len r, List.length_set]
theorem putN_miss {D P S : List Nat} {a : Nat} : ∀ (xr : List Int) (q : Nat) (o : List Int), (∀ j < xr.length, dot (addN (dig D (q + j)) P) S ≠ a) → (putN D P S xr q o).getD a 0 = o.getD a 0
  | [], _, _, _ => rfl
  | v :: r, q, o, h => by
    show (putN D P S r (q + 1) (o.set _ v)).getD a 0 = _
    rw [putN_miss r (q + 1) _ fun j hj => by rw [show q + 1 + j = q + (j + 1) by omega]; exact h (j + 1) (by simpa using hj), set_off (show dot (addN (dig D q) P) S ≠ a from h 0 (by simp))]
theorem putN_hit {D P S : List Nat} {M : Nat} (hi : ∀ i j, i < M → j < M → dot (addN (dig D i) P) S = dot (addN (dig D j) P) S → i = j) : ∀ (xr : List Int) (q : Nat) (o : List Int), q + xr.length ≤ M → (∀ i < M, dot (addN (dig D i) P) S < o.length) → ∀ j < xr.length, (putN D P S xr q o).getD (dot (addN (dig D (q + j)) P) S) 0 = xr.getD j 0
  | [], _, _, _, _, j, hj => absurd hj (Nat.not_lt_zero _)
  | v :: r, q, o, hq, ho, j, hj => by
    simp only [List.length_cons] at hq hj
    show (putN D P S r (q + 1) (o.set _ v)).getD _ 0 = _
    cases j with
    | zero =>
      rw [putN_miss r (q + 1) _ fun j hj e => by have := hi _ _ (by omega) (by omega) e; omega, Nat.add_zero, set_at (ho q (by omega))]
      rfl
    | succ j =>
      have := putN_hit hi r (q + 1) (o.set (dot (addN (dig D q) P) S) v) (by omega) (fun i h => by rw [List.length_set]; exact ho i h) j (by omega)
      rw [show q + (j + 1) = q + 1 + j by omega, this]
      rfl
theorem addN_inj : ∀ {a b p : List Nat}, a.length = p.length → b.length = p.length → addN a p = addN b p → a = b
  | [], [], [], _, _, _ => rfl
  | [], _ :: _, p, h1, h2, _ => by rw [← h1] at h2; cases h2
  | _ :: _, [], p, h1, h2, _ => by rw [← h2] at h1; cases h1
  | x :: r, y :: t, p :: u, h1, h2, h => by
    simp only [addN] at h
    injection h with e1 e2
    rw [addN_inj (a := r) (b := t) (p := u) (by simpa using h1) (by simpa using h2) e2, Nat.add_right_cancel e1]
/-- what was put in is read back -/
theorem put_back {D P E : List Nat} {x : List Int} (hP : P.length = D.length) (hb : ∀ q < prodN D, inb (addN (dig D q) P) E) (hx : x.length = prodN D) {q : Nat} (hq : q < prodN D) : (putN D P (strN E) x 0 (List.replicate (prodN E) 0)).getD (dot P (strN E) + dot (dig D q) (strN E)) 0 = x.getD q 0 := by
  have hi : ∀ i j, i < prodN D → j < prodN D → dot (addN (dig D i) P) (strN E) = dot (addN (dig D j) P) (strN E) → i = j := fun i j h1 h2 e => by
    have g := congrArg (dig E) e
    rw [dig_dot (hb i h1), dig_dot (hb j h2)] at g
    have g2 := addN_inj (by rw [dig_len]; exact hP.symm) (by rw [dig_len]; exact hP.symm) g
    rw [← dot_dig h1, ← dot_dig h2, g2]
  have := putN_hit (S := strN E) hi x 0 (List.replicate (prodN E) 0) (by omega) (fun i h => by rw [List.length_replicate]; exact dot_lt (hb i h)) q (by omega)
  rw [Nat.zero_add, dot_add _ _ _ (by rw [dig_len]; exact hP.symm)] at this
  rw [Nat.add_comm]
  exact this
end Go.Proofs.XGT
namespace Go.Proofs.XGT
open Go.Vm Go
set_option maxRecDepth 100000
set_option maxHeartbeats 1000000
theorem putN_all {D P S : List Nat} {v : Int} : ∀ (xr : List Int) (q : Nat) (o : List Int), v ∈ putN D P S xr q o → v ∈ xr ∨ v ∈ o
  | [], _, _, h => Or.inr h
  | y :: r, q, o, h => by
    rcases putN_all r (q + 1) (o.set (dot (addN (dig D q) P) S) y) h with h | h
    · exact Or.inl (by simp [h])
    · rcases List.mem_or_eq_of_mem_set h with h | h
      · exact Or.inr h
      · exact Or.inl (by simp [h])
theorem difI_add : ∀ {P D : List Nat}, P.length = D.length → difI (ints (addN P D)) (ints P) = ints D
  | [], [], _ => rfl
  | p :: r, d :: t, h => by
    have := difI_add (P := r) (D := t) (by simpa using h)
    show (((p + d : Nat) : Int) - (p : Int)) :: difI (ints (addN r t)) (ints r) = (d : Int) :: ints t
    rw [this]
    congr 1
    omega
theorem fitN_of : ∀ {P D E : List Nat}, P.length = D.length → E.length = D.length → (∀ y ∈ D, 1 ≤ y) → (∀ i, i < D.length → P.getD i 0 + D.getD i 0 ≤ E.getD i 0) → fitN P D E
  | [], [], [], _, _, _, _ => trivial
  | p :: r, d :: t, e :: u, h1, h2, h3, h4 => ⟨h4 0 (by simp), h3 d (by simp), fitN_of (P := r) (D := t) (E := u) (by simpa using h1) (by simpa using h2) (fun y hy => h3 y (by simp [hy])) fun i hi => h4 (i + 1) (by simpa using hi)⟩
  | [], _ :: _, _, h1, _, _, _ => by cases h1
  | _ :: _, [], _, h1, _, _, _ => by cases h1
  | _, _ :: _, [], _, h2, _, _ => by cases h2
  | _, [], _ :: _, _, h2, _, _ => by cases h2
theorem fit_of_inb {D E P : List Nat} (hP : P.length = D.length) (hE : E.length = D.length) (h1 : ∀ y ∈ D, 1 ≤ y) (hb : ∀ q < prodN D, inb (addN (dig D q) P) E) : fitN P D E := by
  refine fitN_of hP hE h1 fun i hi => ?_
  let c := D.map fun y => y - 1
  have hc : inb c D := by
    refine inb_of (by simp [c]) fun j hj => ?_
    have hj' : j < D.length := by simpa [c] using hj
    have hm : D.getD j 0 ∈ D := by
      rw [List.getD_eq_getElem?_getD, List.getElem?_eq_getElem hj']
      exact List.getElem_mem hj'
    have := h1 _ hm
    show (D.map fun y => y - 1).getD j 0 < _
    rw [List.getD_eq_getElem?_getD, List.getElem?_map, List.getElem?_eq_getElem hj', List.getD_eq_getElem?_getD, List.getElem?_eq_getElem hj']
    rw [List.getD_eq_getElem?_getD, List.getElem?_eq_getElem hj'] at this
    simp only [Option.map_some, Option.getD_some] at this ⊢
    omega
  have g := hb _ (dot_lt hc)
  rw [dig_dot hc] at g
  have hl : c.length = D.length := by simp [c]
  have g2 := inb_get g i (by rw [addN_len (by omega)]; omega)
  rw [addN_get (by omega)] at g2
  have hm : D.getD i 0 ∈ D := by
    rw [List.getD_eq_getElem?_getD, List.getElem?_eq_getElem hi]
    exact List.getElem_mem hi
  have h1' := h1 _ hm
  have e : c.getD i 0 = D.getD i 0 - 1 := by
    show (D.map fun y => y - 1).getD i 0 = _
    rw [List.getD_eq_getElem?_getD, List.getElem?_map, List.getElem?_eq_getElem hi, List.getD_eq_getElem?_getD, List.getElem?_eq_getElem hi]
    rfl
  omega
/-- the starts and the ends of the cut -/
def cutS (d l : List Int) : List Int := ints (padP d l)
def cutE (d l : List Int) : List Int := ints (addN (padP d l) (d.map Int.toNat))
theorem cut_back {t : Int} {d l x : List Int} (ht : tenE t d x = 0) (hp : padE t d l = 0) (hne : ¬ (d = [] ∧ l = [])) : cutB t (padD d l) (cutS d l) (cutE d l) (padX d l x) = true ∧ difI (cutE d l) (cutS d l) = d ∧ cuX (padD d l) (padX d l x) (cutS d l) (cutE d l) = x := by
  obtain ⟨n1, n2, n3, n4⟩ := ten_ok ht
  obtain ⟨e1, e2, e3⟩ := padE_ok hp
  obtain ⟨D, E, P, wr, eD, eE, el, eD2, eE2, eP2, hP, hE, hpd, hpe, h6, u1, hb⟩ := pad_facts n2 e2 e3
  obtain ⟨p1, _, _, q1⟩ := count_ok n2
  obtain ⟨_, _, _, q2⟩ := count_ok e3
  have hx : x.length = prodN D := by
    rw [q1, eD, prodI_ints] at n3
    omega
  have o1 : ∀ y ∈ D, 1 ≤ y := fun y hy => by
    have := p1 (y : Int) (by rw [eD]; exact List.mem_map_of_mem hy)
    omega
  have hf := fit_of_inb hP hE o1 hb
  have hd : d ≠ [] := fun e => hne ⟨e, by
    have h0 : D.length = 0 := by rw [← ints_len D, ← eD, e]; rfl
    have := (numC_in e2).2
    rw [e] at this
    simp only [List.length_nil, Int.ofNat_eq_natCast] at this
    exact List.length_eq_zero_iff.1 (by omega)⟩
  have hdif : difI (cutE d l) (cutS d l) = d := by
    unfold cutE cutS
    rw [eP2, eD2, difI_add hP, ← eD]
  have hX : padX d l x = putN D P (strN E) x 0 (List.replicate (prodN E) 0) := by unfold padX; rw [eD2, eE2, eP2]
  have hXl : (padX d l x).length = prodN E := by rw [hX, putN_len, List.length_replicate]
  have hE2 : (padD d l).map Int.toNat = E := eE2
  refine ⟨?_, hdif, ?_⟩
  · unfold cutB
    rw [hdif, Bool.and_eq_true]
    refine ⟨decide_eq_true ⟨tenE_mk n1 e3 (by rw [hXl, q2, eE, prodI_ints]) fun v hv => ?_, fun h => hd (List.length_eq_zero_iff.1 (by rw [← padD_len d l, h]; rfl)), fun v hv => ?_, ?_, ?_⟩, ?_⟩
    · rw [hX] at hv
      rcases putN_all _ _ _ hv with h | h
      · exact n4 v h
      · rw [List.eq_of_mem_replicate h]; exact n1
    · obtain ⟨y, _, rfl⟩ := List.mem_map.1 hv
      omega
    · unfold cutS
      rw [ints_len, padD_len, eP2, hP, eD, ints_len]
    · unfold cutE
      rw [ints_len, padD_len, eP2, eD2, addN_len hP, hP, eD, ints_len]
    · unfold cutS
      rw [ints_toNat, eP2, eD2, hE2]
      exact fitB_of hf
  · unfold cuX
    rw [hdif, hE2]
    unfold cutS
    rw [ints_toNat, eP2, eE, strI_ints, hX, eD]
    unfold rdG vwL
    rw [ints_toNat, ints_toNat, Int.toNat_natCast]
    apply List.ext_getElem?
    intro q
    by_cases hq : q < prodN D
    · rw [tab_get hq, put_back hP hb hx hq, List.getD_eq_getElem?_getD, List.getElem?_eq_getElem (by omega)]
      rfl
    · rw [List.getElem?_eq_none (by rw [tab_length]; omega), List.getElem?_eq_none (by omega)]
end Go.Proofs.XGT
namespace Go.Proofs.XGT
open Go.Vm Go
set_option maxRecDepth 100000
set_option maxHeartbeats 4000000
theorem mu_lp {t : Int} {d x l pd px : List Int} (h1 : d.length ≤ 6) (h2 : ∀ y ∈ d, 1 ≤ y ∧ y ≤ 65536) (h3 : ∀ y ∈ l, 0 ≤ y ∧ y ≤ 65536) (h4 : d.length ≤ l.length) : ∀ (m i n : Nat), i + m = d.length → m < n →
    lp gMu cf_muo (cL (cL (cR (cL (cR (cR (cR (cR (cR (cR C_muo)))))))))) n (stMu t d x l pd px (tab i fun j => l.getD j 0) (tab i fun j => l.getD j 0 + d.getD j 0) (i : Nat)) KMu =
      KMu (.exit 0) { fr := mkFr 7 [(1, AV.d (i64T).slice l), (2, AV.op 0 [] 0), (5, AV.op 1 [] 0), (7, AV.os 4 0), (8, AV.os 5 0), (9, I (d.length : Nat)), (55, I (d.length : Nat)), (56, AV.op 0 [1] 1), (57, AV.d (i64T).slice d), (58, I (Int.ofNat d.length)), (59, B false)], hp := (stMu t d x l pd px (tab d.length fun j => l.getD j 0) (tab d.length fun j => l.getD j 0 + d.getD j 0) (d.length : Nat)).hp, nx := 6 } := by
  intro m
  induction m with
  | zero =>
    intro i n hi hn
    obtain ⟨n, rfl⟩ : ∃ m', n = m' + 1 := ⟨n - 1, by omega⟩
    obtain rfl : i = d.length := by omega
    rw [mu_st, decide_eq_false (show ¬ (((d.length : Nat) : Int) < Int.ofNat d.length) by simp only [Int.ofNat_eq_natCast]; omega), cond_false]
    rfl
  | succ m ih =>
    intro i n hi hn
    obtain ⟨n, rfl⟩ : ∃ m', n = m' + 1 := ⟨n - 1, by omega⟩
    have key := ih (i + 1) n (by omega) (by omega)
    have g1 := idx_in (xs := l) (p := (i : Int)) (by omega) (by omega)
    have g2 := idx_in (xs := d) (p := (i : Int)) (by omega) (by omega)
    rw [Int.toNat_natCast] at g1 g2
    have b1 := h3 (l.getD i 0) (by rw [List.getD_eq_getElem?_getD, List.getElem?_eq_getElem (by omega)]; exact List.getElem_mem _)
    have b2 := h2 (d.getD i 0) (by rw [List.getD_eq_getElem?_getD, List.getElem?_eq_getElem (by omega)]; exact List.getElem_mem _)
    have ts : ∀ f : Nat → Int, app (tab i f) [f i] = some (tab (i + 1) f) := fun f => by
      rw [show tab (i + 1) f = tab i f ++ [f i] by unfold tab; rw [List.range_succ, List.map_append]; rfl]
      exact app_eq (by rw [tab_length]; simp only [List.length_singleton, lim]; omega)
    have w5 : IntKind.i64.wrap ((i : Int) + 1) = ((i + 1 : Nat) : Int) := by rw [wrap64 (by omega) (by omega)]; omega
    have w6 : IntKind.i64.wrap (l.getD i 0 + d.getD i 0) = l.getD i 0 + d.getD i 0 := wrap64 (by omega) (by omega)
    rw [mu_st, decide_eq_true (show ((i : Int) < Int.ofNat d.length) by simp only [Int.ofNat_eq_natCast]; omega), cond_true, g1, Option.bind_some, ts fun j => l.getD j 0, Option.bind_some, Option.bind_some, g2, Option.bind_some, w6, ts fun j => l.getD j 0 + d.getD j 0, Option.bind_some, w5]
    exact key
end Go.Proofs.XGT
namespace Go.Proofs.XGT
open Go.Vm Go
set_option maxRecDepth 100000
set_option maxHeartbeats 4000000
theorem tab_ext2 {r : Nat} {f : Nat → Int} {L : List Int} (hl : L.length = r) (h : ∀ i, i < r → f i = L.getD i 0) : tab r f = L := by
  apply List.ext_getElem?
  intro i
  by_cases hi : i < r
  · rw [tab_get hi, h i hi, List.getD_eq_getElem?_getD, List.getElem?_eq_getElem (by omega)]
    rfl
  · rw [List.getElem?_eq_none (by rw [tab_length]; omega), List.getElem?_eq_none (by omega)]
theorem mu_join (t : Int) (d x l pd px : List Int) : hlp gMu cf_muo (cL (cL (cR (cL (cR (cR (cR (cR (cR (cR C_muo)))))))))) (AEnd × LHp) (stMu0 t d x l pd px) KMu = lp gMu cf_muo (cL (cL (cR (cL (cR (cR (cR (cR (cR (cR C_muo)))))))))) fu (stMu0 t d x l pd px) KMu := rfl
theorem mu_true {t : Int} {d x l : List Int} (hd : d.length ≤ maxLen) (hx : x.length ≤ maxLen) (hl : l.length ≤ 2147483648) (hne : ¬ (d = [] ∧ l = [])) : runC gMu Tryz.f12 7 [(9, [1, 2, 5, 7, 8, 9])] [.d (Y0) (t, d, x, ()), .d (.slice i64T) l] [] ah = some (.ret [B true], []) := by
  rw [muo_eq, decide_eq_true (show x.length ≤ 9223372036854775807 ∧ d.length ≤ 9223372036854775807 ∧ l.length ≤ 2147483648 from ⟨hx, hd, hl⟩), decide_eq_false hne]
  cases decide (Int.ofNat x.length > 2000) with
  | true => rfl
  | false =>
    cases ht : tenE t d x != 0 with
    | true => rfl
    | false =>
      have ht0 : tenE t d x = 0 := by simpa using ht
      cases hp : padE t d l != 0 with
      | true => rfl
      | false =>
        have hp0 : padE t d l = 0 := by simpa using hp
        cases decide (Int.ofNat (padX d l x).length > 2000) with
        | true => rfl
        | false =>
          obtain ⟨n1, n2, n3, _⟩ := ten_ok ht0
          obtain ⟨_, e2, e3⟩ := padE_ok hp0
          obtain ⟨p1, h6, _⟩ := count_ok n2
          obtain ⟨D, E, P, wr, eD, eE, el, eD2, eE2, eP2, hP, hE, hpd, hpe, h6', u1, hb⟩ := pad_facts n2 e2 e3
          obtain ⟨c1, c2, c3⟩ := cut_back ht0 hp0 hne
          obtain ⟨nl, ll⟩ := numC_in e2
          simp only [Int.ofNat_eq_natCast] at ll
          have hr : 1 ≤ d.length := by
            cases hdd : d with
            | nil =>
              refine absurd ⟨hdd, ?_⟩ hne
              rw [hdd] at ll
              simp only [List.length_nil] at ll
              exact List.length_eq_zero_iff.1 (by omega)
            | cons _ _ => simp
          have hf : fu = 18446744073709551616 := rfl
          have w0 : (Int.ofNat l.length != IntKind.i64.wrap (Int.ofNat (2 * d.length))) = false := by
            rw [wrap64 (by simp only [Int.ofNat_eq_natCast]; omega) (by simp only [Int.ofNat_eq_natCast]; omega), bne_eq_false_iff_eq]
            simp only [Int.ofNat_eq_natCast]
            omega
          have h2 : ∀ y ∈ d, 1 ≤ y ∧ y ≤ 65536 := fun y hy => ⟨p1 y hy, dim_le n2 y hy⟩
          have eS : (tab d.length fun j => l.getD j 0) = cutS d l := by
            unfold cutS
            rw [eP2]
            refine tab_ext2 (by rw [ints_len, hP, eD, ints_len]) fun i hi => ?_
            rw [el, List.getD_eq_getElem?_getD, List.getElem?_append_left (by rw [ints_len, hP]; rw [eD, ints_len] at hi; exact hi), List.getD_eq_getElem?_getD]
          have eE' : (tab d.length fun j => l.getD j 0 + d.getD j 0) = cutE d l := by
            unfold cutE
            rw [eP2, eD2]
            refine tab_ext2 (by rw [ints_len, addN_len hP, hP, eD, ints_len]) fun i hi => ?_
            have hi' : i < D.length := by rw [eD, ints_len] at hi; exact hi
            have ha : l.getD i 0 = ((P.getD i 0 : Nat) : Int) := by
              rw [← ints_getD, el, List.getD_eq_getElem?_getD, List.getElem?_append_left (by rw [ints_len, hP]; exact hi'), List.getD_eq_getElem?_getD]
            rw [ints_getD, addN_get hP, ha, eD, ints_getD]
            omega
          have key := mu_lp (t := t) (x := x) (pd := padD d l) (px := padX d l x) h6 h2 nl (by omega) (d.length - 1) 1 (fu - 1) (by omega) (by omega)
          rw [eS, eE'] at key
          have g1 := idx_in (xs := l) (p := 0) (by omega) (by omega)
          have g2 := idx_in (xs := d) (p := 0) (by omega) (by omega)
          have hs := mu_s0 t d x l (padD d l) (padX d l x) (fu - 1) KMu
          have b1 := nl (l.getD (0 : Int).toNat 0) (by rw [List.getD_eq_getElem?_getD, List.getElem?_eq_getElem (by show 0 < _; omega)]; exact List.getElem_mem _)
          have b2 := h2 (d.getD (0 : Int).toNat 0) (by rw [List.getD_eq_getElem?_getD, List.getElem?_eq_getElem (by show 0 < _; omega)]; exact List.getElem_mem _)
          rw [decide_eq_true (show (0 : Int) < Int.ofNat d.length by simp only [Int.ofNat_eq_natCast]; omega), cond_true, g1, Option.bind_some, Option.bind_some, g2, Option.bind_some, wrap64 (by omega) (by omega)] at hs
          have e1 : tab 1 (fun j => l.getD j 0) = [l.getD (0 : Int).toNat 0] := rfl
          have e2' : tab 1 (fun j => l.getD j 0 + d.getD j 0) = [l.getD (0 : Int).toNat 0 + d.getD (0 : Int).toNat 0] := rfl
          rw [e1, e2'] at key
          have hs2 : lp gMu cf_muo (cL (cL (cR (cL (cR (cR (cR (cR (cR (cR C_muo)))))))))) fu (stMu0 t d x l (padD d l) (padX d l x)) KMu = lp gMu cf_muo (cL (cL (cR (cL (cR (cR (cR (cR (cR (cR C_muo)))))))))) (fu - 1) (stMu t d x l (padD d l) (padX d l x) [l.getD (0 : Int).toNat 0] [l.getD (0 : Int).toNat 0 + d.getD (0 : Int).toNat 0] ((1 : Nat) : Int)) KMu := hs
          rw [key, mu_ex, c1, c2, c3, decide_eq_true (show d.length ≤ 9223372036854775807 ∧ x.length ≤ 9223372036854775807 ∧ t = t ∧ d = d ∧ x = x from ⟨hd, hx, rfl, rfl, rfl⟩), cond_true, cond_true] at hs2
          rw [w0]
          clear key hs eS eE'
          refine Eq.trans ?_ hs2
          repeat (first | rw [cond_false] | rw [cond_true] | rw [Bool.not_false])
          exact mu_join t d x l (padD d l) (padX d l x)
end Go.Proofs.XGT
namespace Go.Proofs.XGT
open Go.Vm Go
set_option maxRecDepth 100000
set_option maxHeartbeats 4000000
noncomputable def cnZ0 : FnE := treeElse countG x57
theorem cnZ0_ok : FnE.OK e0.P e0.gam 57 cnZ0 := treeElse_ok countG_ok x57_ok
noncomputable def ouZ0 : FnE := execFnDC (g152.add 57 cnZ0) Tryz.f55 7 [(5, [1, 2, 4, 5, 26, 27, 28])] dd55
theorem ouZ0_ok : FnE.OK e0.P e0.gam 55 ouZ0 := execFnDC_ok (g152_good.add cnZ0_ok) (execFnD_ok (D := dd55) (g152_good.add cnZ0_ok) hmix Tryz.func55 Tryz.call55 rfl rfl (by decide +kernel) rfl Tryz.func89 Tryz.call89 rfl rfl (by decide +kernel))
noncomputable def gBz0 : Env := g212.add 55 ouZ0
theorem gBz0_good : gBz0.Good := g212_good.add ouZ0_ok
noncomputable def bhZ0 : FnE := execFnC gBz0 Tryz.f42 6 [(3, [2, 4, 6, 9, 10, 11])]
theorem bhZ0_ok : FnE.OK e0.P e0.gam 42 bhZ0 := execFnC_ok gBz0_good hmix Tryz.func42 Tryz.call42 (by decide +kernel) rfl
noncomputable def mdZ0 : FnE := execFnC (g227.add 42 bhZ0) Tryz.f27 7 []
theorem mdZ0_ok : FnE.OK e0.P e0.gam 27 mdZ0 := execFnC_ok (g227_good.add bhZ0_ok) hmix Tryz.func27 Tryz.call27 (by decide +kernel) rfl
noncomputable def gMz0 : Env := (g232.add 27 mdZ0).add 25 (fnE livtF)
theorem gMz0_good : gMz0.Good := (g232_good.add mdZ0_ok).add livtE_ok
theorem mu0_eq (t v : Int) : runC gMz0 Tryz.f12 7 [(9, [1, 2, 5, 7, 8, 9])] [.d (Y0) (t, [], [v], ()), .d (.slice i64T) []] [] ah = bif tenE t [] [v] != 0 then some (AEnd.ret [B true], []) else  bif !numOk t 0 then some (AEnd.ret [B true], []) else  bif t == 6 then  bif t != 1 then some (AEnd.ret [B true], []) else  bif tenE t [] [v] != 0 then some (AEnd.ret [B false], []) else  bif !numOk t 0 then some (AEnd.ret [B false], []) else  bif t == 6 then  bif t != t then some (AEnd.ret [B false], []) else  bif v != v then some (AEnd.ret [B false], []) else some (AEnd.ret [B true], []) else  bif t != t then some (AEnd.ret [B false], []) else  bif v != v then some (AEnd.ret [B false], []) else some (AEnd.ret [B true], []) else  bif t != 1 then some (AEnd.ret [B true], []) else  bif tenE t [] [v] != 0 then some (AEnd.ret [B false], []) else  bif !numOk t 0 then some (AEnd.ret [B false], []) else  bif t == 6 then  bif t != t then some (AEnd.ret [B false], []) else  bif v != v then some (AEnd.ret [B false], []) else some (AEnd.ret [B true], []) else  bif t != t then some (AEnd.ret [B false], []) else  bif v != v then some (AEnd.ret [B false], []) else some (AEnd.ret [B true], []) := by kernel_rfl
end Go.Proofs.XGT
namespace Go.Proofs.XGT
open Go.Vm Go
set_option maxRecDepth 100000
set_option maxHeartbeats 4000000
theorem mu0_true {t v : Int} (ht : tenE t [] [v] = 0) : runC gMz0 Tryz.f12 7 [(9, [1, 2, 5, 7, 8, 9])] [.d (Y0) (t, [], [v], ()), .d (.slice i64T) []] [] ah = some (.ret [B true], []) := by
  rw [mu0_eq, ht]
  have e1 : (t != t) = false := bne_self_eq_false t
  have e2 : (v != v) = false := bne_self_eq_false v
  rw [e1, e2]
  cases hn : numOk t 0 <;> cases t == 6 <;> cases t != 1 <;> rfl
theorem mue_true {t : Int} {d x l : List Int} (hd : d.length ≤ maxLen) (hx : x.length ≤ maxLen) (hl : l.length ≤ 2147483648) (he : (tenE t d x != 0) = true) : runC gMu Tryz.f12 7 [(9, [1, 2, 5, 7, 8, 9])] [.d (Y0) (t, d, x, ()), .d (.slice i64T) l] [] ah = some (.ret [B true], []) := by
  rw [muo_eq, decide_eq_true (show x.length ≤ 9223372036854775807 ∧ d.length ≤ 9223372036854775807 ∧ l.length ≤ 2147483648 from ⟨hx, hd, hl⟩), he]
  cases decide (Int.ofNat x.length > 2000) with
  | true => rfl
  | false => rfl
theorem muo_call (t : Int) (d x : List Int) (hd : d.length ≤ maxLen) (hx : x.length ≤ maxLen) (l : List Int) (hl : l.length ≤ 2147483648) : FnH Tryz.prog (Env.gam e0) 12 [.d (Y0) (t, d, x, ()), .d (.slice i64T) l] (hget []) (fun ae h1 => ae = .ret [B true] ∧ h1 = hget []) := by
  rcases Classical.em (d = [] ∧ l = []) with hz | hz
  · cases ht : tenE t d x != 0 with
    | true => exact runC_call gMu_good hmix Tryz.func12 Tryz.call12 (by decide +kernel) rfl (mue_true hd hx hl ht)
    | false =>
      have ht0 : tenE t d x = 0 := by simpa using ht
      obtain ⟨hd0, hl0⟩ := hz
      subst hd0 hl0
      obtain ⟨_, _, n3, _⟩ := ten_ok ht0
      have h1 : x.length = 1 := by rw [show countN [] = 1 from rfl] at n3; omega
      obtain ⟨v, rfl⟩ := List.length_eq_one_iff.1 h1
      exact runC_call gMz0_good hmix Tryz.func12 Tryz.call12 (by decide +kernel) rfl (mu0_true ht0)
  · exact runC_call gMu_good hmix Tryz.func12 Tryz.call12 (by decide +kernel) rfl (mu_true hd hx hl hz)
end Go.Proofs.XGT
