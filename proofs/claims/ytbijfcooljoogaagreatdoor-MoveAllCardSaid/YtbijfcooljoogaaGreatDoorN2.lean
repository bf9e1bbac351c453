/- numbers of dims, told. -/
import Derived.Test.YtbijfcooljoogaaGreatDoorGUn

namespace Go.Proofs.XGT
open Go.Vm Go
set_option maxRecDepth 100000
set_option maxHeartbeats 4000000
theorem count_ok {xs : List Int} (h : countE xs = 0) : (∀ x ∈ xs, 1 ≤ x) ∧ xs.length ≤ 6 ∧ prodI xs ≤ 65536 ∧ countN xs = prodI xs := by
  unfold countE at h
  unfold countN
  cases h1 : decide (idxP (fun d => decide (d < 1)) xs ≥ 0) with
  | true => rw [h1] at h; exact absurd (show (4 : Int) = 0 from h) (by decide)
  | false =>
    rw [h1] at h
    cases h2 : decide (Int.ofNat xs.length > 6) with
    | true => rw [h2] at h; exact absurd (show (6 : Int) = 0 from h) (by decide)
    | false =>
      rw [h2] at h
      cases h3 : bigI xs with
      | true => rw [h3] at h; exact absurd (show (6 : Int) = 0 from h) (by decide)
      | false =>
        refine ⟨fun x hx => ?_, ?_, ?_, rfl⟩
        · rw [idxP_ge, List.any_eq_false] at h1
          have := h1 x hx
          simp only [decide_eq_true_eq] at this
          omega
        · have := of_decide_eq_false h2
          have e : Int.ofNat xs.length = (xs.length : Int) := rfl
          omega
        · have := of_decide_eq_false h3
          omega
theorem ten_ok {t : Int} {xd dt : List Int} (h : tenE t xd dt = 0) : numOk t 0 = true ∧ countE xd = 0 ∧ (dt.length : Int) = countN xd ∧ ∀ x ∈ dt, numOk t x = true := by
  unfold tenE at h
  cases h1 : numOk t 0 with
  | false => rw [h1] at h; exact absurd (show (5 : Int) = 0 from h) (by decide)
  | true =>
    rw [h1] at h
    cases h2 : countE xd != 0 with
    | true =>
      rw [h2] at h
      have h' : countE xd = 0 := h
      rw [h'] at h2
      exact absurd h2 (by decide)
    | false =>
      rw [h2] at h
      cases h3 : Int.ofNat dt.length != countN xd with
      | true => rw [h3] at h; exact absurd (show (4 : Int) = 0 from h) (by decide)
      | false =>
        rw [h3] at h
        cases h4 : dt.any (fun x => !numOk t x) with
        | true => rw [h4] at h; exact absurd (show (4 : Int) = 0 from h) (by decide)
        | false =>
          refine ⟨rfl, by simpa using h2, by simpa using h3, fun x hx => ?_⟩
          rw [List.any_eq_false] at h4
          simpa using h4 x hx
theorem four {xs : List Int} (h : xs.length = 4) : ∃ a b c d, xs = [a, b, c, d] := by
  match xs, h with
  | [a, b, c, d], _ => exact ⟨a, b, c, d, rfl⟩
theorem mul_le_self {a b : Int} (ha : 1 ≤ a) (hb : 1 ≤ b) : a ≤ a * b ∧ b ≤ a * b ∧ 1 ≤ a * b := by
  have h1 := Int.mul_le_mul_of_nonneg_left hb (show 0 ≤ a by omega)
  have h2 := Int.mul_le_mul_of_nonneg_right ha (show 0 ≤ b by omega)
  rw [Int.mul_one] at h1
  rw [Int.one_mul] at h2
  exact ⟨h1, h2, by omega⟩
structure Four (a b c d : Int) : Prop where
  a1 : 1 ≤ a
  b1 : 1 ≤ b
  c1 : 1 ≤ c
  d1 : 1 ≤ d
  ab : 1 ≤ a * b ∧ a * b ≤ 65536
  cd : 1 ≤ c * d ∧ c * d ≤ 65536
  all : a * b * (c * d) ≤ 65536
  c2 : c ≤ 65536
  d2 : d ≤ 65536
theorem four_ok {a b c d : Int} (h : countE [a, b, c, d] = 0) : Four a b c d ∧ countN [a, b, c, d] = a * b * (c * d) := by
  obtain ⟨h1, _, h3, h4⟩ := count_ok h
  have ha := h1 a (by simp)
  have hb := h1 b (by simp)
  have hc := h1 c (by simp)
  have hd := h1 d (by simp)
  have e : prodI [a, b, c, d] = a * b * (c * d) := by
    show 1 * a * b * c * d = _
    rw [Int.one_mul, Int.mul_assoc (a * b) c d]
  rw [e] at h3 h4
  obtain ⟨g1, g2, g3⟩ := mul_le_self ha hb
  obtain ⟨k1, k2, k3⟩ := mul_le_self hc hd
  obtain ⟨l1, l2, l3⟩ := mul_le_self g3 k3
  exact ⟨⟨ha, hb, hc, hd, ⟨g3, by omega⟩, ⟨k3, by omega⟩, h3, by omega, by omega⟩, h4⟩
end Go.Proofs.XGT
/- move.gather by all places of an axis. -/
namespace Go.Proofs.XGT
open Go.Vm Go
set_option maxRecDepth 100000
set_option maxHeartbeats 4000000
noncomputable def C_gat : Code := codeOf Tryz.f50
noncomputable def cf_gat : Cfg := ⟨85, 7, 3, [(8, [1, 6, 9, 10, 11, 12, 41, 42]), (11, [1, 6, 9, 10, 11, 12, 13, 41, 42, 48, 49, 50])], true⟩
def hpGA (z : Bool) (v t m : Int) (xd dt l : List Int) : LHp := [(0, .arr 25 (Y0) 0 z [(t, xd, dt, ()), (7, [m], l, ())]), (1, .arr 37 (Y1) 0 true [iattr strAxis v]), (2, .arr 9 .str 0 false [[120], [121]])]
theorem gat_eqH (hl : Hl) (z : Bool) (v t m : Int) (xd dt l : List Int) : runH g221 Tryz.f50 7 [(8, [1, 6, 9, 10, 11, 12, 41, 42]), (11, [1, 6, 9, 10, 11, 12, 13, 41, 42, 48, 49, 50])] [8, 11] hl [nodeA strGA [] [122] (.os 2 0) (.os 1 0), .os 0 0] (hpGA z v t m xd dt l) ah =
  bif decide (v < 0) then (if (0 : Int) ≤ 0 ∧ 0 ≤ IntKind.i64.wrap (v + Int.ofNat xd.length) ∧ IntKind.i64.wrap (v + Int.ofNat xd.length) ≤ Int.ofNat xd.length then some (List.drop 0 (List.take (IntKind.i64.wrap (v + Int.ofNat xd.length)).toNat xd)) else none).bind fun v1 =>
      bif decide (v1.length ≤ 9223372036854775807) then (if 0 ≤ IntKind.i64.wrap (v + Int.ofNat xd.length) ∧ IntKind.i64.wrap (v + Int.ofNat xd.length) ≤ Int.ofNat xd.length ∧ Int.ofNat xd.length ≤ Int.ofNat xd.length then some (List.drop (IntKind.i64.wrap (v + Int.ofNat xd.length)).toNat (List.take (Int.ofNat xd.length).toNat xd)) else none).bind fun v3 =>
          bif decide (v3.length ≤ 9223372036854775807) then (idx xd (IntKind.i64.wrap (v + Int.ofNat xd.length))).bind fun v5 =>
              (if v5 = 0 then none else some (IntKind.i64.wrap ((countN v3).tdiv v5))).bind fun v6 =>
                hl (cL (cL (cR (cL (cR (cR (cR (cR (cR (cR (cR C_gat))))))))))) _ { fr := mkFr 7 [(1, AV.os 0 0), (6, AV.op 3 [] 0), (9, I (countN v3)), (10, I v5), (11, I v6), (12, AV.nils), (41, I (countN v1)), (42, I 0)], hp := [(0, AObj.arr 25 ((i64T).pair ((i64T).slice.pair ((i64T).slice.pair Ty.unit))) 0 z [(t, xd, dt, PUnit.unit), (7, [m], l, PUnit.unit)]), (1, AObj.arr 37 (Ty.str.pair ((i64T).pair ((i64T).pair ((i64T).pair (Ty.str.pair (((i64T).pair ((i64T).slice.pair ((i64T).slice.pair Ty.unit))).pair ((i64T).slice.pair Ty.unit))))))) 0 true [([97, 120, 105, 115], 2, 0, v, [], (0, [], [], PUnit.unit), [], PUnit.unit)]), (2, AObj.arr 9 Ty.str 0 false [[120], [121]]), (3, AObj.box (AV.d ((i64T).pair ((i64T).slice.pair ((i64T).slice.pair Ty.unit))) (t, xd, dt, PUnit.unit)))], nx := 7 } (blkK 0 (seqH g221 cf_gat [8, 11] hl (cR (cR (cR (cR (cR (cR (cR (cR C_gat)))))))) (endC Tryz.prog 3 Tryz.f50.results.toList ah)))
          else none
      else none
  else (if (0 : Int) ≤ 0 ∧ 0 ≤ v ∧ v ≤ Int.ofNat xd.length then some (List.drop 0 (List.take v.toNat xd)) else none).bind fun v1 =>
      bif decide (v1.length ≤ 9223372036854775807) then (if 0 ≤ v ∧ v ≤ Int.ofNat xd.length ∧ Int.ofNat xd.length ≤ Int.ofNat xd.length then some (List.drop v.toNat (List.take (Int.ofNat xd.length).toNat xd)) else none).bind fun v3 =>
          bif decide (v3.length ≤ 9223372036854775807) then (idx xd v).bind fun v5 =>
              (if v5 = 0 then none else some (IntKind.i64.wrap ((countN v3).tdiv v5))).bind fun v6 =>
                hl (cL (cL (cR (cL (cR (cR (cR (cR (cR (cR (cR C_gat))))))))))) _ { fr := mkFr 7 [(1, AV.os 0 0), (6, AV.op 3 [] 0), (9, I (countN v3)), (10, I v5), (11, I v6), (12, AV.nils), (41, I (countN v1)), (42, I 0)], hp := [(0, AObj.arr 25 ((i64T).pair ((i64T).slice.pair ((i64T).slice.pair Ty.unit))) 0 z [(t, xd, dt, PUnit.unit), (7, [m], l, PUnit.unit)]), (1, AObj.arr 37 (Ty.str.pair ((i64T).pair ((i64T).pair ((i64T).pair (Ty.str.pair (((i64T).pair ((i64T).slice.pair ((i64T).slice.pair Ty.unit))).pair ((i64T).slice.pair Ty.unit))))))) 0 true [([97, 120, 105, 115], 2, 0, v, [], (0, [], [], PUnit.unit), [], PUnit.unit)]), (2, AObj.arr 9 Ty.str 0 false [[120], [121]]), (3, AObj.box (AV.d ((i64T).pair ((i64T).slice.pair ((i64T).slice.pair Ty.unit))) (t, xd, dt, PUnit.unit)))], nx := 7 } (blkK 0 (seqH g221 cf_gat [8, 11] hl (cR (cR (cR (cR (cR (cR (cR (cR C_gat)))))))) (endC Tryz.prog 3 Tryz.f50.results.toList ah)))
          else none
      else none := by kernel_rfl
theorem gat_eq (z : Bool) (v t m : Int) (xd dt l : List Int) : runC g221 Tryz.f50 7 [(8, [1, 6, 9, 10, 11, 12, 41, 42]), (11, [1, 6, 9, 10, 11, 12, 13, 41, 42, 48, 49, 50])] [nodeA strGA [] [122] (.os 2 0) (.os 1 0), .os 0 0] (hpGA z v t m xd dt l) ah =
  bif decide (v < 0) then (if (0 : Int) ≤ 0 ∧ 0 ≤ IntKind.i64.wrap (v + Int.ofNat xd.length) ∧ IntKind.i64.wrap (v + Int.ofNat xd.length) ≤ Int.ofNat xd.length then some (List.drop 0 (List.take (IntKind.i64.wrap (v + Int.ofNat xd.length)).toNat xd)) else none).bind fun v1 =>
      bif decide (v1.length ≤ 9223372036854775807) then (if 0 ≤ IntKind.i64.wrap (v + Int.ofNat xd.length) ∧ IntKind.i64.wrap (v + Int.ofNat xd.length) ≤ Int.ofNat xd.length ∧ Int.ofNat xd.length ≤ Int.ofNat xd.length then some (List.drop (IntKind.i64.wrap (v + Int.ofNat xd.length)).toNat (List.take (Int.ofNat xd.length).toNat xd)) else none).bind fun v3 =>
          bif decide (v3.length ≤ 9223372036854775807) then (idx xd (IntKind.i64.wrap (v + Int.ofNat xd.length))).bind fun v5 =>
              (if v5 = 0 then none else some (IntKind.i64.wrap ((countN v3).tdiv v5))).bind fun v6 =>
                (hlp g221 cf_gat) (cL (cL (cR (cL (cR (cR (cR (cR (cR (cR (cR C_gat))))))))))) _ { fr := mkFr 7 [(1, AV.os 0 0), (6, AV.op 3 [] 0), (9, I (countN v3)), (10, I v5), (11, I v6), (12, AV.nils), (41, I (countN v1)), (42, I 0)], hp := [(0, AObj.arr 25 ((i64T).pair ((i64T).slice.pair ((i64T).slice.pair Ty.unit))) 0 z [(t, xd, dt, PUnit.unit), (7, [m], l, PUnit.unit)]), (1, AObj.arr 37 (Ty.str.pair ((i64T).pair ((i64T).pair ((i64T).pair (Ty.str.pair (((i64T).pair ((i64T).slice.pair ((i64T).slice.pair Ty.unit))).pair ((i64T).slice.pair Ty.unit))))))) 0 true [([97, 120, 105, 115], 2, 0, v, [], (0, [], [], PUnit.unit), [], PUnit.unit)]), (2, AObj.arr 9 Ty.str 0 false [[120], [121]]), (3, AObj.box (AV.d ((i64T).pair ((i64T).slice.pair ((i64T).slice.pair Ty.unit))) (t, xd, dt, PUnit.unit)))], nx := 7 } (blkK 0 (seqH g221 cf_gat [8, 11] (hlp g221 cf_gat) (cR (cR (cR (cR (cR (cR (cR (cR C_gat)))))))) (endC Tryz.prog 3 Tryz.f50.results.toList ah)))
          else none
      else none
  else (if (0 : Int) ≤ 0 ∧ 0 ≤ v ∧ v ≤ Int.ofNat xd.length then some (List.drop 0 (List.take v.toNat xd)) else none).bind fun v1 =>
      bif decide (v1.length ≤ 9223372036854775807) then (if 0 ≤ v ∧ v ≤ Int.ofNat xd.length ∧ Int.ofNat xd.length ≤ Int.ofNat xd.length then some (List.drop v.toNat (List.take (Int.ofNat xd.length).toNat xd)) else none).bind fun v3 =>
          bif decide (v3.length ≤ 9223372036854775807) then (idx xd v).bind fun v5 =>
              (if v5 = 0 then none else some (IntKind.i64.wrap ((countN v3).tdiv v5))).bind fun v6 =>
                (hlp g221 cf_gat) (cL (cL (cR (cL (cR (cR (cR (cR (cR (cR (cR C_gat))))))))))) _ { fr := mkFr 7 [(1, AV.os 0 0), (6, AV.op 3 [] 0), (9, I (countN v3)), (10, I v5), (11, I v6), (12, AV.nils), (41, I (countN v1)), (42, I 0)], hp := [(0, AObj.arr 25 ((i64T).pair ((i64T).slice.pair ((i64T).slice.pair Ty.unit))) 0 z [(t, xd, dt, PUnit.unit), (7, [m], l, PUnit.unit)]), (1, AObj.arr 37 (Ty.str.pair ((i64T).pair ((i64T).pair ((i64T).pair (Ty.str.pair (((i64T).pair ((i64T).slice.pair ((i64T).slice.pair Ty.unit))).pair ((i64T).slice.pair Ty.unit))))))) 0 true [([97, 120, 105, 115], 2, 0, v, [], (0, [], [], PUnit.unit), [], PUnit.unit)]), (2, AObj.arr 9 Ty.str 0 false [[120], [121]]), (3, AObj.box (AV.d ((i64T).pair ((i64T).slice.pair ((i64T).slice.pair Ty.unit))) (t, xd, dt, PUnit.unit)))], nx := 7 } (blkK 0 (seqH g221 cf_gat [8, 11] (hlp g221 cf_gat) (cR (cR (cR (cR (cR (cR (cR (cR C_gat)))))))) (endC Tryz.prog 3 Tryz.f50.results.toList ah)))
          else none
      else none := runH_runC.trans (gat_eqH (hlp g221 cf_gat) z v t m xd dt l)
def gSl (out : List Int) : AV := match out with | [] => .nils | _ :: _ => .os 4 0
def gHp (out : List Int) : LHp := match out with | [] => [] | _ :: _ => [(4, .arr 2 i64T 0 false out)]
def gNx (out : List Int) : Nat := match out with | [] => 7 | _ :: _ => 8
def hpGB (z : Bool) (v t m : Int) (xd dt l : List Int) : LHp := hpGA z v t m xd dt l ++ [(3, .box (.d (Y0) (t, xd, dt, ())))]
def stG0 (z : Bool) (v t m : Int) (xd dt l : List Int) (size d inner times i : Int) (out : List Int) : LSt := ⟨mkFr 7 [(1, .os 0 0), (6, .op 3 [] 0), (9, I size), (10, I d), (11, I inner), (12, gSl out), (41, I times), (42, I i)], hpGB z v t m xd dt l ++ gHp out, gNx out⟩
def stG1 (z : Bool) (v t m : Int) (xd dt l : List Int) (size d inner times i j : Int) (out : List Int) : LSt := ⟨mkFr 7 [(1, .os 0 0), (6, .op 3 [] 0), (9, I size), (10, I d), (11, I inner), (12, gSl out), (13, I i), (41, I times), (42, I i), (48, .d (.slice i64T) l), (49, I (Int.ofNat l.length)), (50, I j)], hpGB z v t m xd dt l ++ gHp out, gNx out⟩
theorem g0_firstH (hl : Hl) (v t m : Int) (xd dt l : List Int) (size d inner times i : Int) (n : Nat) {R : Type} (k : AEx → LSt → Option R) : lpH g221 cf_gat [8, 11] hl (cL (cL (cR (cL (cR (cR (cR (cR (cR (cR (cR C_gat))))))))))) (n + 1) (stG0 false v t m xd dt l size d inner times i []) k =
  bif decide (i < times) then hl (cL (cL (cR (cR (cL (cL (cR (cR (cL (cL (cR (cL (cR (cR (cR (cR (cR (cR (cR C_gat))))))))))))))))))) _ { fr := mkFr 7 [(1, AV.os 0 0), (6, AV.op 3 [] 0), (9, I size), (10, I d), (11, I inner), (12, AV.nils), (13, I i), (41, I times), (42, I i), (48, AV.d (i64T).slice l), (49, I (Int.ofNat l.length)), (50, I 0)], hp := [(0, AObj.arr 25 ((i64T).pair ((i64T).slice.pair ((i64T).slice.pair Ty.unit))) 0 true [(t, xd, dt, PUnit.unit), (7, [m], l, PUnit.unit)]), (1, AObj.arr 37 (Ty.str.pair ((i64T).pair ((i64T).pair ((i64T).pair (Ty.str.pair (((i64T).pair ((i64T).slice.pair ((i64T).slice.pair Ty.unit))).pair ((i64T).slice.pair Ty.unit))))))) 0 true [([97, 120, 105, 115], 2, 0, v, [], (0, [], [], PUnit.unit), [], PUnit.unit)]), (2, AObj.arr 9 Ty.str 0 false [[120], [121]]), (3, AObj.box (AV.d ((i64T).pair ((i64T).slice.pair ((i64T).slice.pair Ty.unit))) (t, xd, dt, PUnit.unit)))], nx := 7 } (blkK 2 (blkK 1 (seqH g221 cf_gat [8, 11] hl (cR (cR (cR (cL (cL (cR (cL (cR (cR (cR (cR (cR (cR (cR C_gat)))))))))))))) (nxtH g221 cf_gat [8, 11] hl (cL (cL (cR (cL (cR (cR (cR (cR (cR (cR (cR C_gat))))))))))) n k))))
  else k (AEx.exit 0) { fr := mkFr 7 [(1, AV.os 0 0), (6, AV.op 3 [] 0), (9, I size), (10, I d), (11, I inner), (12, AV.nils), (41, I times), (42, I i), (43, B false)], hp := [(0, AObj.arr 25 ((i64T).pair ((i64T).slice.pair ((i64T).slice.pair Ty.unit))) 0 false [(t, xd, dt, PUnit.unit), (7, [m], l, PUnit.unit)]), (1, AObj.arr 37 (Ty.str.pair ((i64T).pair ((i64T).pair ((i64T).pair (Ty.str.pair (((i64T).pair ((i64T).slice.pair ((i64T).slice.pair Ty.unit))).pair ((i64T).slice.pair Ty.unit))))))) 0 true [([97, 120, 105, 115], 2, 0, v, [], (0, [], [], PUnit.unit), [], PUnit.unit)]), (2, AObj.arr 9 Ty.str 0 false [[120], [121]]), (3, AObj.box (AV.d ((i64T).pair ((i64T).slice.pair ((i64T).slice.pair Ty.unit))) (t, xd, dt, PUnit.unit)))], nx := 7 } := by kernel_rfl
theorem g0_first (v t m : Int) (xd dt l : List Int) (size d inner times i : Int) (n : Nat) {R : Type} (k : AEx → LSt → Option R) : lp g221 cf_gat (cL (cL (cR (cL (cR (cR (cR (cR (cR (cR (cR C_gat))))))))))) (n + 1) (stG0 false v t m xd dt l size d inner times i []) k =
  bif decide (i < times) then (hlp g221 cf_gat) (cL (cL (cR (cR (cL (cL (cR (cR (cL (cL (cR (cL (cR (cR (cR (cR (cR (cR (cR C_gat))))))))))))))))))) _ { fr := mkFr 7 [(1, AV.os 0 0), (6, AV.op 3 [] 0), (9, I size), (10, I d), (11, I inner), (12, AV.nils), (13, I i), (41, I times), (42, I i), (48, AV.d (i64T).slice l), (49, I (Int.ofNat l.length)), (50, I 0)], hp := [(0, AObj.arr 25 ((i64T).pair ((i64T).slice.pair ((i64T).slice.pair Ty.unit))) 0 true [(t, xd, dt, PUnit.unit), (7, [m], l, PUnit.unit)]), (1, AObj.arr 37 (Ty.str.pair ((i64T).pair ((i64T).pair ((i64T).pair (Ty.str.pair (((i64T).pair ((i64T).slice.pair ((i64T).slice.pair Ty.unit))).pair ((i64T).slice.pair Ty.unit))))))) 0 true [([97, 120, 105, 115], 2, 0, v, [], (0, [], [], PUnit.unit), [], PUnit.unit)]), (2, AObj.arr 9 Ty.str 0 false [[120], [121]]), (3, AObj.box (AV.d ((i64T).pair ((i64T).slice.pair ((i64T).slice.pair Ty.unit))) (t, xd, dt, PUnit.unit)))], nx := 7 } (blkK 2 (blkK 1 (seqH g221 cf_gat [8, 11] (hlp g221 cf_gat) (cR (cR (cR (cL (cL (cR (cL (cR (cR (cR (cR (cR (cR (cR C_gat)))))))))))))) (nxtH g221 cf_gat [8, 11] (hlp g221 cf_gat) (cL (cL (cR (cL (cR (cR (cR (cR (cR (cR (cR C_gat))))))))))) n k))))
  else k (AEx.exit 0) { fr := mkFr 7 [(1, AV.os 0 0), (6, AV.op 3 [] 0), (9, I size), (10, I d), (11, I inner), (12, AV.nils), (41, I times), (42, I i), (43, B false)], hp := [(0, AObj.arr 25 ((i64T).pair ((i64T).slice.pair ((i64T).slice.pair Ty.unit))) 0 false [(t, xd, dt, PUnit.unit), (7, [m], l, PUnit.unit)]), (1, AObj.arr 37 (Ty.str.pair ((i64T).pair ((i64T).pair ((i64T).pair (Ty.str.pair (((i64T).pair ((i64T).slice.pair ((i64T).slice.pair Ty.unit))).pair ((i64T).slice.pair Ty.unit))))))) 0 true [([97, 120, 105, 115], 2, 0, v, [], (0, [], [], PUnit.unit), [], PUnit.unit)]), (2, AObj.arr 9 Ty.str 0 false [[120], [121]]), (3, AObj.box (AV.d ((i64T).pair ((i64T).slice.pair ((i64T).slice.pair Ty.unit))) (t, xd, dt, PUnit.unit)))], nx := 7 } := by
  have h := g0_firstH (hlp g221 cf_gat) v t m xd dt l size d inner times i n k
  simp only [lpH_lp] at h
  exact h
theorem g0_step0H (hl : Hl) (v t m : Int) (xd dt l : List Int) (size d inner times i : Int) (n : Nat) {R : Type} (k : AEx → LSt → Option R) : lpH g221 cf_gat [8, 11] hl (cL (cL (cR (cL (cR (cR (cR (cR (cR (cR (cR C_gat))))))))))) (n + 1) (stG0 true v t m xd dt l size d inner times i []) k =
  bif decide (i < times) then hl (cL (cL (cR (cR (cL (cL (cR (cR (cL (cL (cR (cL (cR (cR (cR (cR (cR (cR (cR C_gat))))))))))))))))))) _ { fr := mkFr 7 [(1, AV.os 0 0), (6, AV.op 3 [] 0), (9, I size), (10, I d), (11, I inner), (12, AV.nils), (13, I i), (41, I times), (42, I i), (48, AV.d (i64T).slice l), (49, I (Int.ofNat l.length)), (50, I 0)], hp := [(0, AObj.arr 25 ((i64T).pair ((i64T).slice.pair ((i64T).slice.pair Ty.unit))) 0 true [(t, xd, dt, PUnit.unit), (7, [m], l, PUnit.unit)]), (1, AObj.arr 37 (Ty.str.pair ((i64T).pair ((i64T).pair ((i64T).pair (Ty.str.pair (((i64T).pair ((i64T).slice.pair ((i64T).slice.pair Ty.unit))).pair ((i64T).slice.pair Ty.unit))))))) 0 true [([97, 120, 105, 115], 2, 0, v, [], (0, [], [], PUnit.unit), [], PUnit.unit)]), (2, AObj.arr 9 Ty.str 0 false [[120], [121]]), (3, AObj.box (AV.d ((i64T).pair ((i64T).slice.pair ((i64T).slice.pair Ty.unit))) (t, xd, dt, PUnit.unit)))], nx := 7 } (blkK 2 (blkK 1 (seqH g221 cf_gat [8, 11] hl (cR (cR (cR (cL (cL (cR (cL (cR (cR (cR (cR (cR (cR (cR C_gat)))))))))))))) (nxtH g221 cf_gat [8, 11] hl (cL (cL (cR (cL (cR (cR (cR (cR (cR (cR (cR C_gat))))))))))) n k))))
  else k (AEx.exit 0) { fr := mkFr 7 [(1, AV.os 0 0), (6, AV.op 3 [] 0), (9, I size), (10, I d), (11, I inner), (12, AV.nils), (41, I times), (42, I i), (43, B false)], hp := [(0, AObj.arr 25 ((i64T).pair ((i64T).slice.pair ((i64T).slice.pair Ty.unit))) 0 true [(t, xd, dt, PUnit.unit), (7, [m], l, PUnit.unit)]), (1, AObj.arr 37 (Ty.str.pair ((i64T).pair ((i64T).pair ((i64T).pair (Ty.str.pair (((i64T).pair ((i64T).slice.pair ((i64T).slice.pair Ty.unit))).pair ((i64T).slice.pair Ty.unit))))))) 0 true [([97, 120, 105, 115], 2, 0, v, [], (0, [], [], PUnit.unit), [], PUnit.unit)]), (2, AObj.arr 9 Ty.str 0 false [[120], [121]]), (3, AObj.box (AV.d ((i64T).pair ((i64T).slice.pair ((i64T).slice.pair Ty.unit))) (t, xd, dt, PUnit.unit)))], nx := 7 } := by kernel_rfl
theorem g0_step0 (v t m : Int) (xd dt l : List Int) (size d inner times i : Int) (n : Nat) {R : Type} (k : AEx → LSt → Option R) : lp g221 cf_gat (cL (cL (cR (cL (cR (cR (cR (cR (cR (cR (cR C_gat))))))))))) (n + 1) (stG0 true v t m xd dt l size d inner times i []) k =
  bif decide (i < times) then (hlp g221 cf_gat) (cL (cL (cR (cR (cL (cL (cR (cR (cL (cL (cR (cL (cR (cR (cR (cR (cR (cR (cR C_gat))))))))))))))))))) _ { fr := mkFr 7 [(1, AV.os 0 0), (6, AV.op 3 [] 0), (9, I size), (10, I d), (11, I inner), (12, AV.nils), (13, I i), (41, I times), (42, I i), (48, AV.d (i64T).slice l), (49, I (Int.ofNat l.length)), (50, I 0)], hp := [(0, AObj.arr 25 ((i64T).pair ((i64T).slice.pair ((i64T).slice.pair Ty.unit))) 0 true [(t, xd, dt, PUnit.unit), (7, [m], l, PUnit.unit)]), (1, AObj.arr 37 (Ty.str.pair ((i64T).pair ((i64T).pair ((i64T).pair (Ty.str.pair (((i64T).pair ((i64T).slice.pair ((i64T).slice.pair Ty.unit))).pair ((i64T).slice.pair Ty.unit))))))) 0 true [([97, 120, 105, 115], 2, 0, v, [], (0, [], [], PUnit.unit), [], PUnit.unit)]), (2, AObj.arr 9 Ty.str 0 false [[120], [121]]), (3, AObj.box (AV.d ((i64T).pair ((i64T).slice.pair ((i64T).slice.pair Ty.unit))) (t, xd, dt, PUnit.unit)))], nx := 7 } (blkK 2 (blkK 1 (seqH g221 cf_gat [8, 11] (hlp g221 cf_gat) (cR (cR (cR (cL (cL (cR (cL (cR (cR (cR (cR (cR (cR (cR C_gat)))))))))))))) (nxtH g221 cf_gat [8, 11] (hlp g221 cf_gat) (cL (cL (cR (cL (cR (cR (cR (cR (cR (cR (cR C_gat))))))))))) n k))))
  else k (AEx.exit 0) { fr := mkFr 7 [(1, AV.os 0 0), (6, AV.op 3 [] 0), (9, I size), (10, I d), (11, I inner), (12, AV.nils), (41, I times), (42, I i), (43, B false)], hp := [(0, AObj.arr 25 ((i64T).pair ((i64T).slice.pair ((i64T).slice.pair Ty.unit))) 0 true [(t, xd, dt, PUnit.unit), (7, [m], l, PUnit.unit)]), (1, AObj.arr 37 (Ty.str.pair ((i64T).pair ((i64T).pair ((i64T).pair (Ty.str.pair (((i64T).pair ((i64T).slice.pair ((i64T).slice.pair Ty.unit))).pair ((i64T).slice.pair Ty.unit))))))) 0 true [([97, 120, 105, 115], 2, 0, v, [], (0, [], [], PUnit.unit), [], PUnit.unit)]), (2, AObj.arr 9 Ty.str 0 false [[120], [121]]), (3, AObj.box (AV.d ((i64T).pair ((i64T).slice.pair ((i64T).slice.pair Ty.unit))) (t, xd, dt, PUnit.unit)))], nx := 7 } := by
  have h := g0_step0H (hlp g221 cf_gat) v t m xd dt l size d inner times i n k
  simp only [lpH_lp] at h
  exact h
theorem g0_stepH (hl : Hl) (v t m : Int) (xd dt l : List Int) (size d inner times i : Int) (o : Int) (out : List Int) (n : Nat) {R : Type} (k : AEx → LSt → Option R) : lpH g221 cf_gat [8, 11] hl (cL (cL (cR (cL (cR (cR (cR (cR (cR (cR (cR C_gat))))))))))) (n + 1) (stG0 true v t m xd dt l size d inner times i (o :: out)) k =
  bif decide (i < times) then hl (cL (cL (cR (cR (cL (cL (cR (cR (cL (cL (cR (cL (cR (cR (cR (cR (cR (cR (cR C_gat))))))))))))))))))) _ { fr := mkFr 7 [(1, AV.os 0 0), (6, AV.op 3 [] 0), (9, I size), (10, I d), (11, I inner), (12, AV.os 4 0), (13, I i), (41, I times), (42, I i), (48, AV.d (i64T).slice l), (49, I (Int.ofNat l.length)), (50, I 0)], hp := [(0, AObj.arr 25 ((i64T).pair ((i64T).slice.pair ((i64T).slice.pair Ty.unit))) 0 true [(t, xd, dt, PUnit.unit), (7, [m], l, PUnit.unit)]), (1, AObj.arr 37 (Ty.str.pair ((i64T).pair ((i64T).pair ((i64T).pair (Ty.str.pair (((i64T).pair ((i64T).slice.pair ((i64T).slice.pair Ty.unit))).pair ((i64T).slice.pair Ty.unit))))))) 0 true [([97, 120, 105, 115], 2, 0, v, [], (0, [], [], PUnit.unit), [], PUnit.unit)]), (2, AObj.arr 9 Ty.str 0 false [[120], [121]]), (3, AObj.box (AV.d ((i64T).pair ((i64T).slice.pair ((i64T).slice.pair Ty.unit))) (t, xd, dt, PUnit.unit))), (4, AObj.arr 2 (i64T) 0 false (o :: out))], nx := 8 } (blkK 2 (blkK 1 (seqH g221 cf_gat [8, 11] hl (cR (cR (cR (cL (cL (cR (cL (cR (cR (cR (cR (cR (cR (cR C_gat)))))))))))))) (nxtH g221 cf_gat [8, 11] hl (cL (cL (cR (cL (cR (cR (cR (cR (cR (cR (cR C_gat))))))))))) n k))))
  else k (AEx.exit 0) { fr := mkFr 7 [(1, AV.os 0 0), (6, AV.op 3 [] 0), (9, I size), (10, I d), (11, I inner), (12, AV.os 4 0), (41, I times), (42, I i), (43, B false)], hp := [(0, AObj.arr 25 ((i64T).pair ((i64T).slice.pair ((i64T).slice.pair Ty.unit))) 0 true [(t, xd, dt, PUnit.unit), (7, [m], l, PUnit.unit)]), (1, AObj.arr 37 (Ty.str.pair ((i64T).pair ((i64T).pair ((i64T).pair (Ty.str.pair (((i64T).pair ((i64T).slice.pair ((i64T).slice.pair Ty.unit))).pair ((i64T).slice.pair Ty.unit))))))) 0 true [([97, 120, 105, 115], 2, 0, v, [], (0, [], [], PUnit.unit), [], PUnit.unit)]), (2, AObj.arr 9 Ty.str 0 false [[120], [121]]), (3, AObj.box (AV.d ((i64T).pair ((i64T).slice.pair ((i64T).slice.pair Ty.unit))) (t, xd, dt, PUnit.unit))), (4, AObj.arr 2 (i64T) 0 false (o :: out))], nx := 8 } := by kernel_rfl
theorem g0_step (v t m : Int) (xd dt l : List Int) (size d inner times i : Int) (o : Int) (out : List Int) (n : Nat) {R : Type} (k : AEx → LSt → Option R) : lp g221 cf_gat (cL (cL (cR (cL (cR (cR (cR (cR (cR (cR (cR C_gat))))))))))) (n + 1) (stG0 true v t m xd dt l size d inner times i (o :: out)) k =
  bif decide (i < times) then (hlp g221 cf_gat) (cL (cL (cR (cR (cL (cL (cR (cR (cL (cL (cR (cL (cR (cR (cR (cR (cR (cR (cR C_gat))))))))))))))))))) _ { fr := mkFr 7 [(1, AV.os 0 0), (6, AV.op 3 [] 0), (9, I size), (10, I d), (11, I inner), (12, AV.os 4 0), (13, I i), (41, I times), (42, I i), (48, AV.d (i64T).slice l), (49, I (Int.ofNat l.length)), (50, I 0)], hp := [(0, AObj.arr 25 ((i64T).pair ((i64T).slice.pair ((i64T).slice.pair Ty.unit))) 0 true [(t, xd, dt, PUnit.unit), (7, [m], l, PUnit.unit)]), (1, AObj.arr 37 (Ty.str.pair ((i64T).pair ((i64T).pair ((i64T).pair (Ty.str.pair (((i64T).pair ((i64T).slice.pair ((i64T).slice.pair Ty.unit))).pair ((i64T).slice.pair Ty.unit))))))) 0 true [([97, 120, 105, 115], 2, 0, v, [], (0, [], [], PUnit.unit), [], PUnit.unit)]), (2, AObj.arr 9 Ty.str 0 false [[120], [121]]), (3, AObj.box (AV.d ((i64T).pair ((i64T).slice.pair ((i64T).slice.pair Ty.unit))) (t, xd, dt, PUnit.unit))), (4, AObj.arr 2 (i64T) 0 false (o :: out))], nx := 8 } (blkK 2 (blkK 1 (seqH g221 cf_gat [8, 11] (hlp g221 cf_gat) (cR (cR (cR (cL (cL (cR (cL (cR (cR (cR (cR (cR (cR (cR C_gat)))))))))))))) (nxtH g221 cf_gat [8, 11] (hlp g221 cf_gat) (cL (cL (cR (cL (cR (cR (cR (cR (cR (cR (cR C_gat))))))))))) n k))))
  else k (AEx.exit 0) { fr := mkFr 7 [(1, AV.os 0 0), (6, AV.op 3 [] 0), (9, I size), (10, I d), (11, I inner), (12, AV.os 4 0), (41, I times), (42, I i), (43, B false)], hp := [(0, AObj.arr 25 ((i64T).pair ((i64T).slice.pair ((i64T).slice.pair Ty.unit))) 0 true [(t, xd, dt, PUnit.unit), (7, [m], l, PUnit.unit)]), (1, AObj.arr 37 (Ty.str.pair ((i64T).pair ((i64T).pair ((i64T).pair (Ty.str.pair (((i64T).pair ((i64T).slice.pair ((i64T).slice.pair Ty.unit))).pair ((i64T).slice.pair Ty.unit))))))) 0 true [([97, 120, 105, 115], 2, 0, v, [], (0, [], [], PUnit.unit), [], PUnit.unit)]), (2, AObj.arr 9 Ty.str 0 false [[120], [121]]), (3, AObj.box (AV.d ((i64T).pair ((i64T).slice.pair ((i64T).slice.pair Ty.unit))) (t, xd, dt, PUnit.unit))), (4, AObj.arr 2 (i64T) 0 false (o :: out))], nx := 8 } := by
  have h := g0_stepH (hlp g221 cf_gat) v t m xd dt l size d inner times i o out n k
  simp only [lpH_lp] at h
  exact h
theorem g1_step0H (hl : Hl) (v t m : Int) (xd dt l : List Int) (size d inner times i j : Int) (n : Nat) {R : Type} (k : AEx → LSt → Option R) : lpH g221 cf_gat [8, 11] hl (cL (cL (cR (cR (cL (cL (cR (cR (cL (cL (cR (cL (cR (cR (cR (cR (cR (cR (cR C_gat))))))))))))))))))) (n + 1) (stG1 true v t m xd dt l size d inner times i j []) k =
  bif decide (j < Int.ofNat l.length) then (idx l j).bind fun v1 =>
      bif decide (v1 < 0) then 
        bif decide (IntKind.i64.wrap (v1 + d) < 0) then k AEx.ret { fr := mkFr 7 [(1, AV.os 0 0), (4, AV.nils), (5, I 8), (6, AV.op 3 [] 0), (9, I size), (10, I d), (11, I inner), (12, AV.nils), (13, I i), (15, I (IntKind.i64.wrap (v1 + d))), (41, I times), (42, I i), (48, AV.d (i64T).slice l), (49, I (Int.ofNat l.length)), (50, I j), (51, B true), (52, AV.ip (i64T) v1), (53, I v1), (54, I v1), (55, B true), (56, I v1), (57, I d), (58, I (IntKind.i64.wrap (v1 + d))), (59, I (IntKind.i64.wrap (v1 + d))), (60, B (decide (IntKind.i64.wrap (v1 + d) < 0))), (61, B true), (62, AV.tup []), (63, AV.tup []), (64, AV.tup []), (65, B true)], hp := [(0, AObj.arr 25 ((i64T).pair ((i64T).slice.pair ((i64T).slice.pair Ty.unit))) 0 true [(t, xd, dt, PUnit.unit), (7, [m], l, PUnit.unit)]), (1, AObj.arr 37 (Ty.str.pair ((i64T).pair ((i64T).pair ((i64T).pair (Ty.str.pair (((i64T).pair ((i64T).slice.pair ((i64T).slice.pair Ty.unit))).pair ((i64T).slice.pair Ty.unit))))))) 0 true [([97, 120, 105, 115], 2, 0, v, [], (0, [], [], PUnit.unit), [], PUnit.unit)]), (2, AObj.arr 9 Ty.str 0 false [[120], [121]]), (3, AObj.box (AV.d ((i64T).pair ((i64T).slice.pair ((i64T).slice.pair Ty.unit))) (t, xd, dt, PUnit.unit)))], nx := 7 }
        else 
          bif decide (IntKind.i64.wrap (v1 + d) ≥ d) then k AEx.ret { fr := mkFr 7 [(1, AV.os 0 0), (4, AV.nils), (5, I 8), (6, AV.op 3 [] 0), (9, I size), (10, I d), (11, I inner), (12, AV.nils), (13, I i), (15, I (IntKind.i64.wrap (v1 + d))), (41, I times), (42, I i), (48, AV.d (i64T).slice l), (49, I (Int.ofNat l.length)), (50, I j), (51, B true), (52, AV.ip (i64T) v1), (53, I v1), (54, I v1), (55, B true), (56, I v1), (57, I d), (58, I (IntKind.i64.wrap (v1 + d))), (59, I (IntKind.i64.wrap (v1 + d))), (60, B (decide (IntKind.i64.wrap (v1 + d) < 0))), (61, B false), (62, I (IntKind.i64.wrap (v1 + d))), (63, I d), (64, B (decide (IntKind.i64.wrap (v1 + d) ≥ d))), (65, B true)], hp := [(0, AObj.arr 25 ((i64T).pair ((i64T).slice.pair ((i64T).slice.pair Ty.unit))) 0 true [(t, xd, dt, PUnit.unit), (7, [m], l, PUnit.unit)]), (1, AObj.arr 37 (Ty.str.pair ((i64T).pair ((i64T).pair ((i64T).pair (Ty.str.pair (((i64T).pair ((i64T).slice.pair ((i64T).slice.pair Ty.unit))).pair ((i64T).slice.pair Ty.unit))))))) 0 true [([97, 120, 105, 115], 2, 0, v, [], (0, [], [], PUnit.unit), [], PUnit.unit)]), (2, AObj.arr 9 Ty.str 0 false [[120], [121]]), (3, AObj.box (AV.d ((i64T).pair ((i64T).slice.pair ((i64T).slice.pair Ty.unit))) (t, xd, dt, PUnit.unit)))], nx := 7 }
          else (if 0 ≤ IntKind.i64.wrap (IntKind.i64.wrap (i * size) + IntKind.i64.wrap (IntKind.i64.wrap (v1 + d) * inner)) ∧ IntKind.i64.wrap (IntKind.i64.wrap (i * size) + IntKind.i64.wrap (IntKind.i64.wrap (v1 + d) * inner)) ≤ IntKind.i64.wrap (IntKind.i64.wrap (IntKind.i64.wrap (i * size) + IntKind.i64.wrap (IntKind.i64.wrap (v1 + d) * inner)) + inner) ∧ IntKind.i64.wrap (IntKind.i64.wrap (IntKind.i64.wrap (i * size) + IntKind.i64.wrap (IntKind.i64.wrap (v1 + d) * inner)) + inner) ≤ Int.ofNat dt.length then some (List.drop (IntKind.i64.wrap (IntKind.i64.wrap (i * size) + IntKind.i64.wrap (IntKind.i64.wrap (v1 + d) * inner))).toNat (List.take (IntKind.i64.wrap (IntKind.i64.wrap (IntKind.i64.wrap (i * size) + IntKind.i64.wrap (IntKind.i64.wrap (v1 + d) * inner)) + inner)).toNat dt)) else none).bind fun v5 =>
              (app [] v5).bind fun v6 =>
                lpH g221 cf_gat [8, 11] hl (cL (cL (cR (cR (cL (cL (cR (cR (cL (cL (cR (cL (cR (cR (cR (cR (cR (cR (cR C_gat))))))))))))))))))) n { fr := mkFr 7 [(1, AV.os 0 0), (6, AV.op 3 [] 0), (9, I size), (10, I d), (11, I inner), (12, AV.os 4 0), (13, I i), (41, I times), (42, I i), (48, AV.d (i64T).slice l), (49, I (Int.ofNat l.length)), (50, I (IntKind.i64.wrap (j + 1)))], hp := [(0, AObj.arr 25 ((i64T).pair ((i64T).slice.pair ((i64T).slice.pair Ty.unit))) 0 true [(t, xd, dt, PUnit.unit), (7, [m], l, PUnit.unit)]), (1, AObj.arr 37 (Ty.str.pair ((i64T).pair ((i64T).pair ((i64T).pair (Ty.str.pair (((i64T).pair ((i64T).slice.pair ((i64T).slice.pair Ty.unit))).pair ((i64T).slice.pair Ty.unit))))))) 0 true [([97, 120, 105, 115], 2, 0, v, [], (0, [], [], PUnit.unit), [], PUnit.unit)]), (2, AObj.arr 9 Ty.str 0 false [[120], [121]]), (3, AObj.box (AV.d ((i64T).pair ((i64T).slice.pair ((i64T).slice.pair Ty.unit))) (t, xd, dt, PUnit.unit))), (4, AObj.arr 2 (i64T) 0 false v6)], nx := 8 } k
      else 
        bif decide (v1 < 0) then k AEx.ret { fr := mkFr 7 [(1, AV.os 0 0), (4, AV.nils), (5, I 8), (6, AV.op 3 [] 0), (9, I size), (10, I d), (11, I inner), (12, AV.nils), (13, I i), (15, I v1), (41, I times), (42, I i), (48, AV.d (i64T).slice l), (49, I (Int.ofNat l.length)), (50, I j), (51, B true), (52, AV.ip (i64T) v1), (53, I v1), (54, I v1), (55, B false), (59, I v1), (60, B (decide (v1 < 0))), (61, B true), (62, AV.tup []), (63, AV.tup []), (64, AV.tup []), (65, B true)], hp := [(0, AObj.arr 25 ((i64T).pair ((i64T).slice.pair ((i64T).slice.pair Ty.unit))) 0 true [(t, xd, dt, PUnit.unit), (7, [m], l, PUnit.unit)]), (1, AObj.arr 37 (Ty.str.pair ((i64T).pair ((i64T).pair ((i64T).pair (Ty.str.pair (((i64T).pair ((i64T).slice.pair ((i64T).slice.pair Ty.unit))).pair ((i64T).slice.pair Ty.unit))))))) 0 true [([97, 120, 105, 115], 2, 0, v, [], (0, [], [], PUnit.unit), [], PUnit.unit)]), (2, AObj.arr 9 Ty.str 0 false [[120], [121]]), (3, AObj.box (AV.d ((i64T).pair ((i64T).slice.pair ((i64T).slice.pair Ty.unit))) (t, xd, dt, PUnit.unit)))], nx := 7 }
        else 
          bif decide (v1 ≥ d) then k AEx.ret { fr := mkFr 7 [(1, AV.os 0 0), (4, AV.nils), (5, I 8), (6, AV.op 3 [] 0), (9, I size), (10, I d), (11, I inner), (12, AV.nils), (13, I i), (15, I v1), (41, I times), (42, I i), (48, AV.d (i64T).slice l), (49, I (Int.ofNat l.length)), (50, I j), (51, B true), (52, AV.ip (i64T) v1), (53, I v1), (54, I v1), (55, B false), (59, I v1), (60, B (decide (v1 < 0))), (61, B false), (62, I v1), (63, I d), (64, B (decide (v1 ≥ d))), (65, B true)], hp := [(0, AObj.arr 25 ((i64T).pair ((i64T).slice.pair ((i64T).slice.pair Ty.unit))) 0 true [(t, xd, dt, PUnit.unit), (7, [m], l, PUnit.unit)]), (1, AObj.arr 37 (Ty.str.pair ((i64T).pair ((i64T).pair ((i64T).pair (Ty.str.pair (((i64T).pair ((i64T).slice.pair ((i64T).slice.pair Ty.unit))).pair ((i64T).slice.pair Ty.unit))))))) 0 true [([97, 120, 105, 115], 2, 0, v, [], (0, [], [], PUnit.unit), [], PUnit.unit)]), (2, AObj.arr 9 Ty.str 0 false [[120], [121]]), (3, AObj.box (AV.d ((i64T).pair ((i64T).slice.pair ((i64T).slice.pair Ty.unit))) (t, xd, dt, PUnit.unit)))], nx := 7 }
          else (if 0 ≤ IntKind.i64.wrap (IntKind.i64.wrap (i * size) + IntKind.i64.wrap (v1 * inner)) ∧ IntKind.i64.wrap (IntKind.i64.wrap (i * size) + IntKind.i64.wrap (v1 * inner)) ≤ IntKind.i64.wrap (IntKind.i64.wrap (IntKind.i64.wrap (i * size) + IntKind.i64.wrap (v1 * inner)) + inner) ∧ IntKind.i64.wrap (IntKind.i64.wrap (IntKind.i64.wrap (i * size) + IntKind.i64.wrap (v1 * inner)) + inner) ≤ Int.ofNat dt.length then some (List.drop (IntKind.i64.wrap (IntKind.i64.wrap (i * size) + IntKind.i64.wrap (v1 * inner))).toNat (List.take (IntKind.i64.wrap (IntKind.i64.wrap (IntKind.i64.wrap (i * size) + IntKind.i64.wrap (v1 * inner)) + inner)).toNat dt)) else none).bind fun v5 =>
              (app [] v5).bind fun v6 =>
                lpH g221 cf_gat [8, 11] hl (cL (cL (cR (cR (cL (cL (cR (cR (cL (cL (cR (cL (cR (cR (cR (cR (cR (cR (cR C_gat))))))))))))))))))) n { fr := mkFr 7 [(1, AV.os 0 0), (6, AV.op 3 [] 0), (9, I size), (10, I d), (11, I inner), (12, AV.os 4 0), (13, I i), (41, I times), (42, I i), (48, AV.d (i64T).slice l), (49, I (Int.ofNat l.length)), (50, I (IntKind.i64.wrap (j + 1)))], hp := [(0, AObj.arr 25 ((i64T).pair ((i64T).slice.pair ((i64T).slice.pair Ty.unit))) 0 true [(t, xd, dt, PUnit.unit), (7, [m], l, PUnit.unit)]), (1, AObj.arr 37 (Ty.str.pair ((i64T).pair ((i64T).pair ((i64T).pair (Ty.str.pair (((i64T).pair ((i64T).slice.pair ((i64T).slice.pair Ty.unit))).pair ((i64T).slice.pair Ty.unit))))))) 0 true [([97, 120, 105, 115], 2, 0, v, [], (0, [], [], PUnit.unit), [], PUnit.unit)]), (2, AObj.arr 9 Ty.str 0 false [[120], [121]]), (3, AObj.box (AV.d ((i64T).pair ((i64T).slice.pair ((i64T).slice.pair Ty.unit))) (t, xd, dt, PUnit.unit))), (4, AObj.arr 2 (i64T) 0 false v6)], nx := 8 } k
  else k (AEx.exit 2) { fr := mkFr 7 [(1, AV.os 0 0), (6, AV.op 3 [] 0), (9, I size), (10, I d), (11, I inner), (12, AV.nils), (13, I i), (41, I times), (42, I i), (48, AV.d (i64T).slice l), (49, I (Int.ofNat l.length)), (50, I j), (51, B false)], hp := [(0, AObj.arr 25 ((i64T).pair ((i64T).slice.pair ((i64T).slice.pair Ty.unit))) 0 true [(t, xd, dt, PUnit.unit), (7, [m], l, PUnit.unit)]), (1, AObj.arr 37 (Ty.str.pair ((i64T).pair ((i64T).pair ((i64T).pair (Ty.str.pair (((i64T).pair ((i64T).slice.pair ((i64T).slice.pair Ty.unit))).pair ((i64T).slice.pair Ty.unit))))))) 0 true [([97, 120, 105, 115], 2, 0, v, [], (0, [], [], PUnit.unit), [], PUnit.unit)]), (2, AObj.arr 9 Ty.str 0 false [[120], [121]]), (3, AObj.box (AV.d ((i64T).pair ((i64T).slice.pair ((i64T).slice.pair Ty.unit))) (t, xd, dt, PUnit.unit)))], nx := 7 } := by kernel_rfl
theorem g1_step0 (v t m : Int) (xd dt l : List Int) (size d inner times i j : Int) (n : Nat) {R : Type} (k : AEx → LSt → Option R) : lp g221 cf_gat (cL (cL (cR (cR (cL (cL (cR (cR (cL (cL (cR (cL (cR (cR (cR (cR (cR (cR (cR C_gat))))))))))))))))))) (n + 1) (stG1 true v t m xd dt l size d inner times i j []) k =
  bif decide (j < Int.ofNat l.length) then (idx l j).bind fun v1 =>
      bif decide (v1 < 0) then 
        bif decide (IntKind.i64.wrap (v1 + d) < 0) then k AEx.ret { fr := mkFr 7 [(1, AV.os 0 0), (4, AV.nils), (5, I 8), (6, AV.op 3 [] 0), (9, I size), (10, I d), (11, I inner), (12, AV.nils), (13, I i), (15, I (IntKind.i64.wrap (v1 + d))), (41, I times), (42, I i), (48, AV.d (i64T).slice l), (49, I (Int.ofNat l.length)), (50, I j), (51, B true), (52, AV.ip (i64T) v1), (53, I v1), (54, I v1), (55, B true), (56, I v1), (57, I d), (58, I (IntKind.i64.wrap (v1 + d))), (59, I (IntKind.i64.wrap (v1 + d))), (60, B (decide (IntKind.i64.wrap (v1 + d) < 0))), (61, B true), (62, AV.tup []), (63, AV.tup []), (64, AV.tup []), (65, B true)], hp := [(0, AObj.arr 25 ((i64T).pair ((i64T).slice.pair ((i64T).slice.pair Ty.unit))) 0 true [(t, xd, dt, PUnit.unit), (7, [m], l, PUnit.unit)]), (1, AObj.arr 37 (Ty.str.pair ((i64T).pair ((i64T).pair ((i64T).pair (Ty.str.pair (((i64T).pair ((i64T).slice.pair ((i64T).slice.pair Ty.unit))).pair ((i64T).slice.pair Ty.unit))))))) 0 true [([97, 120, 105, 115], 2, 0, v, [], (0, [], [], PUnit.unit), [], PUnit.unit)]), (2, AObj.arr 9 Ty.str 0 false [[120], [121]]), (3, AObj.box (AV.d ((i64T).pair ((i64T).slice.pair ((i64T).slice.pair Ty.unit))) (t, xd, dt, PUnit.unit)))], nx := 7 }
        else 
          bif decide (IntKind.i64.wrap (v1 + d) ≥ d) then k AEx.ret { fr := mkFr 7 [(1, AV.os 0 0), (4, AV.nils), (5, I 8), (6, AV.op 3 [] 0), (9, I size), (10, I d), (11, I inner), (12, AV.nils), (13, I i), (15, I (IntKind.i64.wrap (v1 + d))), (41, I times), (42, I i), (48, AV.d (i64T).slice l), (49, I (Int.ofNat l.length)), (50, I j), (51, B true), (52, AV.ip (i64T) v1), (53, I v1), (54, I v1), (55, B true), (56, I v1), (57, I d), (58, I (IntKind.i64.wrap (v1 + d))), (59, I (IntKind.i64.wrap (v1 + d))), (60, B (decide (IntKind.i64.wrap (v1 + d) < 0))), (61, B false), (62, I (IntKind.i64.wrap (v1 + d))), (63, I d), (64, B (decide (IntKind.i64.wrap (v1 + d) ≥ d))), (65, B true)], hp := [(0, AObj.arr 25 ((i64T).pair ((i64T).slice.pair ((i64T).slice.pair Ty.unit))) 0 true [(t, xd, dt, PUnit.unit), (7, [m], l, PUnit.unit)]), (1, AObj.arr 37 (Ty.str.pair ((i64T).pair ((i64T).pair ((i64T).pair (Ty.str.pair (((i64T).pair ((i64T).slice.pair ((i64T).slice.pair Ty.unit))).pair ((i64T).slice.pair Ty.unit))))))) 0 true [([97, 120, 105, 115], 2, 0, v, [], (0, [], [], PUnit.unit), [], PUnit.unit)]), (2, AObj.arr 9 Ty.str 0 false [[120], [121]]), (3, AObj.box (AV.d ((i64T).pair ((i64T).slice.pair ((i64T).slice.pair Ty.unit))) (t, xd, dt, PUnit.unit)))], nx := 7 }
          else (if 0 ≤ IntKind.i64.wrap (IntKind.i64.wrap (i * size) + IntKind.i64.wrap (IntKind.i64.wrap (v1 + d) * inner)) ∧ IntKind.i64.wrap (IntKind.i64.wrap (i * size) + IntKind.i64.wrap (IntKind.i64.wrap (v1 + d) * inner)) ≤ IntKind.i64.wrap (IntKind.i64.wrap (IntKind.i64.wrap (i * size) + IntKind.i64.wrap (IntKind.i64.wrap (v1 + d) * inner)) + inner) ∧ IntKind.i64.wrap (IntKind.i64.wrap (IntKind.i64.wrap (i * size) + IntKind.i64.wrap (IntKind.i64.wrap (v1 + d) * inner)) + inner) ≤ Int.ofNat dt.length then some (List.drop (IntKind.i64.wrap (IntKind.i64.wrap (i * size) + IntKind.i64.wrap (IntKind.i64.wrap (v1 + d) * inner))).toNat (List.take (IntKind.i64.wrap (IntKind.i64.wrap (IntKind.i64.wrap (i * size) + IntKind.i64.wrap (IntKind.i64.wrap (v1 + d) * inner)) + inner)).toNat dt)) else none).bind fun v5 =>
              (app [] v5).bind fun v6 =>
                lp g221 cf_gat (cL (cL (cR (cR (cL (cL (cR (cR (cL (cL (cR (cL (cR (cR (cR (cR (cR (cR (cR C_gat))))))))))))))))))) n { fr := mkFr 7 [(1, AV.os 0 0), (6, AV.op 3 [] 0), (9, I size), (10, I d), (11, I inner), (12, AV.os 4 0), (13, I i), (41, I times), (42, I i), (48, AV.d (i64T).slice l), (49, I (Int.ofNat l.length)), (50, I (IntKind.i64.wrap (j + 1)))], hp := [(0, AObj.arr 25 ((i64T).pair ((i64T).slice.pair ((i64T).slice.pair Ty.unit))) 0 true [(t, xd, dt, PUnit.unit), (7, [m], l, PUnit.unit)]), (1, AObj.arr 37 (Ty.str.pair ((i64T).pair ((i64T).pair ((i64T).pair (Ty.str.pair (((i64T).pair ((i64T).slice.pair ((i64T).slice.pair Ty.unit))).pair ((i64T).slice.pair Ty.unit))))))) 0 true [([97, 120, 105, 115], 2, 0, v, [], (0, [], [], PUnit.unit), [], PUnit.unit)]), (2, AObj.arr 9 Ty.str 0 false [[120], [121]]), (3, AObj.box (AV.d ((i64T).pair ((i64T).slice.pair ((i64T).slice.pair Ty.unit))) (t, xd, dt, PUnit.unit))), (4, AObj.arr 2 (i64T) 0 false v6)], nx := 8 } k
      else 
        bif decide (v1 < 0) then k AEx.ret { fr := mkFr 7 [(1, AV.os 0 0), (4, AV.nils), (5, I 8), (6, AV.op 3 [] 0), (9, I size), (10, I d), (11, I inner), (12, AV.nils), (13, I i), (15, I v1), (41, I times), (42, I i), (48, AV.d (i64T).slice l), (49, I (Int.ofNat l.length)), (50, I j), (51, B true), (52, AV.ip (i64T) v1), (53, I v1), (54, I v1), (55, B false), (59, I v1), (60, B (decide (v1 < 0))), (61, B true), (62, AV.tup []), (63, AV.tup []), (64, AV.tup []), (65, B true)], hp := [(0, AObj.arr 25 ((i64T).pair ((i64T).slice.pair ((i64T).slice.pair Ty.unit))) 0 true [(t, xd, dt, PUnit.unit), (7, [m], l, PUnit.unit)]), (1, AObj.arr 37 (Ty.str.pair ((i64T).pair ((i64T).pair ((i64T).pair (Ty.str.pair (((i64T).pair ((i64T).slice.pair ((i64T).slice.pair Ty.unit))).pair ((i64T).slice.pair Ty.unit))))))) 0 true [([97, 120, 105, 115], 2, 0, v, [], (0, [], [], PUnit.unit), [], PUnit.unit)]), (2, AObj.arr 9 Ty.str 0 false [[120], [121]]), (3, AObj.box (AV.d ((i64T).pair ((i64T).slice.pair ((i64T).slice.pair Ty.unit))) (t, xd, dt, PUnit.unit)))], nx := 7 }
        else 
          bif decide (v1 ≥ d) then k AEx.ret { fr := mkFr 7 [(1, AV.os 0 0), (4, AV.nils), (5, I 8), (6, AV.op 3 [] 0), (9, I size), (10, I d), (11, I inner), (12, AV.nils), (13, I i), (15, I v1), (41, I times), (42, I i), (48, AV.d (i64T).slice l), (49, I (Int.ofNat l.length)), (50, I j), (51, B true), (52, AV.ip (i64T) v1), (53, I v1), (54, I v1), (55, B false), (59, I v1), (60, B (decide (v1 < 0))), (61, B false), (62, I v1), (63, I d), (64, B (decide (v1 ≥ d))), (65, B true)], hp := [(0, AObj.arr 25 ((i64T).pair ((i64T).slice.pair ((i64T).slice.pair Ty.unit))) 0 true [(t, xd, dt, PUnit.unit), (7, [m], l, PUnit.unit)]), (1, AObj.arr 37 (Ty.str.pair ((i64T).pair ((i64T).pair ((i64T).pair (Ty.str.pair (((i64T).pair ((i64T).slice.pair ((i64T).slice.pair Ty.unit))).pair ((i64T).slice.pair Ty.unit))))))) 0 true [([97, 120, 105, 115], 2, 0, v, [], (0, [], [], PUnit.unit), [], PUnit.unit)]), (2, AObj.arr 9 Ty.str 0 false [[120], [121]]), (3, AObj.box (AV.d ((i64T).pair ((i64T).slice.pair ((i64T).slice.pair Ty.unit))) (t, xd, dt, PUnit.unit)))], nx := 7 }
          else (if 0 ≤ IntKind.i64.wrap (IntKind.i64.wrap (i * size) + IntKind.i64.wrap (v1 * inner)) ∧ IntKind.i64.wrap (IntKind.i64.wrap (i * size) + IntKind.i64.wrap (v1 * inner)) ≤ IntKind.i64.wrap (IntKind.i64.wrap (IntKind.i64.wrap (i * size) + IntKind.i64.wrap (v1 * inner)) + inner) ∧ IntKind.i64.wrap (IntKind.i64.wrap (IntKind.i64.wrap (i * size) + IntKind.i64.wrap (v1 * inner)) + inner) ≤ Int.ofNat dt.length then some (List.drop (IntKind.i64.wrap (IntKind.i64.wrap (i * size) + IntKind.i64.wrap (v1 * inner))).toNat (List.take (IntKind.i64.wrap (IntKind.i64.wrap (IntKind.i64.wrap (i * size) + IntKind.i64.wrap (v1 * inner)) + inner)).toNat dt)) else none).bind fun v5 =>
              (app [] v5).bind fun v6 =>
                lp g221 cf_gat (cL (cL (cR (cR (cL (cL (cR (cR (cL (cL (cR (cL (cR (cR (cR (cR (cR (cR (cR C_gat))))))))))))))))))) n { fr := mkFr 7 [(1, AV.os 0 0), (6, AV.op 3 [] 0), (9, I size), (10, I d), (11, I inner), (12, AV.os 4 0), (13, I i), (41, I times), (42, I i), (48, AV.d (i64T).slice l), (49, I (Int.ofNat l.length)), (50, I (IntKind.i64.wrap (j + 1)))], hp := [(0, AObj.arr 25 ((i64T).pair ((i64T).slice.pair ((i64T).slice.pair Ty.unit))) 0 true [(t, xd, dt, PUnit.unit), (7, [m], l, PUnit.unit)]), (1, AObj.arr 37 (Ty.str.pair ((i64T).pair ((i64T).pair ((i64T).pair (Ty.str.pair (((i64T).pair ((i64T).slice.pair ((i64T).slice.pair Ty.unit))).pair ((i64T).slice.pair Ty.unit))))))) 0 true [([97, 120, 105, 115], 2, 0, v, [], (0, [], [], PUnit.unit), [], PUnit.unit)]), (2, AObj.arr 9 Ty.str 0 false [[120], [121]]), (3, AObj.box (AV.d ((i64T).pair ((i64T).slice.pair ((i64T).slice.pair Ty.unit))) (t, xd, dt, PUnit.unit))), (4, AObj.arr 2 (i64T) 0 false v6)], nx := 8 } k
  else k (AEx.exit 2) { fr := mkFr 7 [(1, AV.os 0 0), (6, AV.op 3 [] 0), (9, I size), (10, I d), (11, I inner), (12, AV.nils), (13, I i), (41, I times), (42, I i), (48, AV.d (i64T).slice l), (49, I (Int.ofNat l.length)), (50, I j), (51, B false)], hp := [(0, AObj.arr 25 ((i64T).pair ((i64T).slice.pair ((i64T).slice.pair Ty.unit))) 0 true [(t, xd, dt, PUnit.unit), (7, [m], l, PUnit.unit)]), (1, AObj.arr 37 (Ty.str.pair ((i64T).pair ((i64T).pair ((i64T).pair (Ty.str.pair (((i64T).pair ((i64T).slice.pair ((i64T).slice.pair Ty.unit))).pair ((i64T).slice.pair Ty.unit))))))) 0 true [([97, 120, 105, 115], 2, 0, v, [], (0, [], [], PUnit.unit), [], PUnit.unit)]), (2, AObj.arr 9 Ty.str 0 false [[120], [121]]), (3, AObj.box (AV.d ((i64T).pair ((i64T).slice.pair ((i64T).slice.pair Ty.unit))) (t, xd, dt, PUnit.unit)))], nx := 7 } := by
  have h := g1_step0H (hlp g221 cf_gat) v t m xd dt l size d inner times i j n k
  simp only [lpH_lp] at h
  exact h
theorem g1_stepH (hl : Hl) (v t m : Int) (xd dt l : List Int) (size d inner times i j : Int) (o : Int) (out : List Int) (n : Nat) {R : Type} (k : AEx → LSt → Option R) : lpH g221 cf_gat [8, 11] hl (cL (cL (cR (cR (cL (cL (cR (cR (cL (cL (cR (cL (cR (cR (cR (cR (cR (cR (cR C_gat))))))))))))))))))) (n + 1) (stG1 true v t m xd dt l size d inner times i j (o :: out)) k =
  bif decide (j < Int.ofNat l.length) then (idx l j).bind fun v1 =>
      bif decide (v1 < 0) then 
        bif decide (IntKind.i64.wrap (v1 + d) < 0) then k AEx.ret { fr := mkFr 7 [(1, AV.os 0 0), (4, AV.nils), (5, I 8), (6, AV.op 3 [] 0), (9, I size), (10, I d), (11, I inner), (12, AV.os 4 0), (13, I i), (15, I (IntKind.i64.wrap (v1 + d))), (41, I times), (42, I i), (48, AV.d (i64T).slice l), (49, I (Int.ofNat l.length)), (50, I j), (51, B true), (52, AV.ip (i64T) v1), (53, I v1), (54, I v1), (55, B true), (56, I v1), (57, I d), (58, I (IntKind.i64.wrap (v1 + d))), (59, I (IntKind.i64.wrap (v1 + d))), (60, B (decide (IntKind.i64.wrap (v1 + d) < 0))), (61, B true), (62, AV.tup []), (63, AV.tup []), (64, AV.tup []), (65, B true)], hp := [(0, AObj.arr 25 ((i64T).pair ((i64T).slice.pair ((i64T).slice.pair Ty.unit))) 0 true [(t, xd, dt, PUnit.unit), (7, [m], l, PUnit.unit)]), (1, AObj.arr 37 (Ty.str.pair ((i64T).pair ((i64T).pair ((i64T).pair (Ty.str.pair (((i64T).pair ((i64T).slice.pair ((i64T).slice.pair Ty.unit))).pair ((i64T).slice.pair Ty.unit))))))) 0 true [([97, 120, 105, 115], 2, 0, v, [], (0, [], [], PUnit.unit), [], PUnit.unit)]), (2, AObj.arr 9 Ty.str 0 false [[120], [121]]), (3, AObj.box (AV.d ((i64T).pair ((i64T).slice.pair ((i64T).slice.pair Ty.unit))) (t, xd, dt, PUnit.unit))), (4, AObj.arr 2 (i64T) 0 false (o :: out))], nx := 8 }
        else 
          bif decide (IntKind.i64.wrap (v1 + d) ≥ d) then k AEx.ret { fr := mkFr 7 [(1, AV.os 0 0), (4, AV.nils), (5, I 8), (6, AV.op 3 [] 0), (9, I size), (10, I d), (11, I inner), (12, AV.os 4 0), (13, I i), (15, I (IntKind.i64.wrap (v1 + d))), (41, I times), (42, I i), (48, AV.d (i64T).slice l), (49, I (Int.ofNat l.length)), (50, I j), (51, B true), (52, AV.ip (i64T) v1), (53, I v1), (54, I v1), (55, B true), (56, I v1), (57, I d), (58, I (IntKind.i64.wrap (v1 + d))), (59, I (IntKind.i64.wrap (v1 + d))), (60, B (decide (IntKind.i64.wrap (v1 + d) < 0))), (61, B false), (62, I (IntKind.i64.wrap (v1 + d))), (63, I d), (64, B (decide (IntKind.i64.wrap (v1 + d) ≥ d))), (65, B true)], hp := [(0, AObj.arr 25 ((i64T).pair ((i64T).slice.pair ((i64T).slice.pair Ty.unit))) 0 true [(t, xd, dt, PUnit.unit), (7, [m], l, PUnit.unit)]), (1, AObj.arr 37 (Ty.str.pair ((i64T).pair ((i64T).pair ((i64T).pair (Ty.str.pair (((i64T).pair ((i64T).slice.pair ((i64T).slice.pair Ty.unit))).pair ((i64T).slice.pair Ty.unit))))))) 0 true [([97, 120, 105, 115], 2, 0, v, [], (0, [], [], PUnit.unit), [], PUnit.unit)]), (2, AObj.arr 9 Ty.str 0 false [[120], [121]]), (3, AObj.box (AV.d ((i64T).pair ((i64T).slice.pair ((i64T).slice.pair Ty.unit))) (t, xd, dt, PUnit.unit))), (4, AObj.arr 2 (i64T) 0 false (o :: out))], nx := 8 }
          else (if 0 ≤ IntKind.i64.wrap (IntKind.i64.wrap (i * size) + IntKind.i64.wrap (IntKind.i64.wrap (v1 + d) * inner)) ∧ IntKind.i64.wrap (IntKind.i64.wrap (i * size) + IntKind.i64.wrap (IntKind.i64.wrap (v1 + d) * inner)) ≤ IntKind.i64.wrap (IntKind.i64.wrap (IntKind.i64.wrap (i * size) + IntKind.i64.wrap (IntKind.i64.wrap (v1 + d) * inner)) + inner) ∧ IntKind.i64.wrap (IntKind.i64.wrap (IntKind.i64.wrap (i * size) + IntKind.i64.wrap (IntKind.i64.wrap (v1 + d) * inner)) + inner) ≤ Int.ofNat dt.length then some (List.drop (IntKind.i64.wrap (IntKind.i64.wrap (i * size) + IntKind.i64.wrap (IntKind.i64.wrap (v1 + d) * inner))).toNat (List.take (IntKind.i64.wrap (IntKind.i64.wrap (IntKind.i64.wrap (i * size) + IntKind.i64.wrap (IntKind.i64.wrap (v1 + d) * inner)) + inner)).toNat dt)) else none).bind fun v5 =>
              (app (o :: out) v5).bind fun v6 =>
                lpH g221 cf_gat [8, 11] hl (cL (cL (cR (cR (cL (cL (cR (cR (cL (cL (cR (cL (cR (cR (cR (cR (cR (cR (cR C_gat))))))))))))))))))) n { fr := mkFr 7 [(1, AV.os 0 0), (6, AV.op 3 [] 0), (9, I size), (10, I d), (11, I inner), (12, AV.os 4 0), (13, I i), (41, I times), (42, I i), (48, AV.d (i64T).slice l), (49, I (Int.ofNat l.length)), (50, I (IntKind.i64.wrap (j + 1)))], hp := [(0, AObj.arr 25 ((i64T).pair ((i64T).slice.pair ((i64T).slice.pair Ty.unit))) 0 true [(t, xd, dt, PUnit.unit), (7, [m], l, PUnit.unit)]), (1, AObj.arr 37 (Ty.str.pair ((i64T).pair ((i64T).pair ((i64T).pair (Ty.str.pair (((i64T).pair ((i64T).slice.pair ((i64T).slice.pair Ty.unit))).pair ((i64T).slice.pair Ty.unit))))))) 0 true [([97, 120, 105, 115], 2, 0, v, [], (0, [], [], PUnit.unit), [], PUnit.unit)]), (2, AObj.arr 9 Ty.str 0 false [[120], [121]]), (3, AObj.box (AV.d ((i64T).pair ((i64T).slice.pair ((i64T).slice.pair Ty.unit))) (t, xd, dt, PUnit.unit))), (4, AObj.arr 2 (i64T) 0 false v6)], nx := 8 } k
      else 
        bif decide (v1 < 0) then k AEx.ret { fr := mkFr 7 [(1, AV.os 0 0), (4, AV.nils), (5, I 8), (6, AV.op 3 [] 0), (9, I size), (10, I d), (11, I inner), (12, AV.os 4 0), (13, I i), (15, I v1), (41, I times), (42, I i), (48, AV.d (i64T).slice l), (49, I (Int.ofNat l.length)), (50, I j), (51, B true), (52, AV.ip (i64T) v1), (53, I v1), (54, I v1), (55, B false), (59, I v1), (60, B (decide (v1 < 0))), (61, B true), (62, AV.tup []), (63, AV.tup []), (64, AV.tup []), (65, B true)], hp := [(0, AObj.arr 25 ((i64T).pair ((i64T).slice.pair ((i64T).slice.pair Ty.unit))) 0 true [(t, xd, dt, PUnit.unit), (7, [m], l, PUnit.unit)]), (1, AObj.arr 37 (Ty.str.pair ((i64T).pair ((i64T).pair ((i64T).pair (Ty.str.pair (((i64T).pair ((i64T).slice.pair ((i64T).slice.pair Ty.unit))).pair ((i64T).slice.pair Ty.unit))))))) 0 true [([97, 120, 105, 115], 2, 0, v, [], (0, [], [], PUnit.unit), [], PUnit.unit)]), (2, AObj.arr 9 Ty.str 0 false [[120], [121]]), (3, AObj.box (AV.d ((i64T).pair ((i64T).slice.pair ((i64T).slice.pair Ty.unit))) (t, xd, dt, PUnit.unit))), (4, AObj.arr 2 (i64T) 0 false (o :: out))], nx := 8 }
        else 
          bif decide (v1 ≥ d) then k AEx.ret { fr := mkFr 7 [(1, AV.os 0 0), (4, AV.nils), (5, I 8), (6, AV.op 3 [] 0), (9, I size), (10, I d), (11, I inner), (12, AV.os 4 0), (13, I i), (15, I v1), (41, I times), (42, I i), (48, AV.d (i64T).slice l), (49, I (Int.ofNat l.length)), (50, I j), (51, B true), (52, AV.ip (i64T) v1), (53, I v1), (54, I v1), (55, B false), (59, I v1), (60, B (decide (v1 < 0))), (61, B false), (62, I v1), (63, I d), (64, B (decide (v1 ≥ d))), (65, B true)], hp := [(0, AObj.arr 25 ((i64T).pair ((i64T).slice.pair ((i64T).slice.pair Ty.unit))) 0 true [(t, xd, dt, PUnit.unit), (7, [m], l, PUnit.unit)]), (1, AObj.arr 37 (Ty.str.pair ((i64T).pair ((i64T).pair ((i64T).pair (Ty.str.pair (((i64T).pair ((i64T).slice.pair ((i64T).slice.pair Ty.unit))).pair ((i64T).slice.pair Ty.unit))))))) 0 true [([97, 120, 105, 115], 2, 0, v, [], (0, [], [], PUnit.unit), [], PUnit.unit)]), (2, AObj.arr 9 Ty.str 0 false [[120], [121]]), (3, AObj.box (AV.d ((i64T).pair ((i64T).slice.pair ((i64T).slice.pair Ty.unit))) (t, xd, dt, PUnit.unit))), (4, AObj.arr 2 (i64T) 0 false (o :: out))], nx := 8 }
          else (if 0 ≤ IntKind.i64.wrap (IntKind.i64.wrap (i * size) + IntKind.i64.wrap (v1 * inner)) ∧ IntKind.i64.wrap (IntKind.i64.wrap (i * size) + IntKind.i64.wrap (v1 * inner)) ≤ IntKind.i64.wrap (IntKind.i64.wrap (IntKind.i64.wrap (i * size) + IntKind.i64.wrap (v1 * inner)) + inner) ∧ IntKind.i64.wrap (IntKind.i64.wrap (IntKind.i64.wrap (i * size) + IntKind.i64.wrap (v1 * inner)) + inner) ≤ Int.ofNat dt.length then some (List.drop (IntKind.i64.wrap (IntKind.i64.wrap (i * size) + IntKind.i64.wrap (v1 * inner))).toNat (List.take (IntKind.i64.wrap (IntKind.i64.wrap (IntKind.i64.wrap (i * size) + IntKind.i64.wrap (v1 * inner)) + inner)).toNat dt)) else none).bind fun v5 =>
              (app (o :: out) v5).bind fun v6 =>
                lpH g221 cf_gat [8, 11] hl (cL (cL (cR (cR (cL (cL (cR (cR (cL (cL (cR (cL (cR (cR (cR (cR (cR (cR (cR C_gat))))))))))))))))))) n { fr := mkFr 7 [(1, AV.os 0 0), (6, AV.op 3 [] 0), (9, I size), (10, I d), (11, I inner), (12, AV.os 4 0), (13, I i), (41, I times), (42, I i), (48, AV.d (i64T).slice l), (49, I (Int.ofNat l.length)), (50, I (IntKind.i64.wrap (j + 1)))], hp := [(0, AObj.arr 25 ((i64T).pair ((i64T).slice.pair ((i64T).slice.pair Ty.unit))) 0 true [(t, xd, dt, PUnit.unit), (7, [m], l, PUnit.unit)]), (1, AObj.arr 37 (Ty.str.pair ((i64T).pair ((i64T).pair ((i64T).pair (Ty.str.pair (((i64T).pair ((i64T).slice.pair ((i64T).slice.pair Ty.unit))).pair ((i64T).slice.pair Ty.unit))))))) 0 true [([97, 120, 105, 115], 2, 0, v, [], (0, [], [], PUnit.unit), [], PUnit.unit)]), (2, AObj.arr 9 Ty.str 0 false [[120], [121]]), (3, AObj.box (AV.d ((i64T).pair ((i64T).slice.pair ((i64T).slice.pair Ty.unit))) (t, xd, dt, PUnit.unit))), (4, AObj.arr 2 (i64T) 0 false v6)], nx := 8 } k
  else k (AEx.exit 2) { fr := mkFr 7 [(1, AV.os 0 0), (6, AV.op 3 [] 0), (9, I size), (10, I d), (11, I inner), (12, AV.os 4 0), (13, I i), (41, I times), (42, I i), (48, AV.d (i64T).slice l), (49, I (Int.ofNat l.length)), (50, I j), (51, B false)], hp := [(0, AObj.arr 25 ((i64T).pair ((i64T).slice.pair ((i64T).slice.pair Ty.unit))) 0 true [(t, xd, dt, PUnit.unit), (7, [m], l, PUnit.unit)]), (1, AObj.arr 37 (Ty.str.pair ((i64T).pair ((i64T).pair ((i64T).pair (Ty.str.pair (((i64T).pair ((i64T).slice.pair ((i64T).slice.pair Ty.unit))).pair ((i64T).slice.pair Ty.unit))))))) 0 true [([97, 120, 105, 115], 2, 0, v, [], (0, [], [], PUnit.unit), [], PUnit.unit)]), (2, AObj.arr 9 Ty.str 0 false [[120], [121]]), (3, AObj.box (AV.d ((i64T).pair ((i64T).slice.pair ((i64T).slice.pair Ty.unit))) (t, xd, dt, PUnit.unit))), (4, AObj.arr 2 (i64T) 0 false (o :: out))], nx := 8 } := by kernel_rfl
theorem g1_step (v t m : Int) (xd dt l : List Int) (size d inner times i j : Int) (o : Int) (out : List Int) (n : Nat) {R : Type} (k : AEx → LSt → Option R) : lp g221 cf_gat (cL (cL (cR (cR (cL (cL (cR (cR (cL (cL (cR (cL (cR (cR (cR (cR (cR (cR (cR C_gat))))))))))))))))))) (n + 1) (stG1 true v t m xd dt l size d inner times i j (o :: out)) k =
  bif decide (j < Int.ofNat l.length) then (idx l j).bind fun v1 =>
      bif decide (v1 < 0) then 
        bif decide (IntKind.i64.wrap (v1 + d) < 0) then k AEx.ret { fr := mkFr 7 [(1, AV.os 0 0), (4, AV.nils), (5, I 8), (6, AV.op 3 [] 0), (9, I size), (10, I d), (11, I inner), (12, AV.os 4 0), (13, I i), (15, I (IntKind.i64.wrap (v1 + d))), (41, I times), (42, I i), (48, AV.d (i64T).slice l), (49, I (Int.ofNat l.length)), (50, I j), (51, B true), (52, AV.ip (i64T) v1), (53, I v1), (54, I v1), (55, B true), (56, I v1), (57, I d), (58, I (IntKind.i64.wrap (v1 + d))), (59, I (IntKind.i64.wrap (v1 + d))), (60, B (decide (IntKind.i64.wrap (v1 + d) < 0))), (61, B true), (62, AV.tup []), (63, AV.tup []), (64, AV.tup []), (65, B true)], hp := [(0, AObj.arr 25 ((i64T).pair ((i64T).slice.pair ((i64T).slice.pair Ty.unit))) 0 true [(t, xd, dt, PUnit.unit), (7, [m], l, PUnit.unit)]), (1, AObj.arr 37 (Ty.str.pair ((i64T).pair ((i64T).pair ((i64T).pair (Ty.str.pair (((i64T).pair ((i64T).slice.pair ((i64T).slice.pair Ty.unit))).pair ((i64T).slice.pair Ty.unit))))))) 0 true [([97, 120, 105, 115], 2, 0, v, [], (0, [], [], PUnit.unit), [], PUnit.unit)]), (2, AObj.arr 9 Ty.str 0 false [[120], [121]]), (3, AObj.box (AV.d ((i64T).pair ((i64T).slice.pair ((i64T).slice.pair Ty.unit))) (t, xd, dt, PUnit.unit))), (4, AObj.arr 2 (i64T) 0 false (o :: out))], nx := 8 }
        else 
          bif decide (IntKind.i64.wrap (v1 + d) ≥ d) then k AEx.ret { fr := mkFr 7 [(1, AV.os 0 0), (4, AV.nils), (5, I 8), (6, AV.op 3 [] 0), (9, I size), (10, I d), (11, I inner), (12, AV.os 4 0), (13, I i), (15, I (IntKind.i64.wrap (v1 + d))), (41, I times), (42, I i), (48, AV.d (i64T).slice l), (49, I (Int.ofNat l.length)), (50, I j), (51, B true), (52, AV.ip (i64T) v1), (53, I v1), (54, I v1), (55, B true), (56, I v1), (57, I d), (58, I (IntKind.i64.wrap (v1 + d))), (59, I (IntKind.i64.wrap (v1 + d))), (60, B (decide (IntKind.i64.wrap (v1 + d) < 0))), (61, B false), (62, I (IntKind.i64.wrap (v1 + d))), (63, I d), (64, B (decide (IntKind.i64.wrap (v1 + d) ≥ d))), (65, B true)], hp := [(0, AObj.arr 25 ((i64T).pair ((i64T).slice.pair ((i64T).slice.pair Ty.unit))) 0 true [(t, xd, dt, PUnit.unit), (7, [m], l, PUnit.unit)]), (1, AObj.arr 37 (Ty.str.pair ((i64T).pair ((i64T).pair ((i64T).pair (Ty.str.pair (((i64T).pair ((i64T).slice.pair ((i64T).slice.pair Ty.unit))).pair ((i64T).slice.pair Ty.unit))))))) 0 true [([97, 120, 105, 115], 2, 0, v, [], (0, [], [], PUnit.unit), [], PUnit.unit)]), (2, AObj.arr 9 Ty.str 0 false [[120], [121]]), (3, AObj.box (AV.d ((i64T).pair ((i64T).slice.pair ((i64T).slice.pair Ty.unit))) (t, xd, dt, PUnit.unit))), (4, AObj.arr 2 (i64T) 0 false (o :: out))], nx := 8 }
          else (if 0 ≤ IntKind.i64.wrap (IntKind.i64.wrap (i * size) + IntKind.i64.wrap (IntKind.i64.wrap (v1 + d) * inner)) ∧ IntKind.i64.wrap (IntKind.i64.wrap (i * size) + IntKind.i64.wrap (IntKind.i64.wrap (v1 + d) * inner)) ≤ IntKind.i64.wrap (IntKind.i64.wrap (IntKind.i64.wrap (i * size) + IntKind.i64.wrap (IntKind.i64.wrap (v1 + d) * inner)) + inner) ∧ IntKind.i64.wrap (IntKind.i64.wrap (IntKind.i64.wrap (i * size) + IntKind.i64.wrap (IntKind.i64.wrap (v1 + d) * inner)) + inner) ≤ Int.ofNat dt.length then some (List.drop (IntKind.i64.wrap (IntKind.i64.wrap (i * size) + IntKind.i64.wrap (IntKind.i64.wrap (v1 + d) * inner))).toNat (List.take (IntKind.i64.wrap (IntKind.i64.wrap (IntKind.i64.wrap (i * size) + IntKind.i64.wrap (IntKind.i64.wrap (v1 + d) * inner)) + inner)).toNat dt)) else none).bind fun v5 =>
              (app (o :: out) v5).bind fun v6 =>
                lp g221 cf_gat (cL (cL (cR (cR (cL (cL (cR (cR (cL (cL (cR (cL (cR (cR (cR (cR (cR (cR (cR C_gat))))))))))))))))))) n { fr := mkFr 7 [(1, AV.os 0 0), (6, AV.op 3 [] 0), (9, I size), (10, I d), (11, I inner), (12, AV.os 4 0), (13, I i), (41, I times), (42, I i), (48, AV.d (i64T).slice l), (49, I (Int.ofNat l.length)), (50, I (IntKind.i64.wrap (j + 1)))], hp := [(0, AObj.arr 25 ((i64T).pair ((i64T).slice.pair ((i64T).slice.pair Ty.unit))) 0 true [(t, xd, dt, PUnit.unit), (7, [m], l, PUnit.unit)]), (1, AObj.arr 37 (Ty.str.pair ((i64T).pair ((i64T).pair ((i64T).pair (Ty.str.pair (((i64T).pair ((i64T).slice.pair ((i64T).slice.pair Ty.unit))).pair ((i64T).slice.pair Ty.unit))))))) 0 true [([97, 120, 105, 115], 2, 0, v, [], (0, [], [], PUnit.unit), [], PUnit.unit)]), (2, AObj.arr 9 Ty.str 0 false [[120], [121]]), (3, AObj.box (AV.d ((i64T).pair ((i64T).slice.pair ((i64T).slice.pair Ty.unit))) (t, xd, dt, PUnit.unit))), (4, AObj.arr 2 (i64T) 0 false v6)], nx := 8 } k
      else 
        bif decide (v1 < 0) then k AEx.ret { fr := mkFr 7 [(1, AV.os 0 0), (4, AV.nils), (5, I 8), (6, AV.op 3 [] 0), (9, I size), (10, I d), (11, I inner), (12, AV.os 4 0), (13, I i), (15, I v1), (41, I times), (42, I i), (48, AV.d (i64T).slice l), (49, I (Int.ofNat l.length)), (50, I j), (51, B true), (52, AV.ip (i64T) v1), (53, I v1), (54, I v1), (55, B false), (59, I v1), (60, B (decide (v1 < 0))), (61, B true), (62, AV.tup []), (63, AV.tup []), (64, AV.tup []), (65, B true)], hp := [(0, AObj.arr 25 ((i64T).pair ((i64T).slice.pair ((i64T).slice.pair Ty.unit))) 0 true [(t, xd, dt, PUnit.unit), (7, [m], l, PUnit.unit)]), (1, AObj.arr 37 (Ty.str.pair ((i64T).pair ((i64T).pair ((i64T).pair (Ty.str.pair (((i64T).pair ((i64T).slice.pair ((i64T).slice.pair Ty.unit))).pair ((i64T).slice.pair Ty.unit))))))) 0 true [([97, 120, 105, 115], 2, 0, v, [], (0, [], [], PUnit.unit), [], PUnit.unit)]), (2, AObj.arr 9 Ty.str 0 false [[120], [121]]), (3, AObj.box (AV.d ((i64T).pair ((i64T).slice.pair ((i64T).slice.pair Ty.unit))) (t, xd, dt, PUnit.unit))), (4, AObj.arr 2 (i64T) 0 false (o :: out))], nx := 8 }
        else 
          bif decide (v1 ≥ d) then k AEx.ret { fr := mkFr 7 [(1, AV.os 0 0), (4, AV.nils), (5, I 8), (6, AV.op 3 [] 0), (9, I size), (10, I d), (11, I inner), (12, AV.os 4 0), (13, I i), (15, I v1), (41, I times), (42, I i), (48, AV.d (i64T).slice l), (49, I (Int.ofNat l.length)), (50, I j), (51, B true), (52, AV.ip (i64T) v1), (53, I v1), (54, I v1), (55, B false), (59, I v1), (60, B (decide (v1 < 0))), (61, B false), (62, I v1), (63, I d), (64, B (decide (v1 ≥ d))), (65, B true)], hp := [(0, AObj.arr 25 ((i64T).pair ((i64T).slice.pair ((i64T).slice.pair Ty.unit))) 0 true [(t, xd, dt, PUnit.unit), (7, [m], l, PUnit.unit)]), (1, AObj.arr 37 (Ty.str.pair ((i64T).pair ((i64T).pair ((i64T).pair (Ty.str.pair (((i64T).pair ((i64T).slice.pair ((i64T).slice.pair Ty.unit))).pair ((i64T).slice.pair Ty.unit))))))) 0 true [([97, 120, 105, 115], 2, 0, v, [], (0, [], [], PUnit.unit), [], PUnit.unit)]), (2, AObj.arr 9 Ty.str 0 false [[120], [121]]), (3, AObj.box (AV.d ((i64T).pair ((i64T).slice.pair ((i64T).slice.pair Ty.unit))) (t, xd, dt, PUnit.unit))), (4, AObj.arr 2 (i64T) 0 false (o :: out))], nx := 8 }
          else (if 0 ≤ IntKind.i64.wrap (IntKind.i64.wrap (i * size) + IntKind.i64.wrap (v1 * inner)) ∧ IntKind.i64.wrap (IntKind.i64.wrap (i * size) + IntKind.i64.wrap (v1 * inner)) ≤ IntKind.i64.wrap (IntKind.i64.wrap (IntKind.i64.wrap (i * size) + IntKind.i64.wrap (v1 * inner)) + inner) ∧ IntKind.i64.wrap (IntKind.i64.wrap (IntKind.i64.wrap (i * size) + IntKind.i64.wrap (v1 * inner)) + inner) ≤ Int.ofNat dt.length then some (List.drop (IntKind.i64.wrap (IntKind.i64.wrap (i * size) + IntKind.i64.wrap (v1 * inner))).toNat (List.take (IntKind.i64.wrap (IntKind.i64.wrap (IntKind.i64.wrap (i * size) + IntKind.i64.wrap (v1 * inner)) + inner)).toNat dt)) else none).bind fun v5 =>
              (app (o :: out) v5).bind fun v6 =>
                lp g221 cf_gat (cL (cL (cR (cR (cL (cL (cR (cR (cL (cL (cR (cL (cR (cR (cR (cR (cR (cR (cR C_gat))))))))))))))))))) n { fr := mkFr 7 [(1, AV.os 0 0), (6, AV.op 3 [] 0), (9, I size), (10, I d), (11, I inner), (12, AV.os 4 0), (13, I i), (41, I times), (42, I i), (48, AV.d (i64T).slice l), (49, I (Int.ofNat l.length)), (50, I (IntKind.i64.wrap (j + 1)))], hp := [(0, AObj.arr 25 ((i64T).pair ((i64T).slice.pair ((i64T).slice.pair Ty.unit))) 0 true [(t, xd, dt, PUnit.unit), (7, [m], l, PUnit.unit)]), (1, AObj.arr 37 (Ty.str.pair ((i64T).pair ((i64T).pair ((i64T).pair (Ty.str.pair (((i64T).pair ((i64T).slice.pair ((i64T).slice.pair Ty.unit))).pair ((i64T).slice.pair Ty.unit))))))) 0 true [([97, 120, 105, 115], 2, 0, v, [], (0, [], [], PUnit.unit), [], PUnit.unit)]), (2, AObj.arr 9 Ty.str 0 false [[120], [121]]), (3, AObj.box (AV.d ((i64T).pair ((i64T).slice.pair ((i64T).slice.pair Ty.unit))) (t, xd, dt, PUnit.unit))), (4, AObj.arr 2 (i64T) 0 false v6)], nx := 8 } k
  else k (AEx.exit 2) { fr := mkFr 7 [(1, AV.os 0 0), (6, AV.op 3 [] 0), (9, I size), (10, I d), (11, I inner), (12, AV.os 4 0), (13, I i), (41, I times), (42, I i), (48, AV.d (i64T).slice l), (49, I (Int.ofNat l.length)), (50, I j), (51, B false)], hp := [(0, AObj.arr 25 ((i64T).pair ((i64T).slice.pair ((i64T).slice.pair Ty.unit))) 0 true [(t, xd, dt, PUnit.unit), (7, [m], l, PUnit.unit)]), (1, AObj.arr 37 (Ty.str.pair ((i64T).pair ((i64T).pair ((i64T).pair (Ty.str.pair (((i64T).pair ((i64T).slice.pair ((i64T).slice.pair Ty.unit))).pair ((i64T).slice.pair Ty.unit))))))) 0 true [([97, 120, 105, 115], 2, 0, v, [], (0, [], [], PUnit.unit), [], PUnit.unit)]), (2, AObj.arr 9 Ty.str 0 false [[120], [121]]), (3, AObj.box (AV.d ((i64T).pair ((i64T).slice.pair ((i64T).slice.pair Ty.unit))) (t, xd, dt, PUnit.unit))), (4, AObj.arr 2 (i64T) 0 false (o :: out))], nx := 8 } := by
  have h := g1_stepH (hlp g221 cf_gat) v t m xd dt l size d inner times i j o out n k
  simp only [lpH_lp] at h
  exact h
noncomputable def GK : AEx → LSt → Option (AEnd × LHp) := (blkK 0 (seqH g221 cf_gat [8, 11] (hlp g221 cf_gat) (cR (cR (cR (cR (cR (cR (cR (cR C_gat)))))))) (endC Tryz.prog 3 Tryz.f50.results.toList ah)))
def stG1e (v t m : Int) (xd dt l : List Int) (size d inner times i j : Int) (out : List Int) : LSt := ⟨mkFr 7 [(1, .os 0 0), (6, .op 3 [] 0), (9, I size), (10, I d), (11, I inner), (12, gSl out), (13, I i), (41, I times), (42, I i), (48, .d (.slice i64T) l), (49, I (Int.ofNat l.length)), (50, I j), (51, B false)], hpGB true v t m xd dt l ++ gHp out, gNx out⟩
def stG0e (v t m : Int) (xd dt l : List Int) (size d inner times i : Int) (out : List Int) : LSt := ⟨mkFr 7 [(1, .os 0 0), (6, .op 3 [] 0), (9, I size), (10, I d), (11, I inner), (12, gSl out), (41, I times), (42, I i), (43, B false)], hpGB true v t m xd dt l ++ gHp out, gNx out⟩
theorem gk1 (v t m : Int) (xd dt l : List Int) (size d inner times i j : Int) (o : Int) (out : List Int) (n : Nat) {R : Type} (k : AEx → LSt → Option R) : (blkK 2 (blkK 1 (seqH g221 cf_gat [8, 11] (hlp g221 cf_gat) (cR (cR (cR (cL (cL (cR (cL (cR (cR (cR (cR (cR (cR (cR C_gat)))))))))))))) (nxtH g221 cf_gat [8, 11] (hlp g221 cf_gat) (cL (cL (cR (cL (cR (cR (cR (cR (cR (cR (cR C_gat))))))))))) n k)))) (.exit 2) (stG1e v t m xd dt l size d inner times i j (o :: out)) = lp g221 cf_gat (cL (cL (cR (cL (cR (cR (cR (cR (cR (cR (cR C_gat))))))))))) n (stG0 true v t m xd dt l size d inner times (IntKind.i64.wrap (i + 1)) (o :: out)) k :=
  Eq.trans (b := lpH g221 cf_gat [8, 11] (hlp g221 cf_gat) (cL (cL (cR (cL (cR (cR (cR (cR (cR (cR (cR C_gat))))))))))) n (stG0 true v t m xd dt l size d inner times (IntKind.i64.wrap (i + 1)) (o :: out)) k) (by kernel_rfl) lpH_lp
theorem GK_exit (v t m : Int) (xd dt l : List Int) (size d inner times i : Int) (o : Int) (out : List Int) : GK (.exit 0) (stG0e v t m xd dt l size d inner times i (o :: out)) = some (.ret [.os 3 0, I 0], hpGA true v t m xd dt l ++ [(3, .arr 2 i64T 0 false (o :: out))]) := by kernel_rfl
theorem g0_in0 (v t m : Int) (xd dt l : List Int) (size d inner times i : Int) (n : Nat) {R : Type} (k : AEx → LSt → Option R) (h : i < times) : lp g221 cf_gat (cL (cL (cR (cL (cR (cR (cR (cR (cR (cR (cR C_gat))))))))))) (n + 1) (stG0 false v t m xd dt l size d inner times i []) k = lp g221 cf_gat (cL (cL (cR (cR (cL (cL (cR (cR (cL (cL (cR (cL (cR (cR (cR (cR (cR (cR (cR C_gat))))))))))))))))))) fu (stG1 true v t m xd dt l size d inner times i ((0 : Nat) : Int) []) (blkK 2 (blkK 1 (seqH g221 cf_gat [8, 11] (hlp g221 cf_gat) (cR (cR (cR (cL (cL (cR (cL (cR (cR (cR (cR (cR (cR (cR C_gat)))))))))))))) (nxtH g221 cf_gat [8, 11] (hlp g221 cf_gat) (cL (cL (cR (cL (cR (cR (cR (cR (cR (cR (cR C_gat))))))))))) n k)))) := (g0_first v t m xd dt l size d inner times i n k).trans (by rw [decide_eq_true h, cond_true]; kernel_rfl)
theorem g0_in (v t m : Int) (xd dt l : List Int) (size d inner times i : Int) (o : Int) (out : List Int) (n : Nat) {R : Type} (k : AEx → LSt → Option R) (h : i < times) : lp g221 cf_gat (cL (cL (cR (cL (cR (cR (cR (cR (cR (cR (cR C_gat))))))))))) (n + 1) (stG0 true v t m xd dt l size d inner times i (o :: out)) k = lp g221 cf_gat (cL (cL (cR (cR (cL (cL (cR (cR (cL (cL (cR (cL (cR (cR (cR (cR (cR (cR (cR C_gat))))))))))))))))))) fu (stG1 true v t m xd dt l size d inner times i ((0 : Nat) : Int) (o :: out)) (blkK 2 (blkK 1 (seqH g221 cf_gat [8, 11] (hlp g221 cf_gat) (cR (cR (cR (cL (cL (cR (cL (cR (cR (cR (cR (cR (cR (cR C_gat)))))))))))))) (nxtH g221 cf_gat [8, 11] (hlp g221 cf_gat) (cL (cL (cR (cL (cR (cR (cR (cR (cR (cR (cR C_gat))))))))))) n k)))) := (g0_step v t m xd dt l size d inner times i o out n k).trans (by rw [decide_eq_true h, cond_true]; kernel_rfl)
theorem gat_lp (v t m : Int) (xd dt l : List Int) (d : Int) (A : Nat) (hA : A < xd.length) (hl : xd.length ≤ 6) (hv : (v = (A : Int) ∧ (decide (v < 0)) = false) ∨ (decide (v < 0) = true ∧ IntKind.i64.wrap (v + Int.ofNat xd.length) = (A : Int))) (hd : xd[A]? = some d) (hd0 : d ≠ 0) : runC g221 Tryz.f50 7 [(8, [1, 6, 9, 10, 11, 12, 41, 42]), (11, [1, 6, 9, 10, 11, 12, 13, 41, 42, 48, 49, 50])] [nodeA strGA [] [122] (.os 2 0) (.os 1 0), .os 0 0] (hpGA false v t m xd dt l) ah =
    lp g221 cf_gat (cL (cL (cR (cL (cR (cR (cR (cR (cR (cR (cR C_gat))))))))))) fu (stG0 false v t m xd dt l (countN (xd.drop A)) d (IntKind.i64.wrap ((countN (xd.drop A)).tdiv d)) (countN (xd.take A)) ((0 : Nat) : Int) []) GK := by
  have c1 : (0 : Int) ≤ 0 ∧ 0 ≤ (A : Int) ∧ (A : Int) ≤ Int.ofNat xd.length := ⟨Int.le_refl _, by omega, by simp only [Int.ofNat_eq_natCast]; omega⟩
  have c2 : 0 ≤ (A : Int) ∧ (A : Int) ≤ Int.ofNat xd.length ∧ Int.ofNat xd.length ≤ Int.ofNat xd.length := ⟨by omega, by simp only [Int.ofNat_eq_natCast]; omega, Int.le_refl _⟩
  have c3 : (List.take A xd).length ≤ 9223372036854775807 := by rw [List.length_take]; omega
  have c4 : (List.drop A xd).length ≤ 9223372036854775807 := by rw [List.length_drop]; omega
  have c5 : idx xd (A : Int) = some d := by unfold idx; rw [if_pos (by omega), Int.toNat_natCast, hd]
  refine (gat_eq false v t m xd dt l).trans ?_
  rcases hv with ⟨rfl, h⟩ | ⟨h, hw⟩
  · rw [h, cond_false, if_pos c1]
    simp only [Option.bind_some, Int.toNat_natCast, List.drop_zero]
    rw [decide_eq_true c3, cond_true, if_pos c2]
    simp only [Option.bind_some, show (Int.ofNat xd.length).toNat = xd.length from rfl, List.take_length]
    rw [decide_eq_true c4, cond_true, c5]
    simp only [Option.bind_some, if_neg hd0]
    kernel_rfl
  · rw [h, cond_true, hw, if_pos c1]
    simp only [Option.bind_some, Int.toNat_natCast, List.drop_zero]
    rw [decide_eq_true c3, cond_true, if_pos c2]
    simp only [Option.bind_some, show (Int.ofNat xd.length).toNat = xd.length from rfl, List.take_length]
    rw [decide_eq_true c4, cond_true, c5]
    simp only [Option.bind_some, if_neg hd0]
    kernel_rfl
end Go.Proofs.XGT
/- move.gather by all places of an axis: the tensor's own numbers. -/
namespace Go.Proofs.XGT
open Go.Vm Go
set_option maxRecDepth 100000
set_option maxHeartbeats 1000000
def rangeI (n : Nat) : List Int := (List.range n).map Int.ofNat
theorem rangeI_get {n j : Nat} (h : j < n) : (rangeI n)[j]? = some (j : Int) := by
  unfold rangeI
  rw [List.getElem?_map, List.getElem?_range h]
  rfl
theorem rangeI_length (n : Nat) : (rangeI n).length = n := by simp [rangeI]
theorem idx_natM {α : Type} {xs : List α} {i : Nat} {x : α} (h : xs[i]? = some x) : idx xs (i : Int) = some x := by
  unfold idx
  rw [if_pos (by omega), Int.toNat_natCast, h]
theorem app_someM {α : Type} {xs ys : List α} (h : xs.length + ys.length ≤ lim) : app xs ys = some (xs ++ ys) := by
  unfold app
  rw [if_pos h]
theorem g1_one {v t m : Int} {xd dt : List Int} {size d inner times : Int} {i j D N T : Nat} (hs : size = ((D * N : Nat) : Int)) (hd : d = (D : Int)) (hn : inner = (N : Int)) (hi : i < T) (hj : j < D) (hN : 1 ≤ N) (hdt : dt.length = T * (D * N)) (hmax : T * (D * N) ≤ 65536) (out : List Int) (hl : out.length ≤ 65536) (n : Nat) {R : Type} (k : AEx → LSt → Option R) :
    lp g221 cf_gat (cL (cL (cR (cR (cL (cL (cR (cR (cL (cL (cR (cL (cR (cR (cR (cR (cR (cR (cR C_gat))))))))))))))))))) (n + 1) (stG1 true v t m xd dt (rangeI D) size d inner times i j out) k = lp g221 cf_gat (cL (cL (cR (cR (cL (cL (cR (cR (cL (cL (cR (cL (cR (cR (cR (cR (cR (cR (cR C_gat))))))))))))))))))) n (stG1 true v t m xd dt (rangeI D) size d inner times i ((j + 1 : Nat) : Int) (out ++ (dt.drop (i * (D * N) + j * N)).take N)) k := by
  have b1 : (i + 1) * (D * N) ≤ T * (D * N) := Nat.mul_le_mul_right _ (by omega)
  have b2 : (j + 1) * N ≤ D * N := Nat.mul_le_mul_right _ (by omega)
  rw [Nat.add_mul, Nat.one_mul] at b1 b2
  have hDN : D ≤ D * N := Nat.le_mul_of_pos_right _ hN
  have e0 : IntKind.i64.wrap ((j : Int) + 1) = ((j + 1 : Nat) : Int) := by rw [wrap64 (by omega) (by omega)]; omega
  have e1 : IntKind.i64.wrap ((i : Int) * size) = ((i * (D * N) : Nat) : Int) := by rw [hs, ← Int.natCast_mul]; exact wrap64 (by omega) (by omega)
  have e2 : IntKind.i64.wrap ((j : Int) * inner) = ((j * N : Nat) : Int) := by rw [hn, ← Int.natCast_mul]; exact wrap64 (by omega) (by omega)
  have e3 : IntKind.i64.wrap (((i * (D * N) : Nat) : Int) + ((j * N : Nat) : Int)) = ((i * (D * N) + j * N : Nat) : Int) := by rw [wrap64 (by omega) (by omega)]; omega
  have e4 : IntKind.i64.wrap (((i * (D * N) + j * N : Nat) : Int) + inner) = ((i * (D * N) + j * N + N : Nat) : Int) := by rw [hn, wrap64 (by omega) (by omega)]; omega
  have c1 : 0 ≤ ((i * (D * N) + j * N : Nat) : Int) ∧ ((i * (D * N) + j * N : Nat) : Int) ≤ ((i * (D * N) + j * N + N : Nat) : Int) ∧ ((i * (D * N) + j * N + N : Nat) : Int) ≤ Int.ofNat dt.length := ⟨by omega, by omega, by simp only [Int.ofNat_eq_natCast]; omega⟩
  have hx := idx_natM (rangeI_get hj)
  have hlt : (j : Int) < Int.ofNat (rangeI D).length := by rw [rangeI_length]; simp only [Int.ofNat_eq_natCast]; omega
  have hcut : List.drop (i * (D * N) + j * N) (List.take (i * (D * N) + j * N + N) dt) = (dt.drop (i * (D * N) + j * N)).take N := by
    rw [List.drop_take, Nat.add_sub_cancel_left]
  have hlen : ((dt.drop (i * (D * N) + j * N)).take N).length = N := by rw [List.length_take, List.length_drop]; omega
  obtain ⟨y, ys, hy⟩ : ∃ y ys, (dt.drop (i * (D * N) + j * N)).take N = y :: ys := by
    match hq : (dt.drop (i * (D * N) + j * N)).take N, hlen with
    | [], h => simp at h; omega
    | y :: ys, _ => exact ⟨y, ys, rfl⟩
  cases out with
  | nil =>
    rw [g1_step0, decide_eq_true hlt, cond_true, hx]
    simp only [Option.bind_some, e0, e1, e2, e3, e4]
    rw [decide_eq_false (show ¬ ((j : Int) < 0) by omega), decide_eq_false (show ¬ ((j : Int) ≥ d) by omega)]
    simp only [cond_false, if_pos c1, Option.bind_some, Int.toNat_natCast, hcut]
    rw [app_someM (by rw [hlen]; unfold lim; simp; omega), hy]
    rfl
  | cons o out =>
    rw [g1_step, decide_eq_true hlt, cond_true, hx]
    simp only [Option.bind_some, e0, e1, e2, e3, e4]
    rw [decide_eq_false (show ¬ ((j : Int) < 0) by omega), decide_eq_false (show ¬ ((j : Int) ≥ d) by omega)]
    simp only [cond_false, if_pos c1, Option.bind_some, Int.toNat_natCast, hcut]
    rw [app_someM (by rw [hlen]; unfold lim; omega)]
    rfl
theorem g1_end {v t m : Int} {xd dt l : List Int} {size d inner times i j : Int} (out : List Int) (hj : ¬ j < Int.ofNat l.length) (n : Nat) {R : Type} (k : AEx → LSt → Option R) :
    lp g221 cf_gat (cL (cL (cR (cR (cL (cL (cR (cR (cL (cL (cR (cL (cR (cR (cR (cR (cR (cR (cR C_gat))))))))))))))))))) (n + 1) (stG1 true v t m xd dt l size d inner times i j out) k = k (.exit 2) (stG1e v t m xd dt l size d inner times i j out) := by
  cases out with
  | nil => rw [g1_step0, decide_eq_false hj]; rfl
  | cons o out => rw [g1_step, decide_eq_false hj]; rfl
theorem g1_all {v t m : Int} {xd dt : List Int} {size d inner times : Int} {i D N T : Nat} (hs : size = ((D * N : Nat) : Int)) (hd : d = (D : Int)) (hn : inner = (N : Int)) (hi : i < T) (hN : 1 ≤ N) (hdt : dt.length = T * (D * N)) (hmax : T * (D * N) ≤ 65536) {R : Type} (k : AEx → LSt → Option R) :
    ∀ (r j n : Nat) (out : List Int), j + r = D → r < n → out.length + r * N ≤ 65536 →
    lp g221 cf_gat (cL (cL (cR (cR (cL (cL (cR (cR (cL (cL (cR (cL (cR (cR (cR (cR (cR (cR (cR C_gat))))))))))))))))))) n (stG1 true v t m xd dt (rangeI D) size d inner times i j out) k = k (.exit 2) (stG1e v t m xd dt (rangeI D) size d inner times i D (out ++ (dt.drop (i * (D * N) + j * N)).take (r * N))) := by
  intro r
  induction r with
  | zero =>
    intro j n out hj hm hl
    obtain ⟨n, rfl⟩ : ∃ m', n = m' + 1 := ⟨n - 1, by omega⟩
    obtain rfl : j = D := by omega
    rw [g1_end out (by rw [rangeI_length]; simp only [Int.ofNat_eq_natCast]; omega), Nat.zero_mul, List.take_zero, List.append_nil]
  | succ r ih =>
    intro j n out hj hm hl
    obtain ⟨n, rfl⟩ : ∃ m', n = m' + 1 := ⟨n - 1, by omega⟩
    have h2 : (r + 1) * N = r * N + N := by rw [Nat.add_mul]; omega
    rw [g1_one hs hd hn hi (by omega) hN hdt hmax out (by omega), ih (j + 1) n _ (by omega) (by omega) (by rw [List.length_append, List.length_take]; omega)]
    rw [List.append_assoc, h2, Nat.add_comm (r * N) N, List.take_add, List.drop_drop, Nat.add_mul j 1 N, Nat.one_mul, Nat.add_assoc]
theorem ne_cut {dt out : List Int} {a n : Nat} (h : 1 ≤ n) (hl : a + n ≤ dt.length) : ∃ o r, out ++ (dt.drop a).take n = o :: r := by
  have : 0 < (out ++ (dt.drop a).take n).length := by rw [List.length_append, List.length_take, List.length_drop]; omega
  match hq : out ++ (dt.drop a).take n, this with
  | o :: r, _ => exact ⟨o, r, rfl⟩
theorem g0_all {v t m : Int} {xd dt : List Int} {size d inner times : Int} {D N T : Nat} (hs : size = ((D * N : Nat) : Int)) (hd : d = (D : Int)) (hn : inner = (N : Int)) (ht : times = (T : Int)) (hN : 1 ≤ N) (hD : 1 ≤ D) (hdt : dt.length = T * (D * N)) (hmax : T * (D * N) ≤ 65536) {R : Type} (k : AEx → LSt → Option R) :
    ∀ (r i n : Nat) (o : Int) (out : List Int), i + r = T → r < n → (o :: out).length + r * (D * N) ≤ 65536 →
    lp g221 cf_gat (cL (cL (cR (cL (cR (cR (cR (cR (cR (cR (cR C_gat))))))))))) n (stG0 true v t m xd dt (rangeI D) size d inner times i (o :: out)) k = k (.exit 0) (stG0e v t m xd dt (rangeI D) size d inner times T ((o :: out) ++ (dt.drop (i * (D * N))).take (r * (D * N)))) := by
  have hDN : 1 ≤ D * N := Nat.mul_pos hD hN
  intro r
  induction r with
  | zero =>
    intro i n o out hi hm hl
    obtain ⟨n, rfl⟩ : ∃ m', n = m' + 1 := ⟨n - 1, by omega⟩
    obtain rfl : i = T := by omega
    rw [g0_step, decide_eq_false (show ¬ ((i : Int) < times) by omega), Nat.zero_mul, List.take_zero, List.append_nil]
    rfl
  | succ r ih =>
    intro i n o out hi hm hl
    obtain ⟨n, rfl⟩ : ∃ m', n = m' + 1 := ⟨n - 1, by omega⟩
    have h2 : (r + 1) * (D * N) = r * (D * N) + D * N := by rw [Nat.add_mul]; omega
    have b1 : (i + 1) * (D * N) ≤ T * (D * N) := Nat.mul_le_mul_right _ (by omega)
    rw [Nat.add_mul, Nat.one_mul] at b1
    have hT : T ≤ T * (D * N) := Nat.le_mul_of_pos_right _ hDN
    have key := fun k' : AEx → LSt → Option R => g1_all (v := v) (t := t) (m := m) (xd := xd) (times := times) hs hd hn (show i < T by omega) hN hdt hmax k' D 0 fu (o :: out) (by omega) (by unfold fu; have : D ≤ D * N := Nat.le_mul_of_pos_right _ hN; omega) (by omega)
    rw [Nat.zero_mul, Nat.add_zero] at key
    obtain ⟨o', r', hor⟩ := ne_cut (dt := dt) (out := o :: out) (a := i * (D * N)) hDN (by omega)
    have e0 : IntKind.i64.wrap ((i : Int) + 1) = ((i + 1 : Nat) : Int) := by rw [wrap64 (by omega) (by omega)]; omega
    rw [g0_in v t m xd dt _ size d inner times i o out n k (by omega), key, hor, gk1, e0, ih (i + 1) n o' r' (by omega) (by omega) (by rw [← hor, List.length_append, List.length_take]; omega), ← hor]
    rw [List.append_assoc, h2, Nat.add_comm (r * (D * N)) (D * N), List.take_add, List.drop_drop, Nat.add_mul i 1 (D * N), Nat.one_mul]
theorem cons_of : ∀ (l : List Int), 1 ≤ l.length → ∃ a b, l = a :: b
  | [], h => by simp at h
  | a :: b, _ => ⟨a, b, rfl⟩
theorem gat_loop' {v t m : Int} {xd dt : List Int} {size d inner times : Int} {D N T : Nat} (hs : size = ((D * N : Nat) : Int)) (hd : d = (D : Int)) (hn : inner = (N : Int)) (ht : times = (T : Int)) (hN : 1 ≤ N) (hD : 1 ≤ D) (hT1 : 1 ≤ T) (hdt : dt.length = T * (D * N)) (hmax : T * (D * N) ≤ 65536) (n : Nat) (hn1 : T - 1 < n) :
    ∃ o r, dt = o :: r ∧ lp g221 cf_gat (cL (cL (cR (cL (cR (cR (cR (cR (cR (cR (cR C_gat))))))))))) (n + 1) (stG0 false v t m xd dt (rangeI D) size d inner times ((0 : Nat) : Int) []) GK = GK (.exit 0) (stG0e v t m xd dt (rangeI D) size d inner times T (o :: r)) := by
  have hDN : 1 ≤ D * N := Nat.mul_pos hD hN
  have b1 : D * N ≤ T * (D * N) := Nat.le_mul_of_pos_left _ hT1
  have h3 : (T - 1) * (D * N) + D * N = T * (D * N) := by rw [← Nat.succ_mul, show (T - 1).succ = T by omega]
  have key := fun k' : AEx → LSt → Option (AEnd × LHp) => g1_all (v := v) (t := t) (m := m) (xd := xd) (times := times) (i := 0) hs hd hn (show 0 < T by omega) hN hdt hmax k' D 0 fu [] (by omega) (by unfold fu; have : D ≤ D * N := Nat.le_mul_of_pos_right _ hN; omega) (by simp; omega)
  rw [Nat.zero_mul, Nat.zero_mul, Nat.add_zero] at key
  obtain ⟨o', r', hor⟩ := ne_cut (dt := dt) (out := []) (a := 0) hDN (by omega)
  rw [hor] at key
  have e0 : IntKind.i64.wrap (((0 : Nat) : Int) + 1) = ((1 : Nat) : Int) := wrap64 (by omega) (by omega)
  have e1 : (o' :: r') ++ List.take ((T - 1) * (D * N)) (List.drop (1 * (D * N)) dt) = dt := by
    rw [← hor, List.nil_append, List.drop_zero, Nat.one_mul, ← List.take_add, show D * N + (T - 1) * (D * N) = T * (D * N) by omega, ← hdt, List.take_length]
  have hl1 : (o' :: r').length + (T - 1) * (D * N) ≤ 65536 := by
    rw [← hor, List.nil_append, List.length_take, List.drop_zero]
    omega
  have step := g0_all (v := v) (t := t) (m := m) (xd := xd) hs hd hn ht hN hD hdt hmax GK (T - 1) 1 n o' r' (by omega) hn1 hl1
  rw [e1] at step
  obtain ⟨a, b, hab⟩ := cons_of dt (by omega)
  refine ⟨a, b, hab, ?_⟩
  refine (g0_in0 v t m xd dt _ size d inner times _ n GK (by omega)).trans ?_
  refine (key _).trans ?_
  refine (gk1 _ _ _ _ _ _ _ _ _ _ _ _ _ _ n GK).trans ?_
  rw [e0, ← hab]
  exact step
theorem gat_loop {v t m : Int} {xd dt : List Int} {size d inner times : Int} {D N T : Nat} (hs : size = ((D * N : Nat) : Int)) (hd : d = (D : Int)) (hn : inner = (N : Int)) (ht : times = (T : Int)) (hN : 1 ≤ N) (hD : 1 ≤ D) (hT1 : 1 ≤ T) (hdt : dt.length = T * (D * N)) (hmax : T * (D * N) ≤ 65536) :
    lp g221 cf_gat (cL (cL (cR (cL (cR (cR (cR (cR (cR (cR (cR C_gat))))))))))) fu (stG0 false v t m xd dt (rangeI D) size d inner times ((0 : Nat) : Int) []) GK = some (.ret [.os 3 0, I 0], hpGA true v t m xd dt (rangeI D) ++ [(3, .arr 2 i64T 0 false dt)]) := by
  have hDN : 1 ≤ D * N := Nat.mul_pos hD hN
  have hT : T ≤ T * (D * N) := Nat.le_mul_of_pos_right _ hDN
  have hfu : fu = 18446744073709551616 := rfl
  obtain ⟨n, hf⟩ : ∃ n, fu = n + 1 := ⟨fu - 1, by omega⟩
  obtain ⟨a, b, hab, h⟩ := gat_loop' (v := v) (t := t) (m := m) (xd := xd) hs hd hn ht hN hD hT1 hdt hmax n (by omega)
  rw [hf]
  refine h.trans ?_
  subst hab
  exact GK_exit _ _ _ _ _ _ _ _ _ _ _ _ _
end Go.Proofs.XGT
/- move.gather by all places as an answer in a function's place; move.Do of such a Gather. -/
namespace Go.Proofs.XGT
open Go.Vm Go
set_option maxRecDepth 100000
set_option maxHeartbeats 4000000
theorem prodI_from (n : Int) : ∀ xs : List Int, xs.foldl (· * ·) n = n * prodI xs
  | [] => by simp [prodI]
  | x :: xs => by
    unfold prodI
    rw [List.foldl_cons, List.foldl_cons, prodI_from (n * x) xs, prodI_from (1 * x) xs, Int.one_mul, Int.mul_assoc]
theorem prodI_append (a b : List Int) : prodI (a ++ b) = prodI a * prodI b := by
  unfold prodI
  rw [List.foldl_append, prodI_from]
  rfl
theorem prodI_cons (x : Int) (b : List Int) : prodI (x :: b) = x * prodI b := by
  unfold prodI
  rw [List.foldl_cons, prodI_from, Int.one_mul]
  rfl
theorem prodI_ge : ∀ {xs : List Int}, (∀ x ∈ xs, 1 ≤ x) → 1 ≤ prodI xs
  | [], _ => by simp [prodI]
  | x :: xs, h => by
    rw [prodI_cons]
    exact (mul_le_self (h x (by simp)) (prodI_ge fun y hy => h y (by simp [hy]))).2.2
theorem countN_mk {xs : List Int} (h1 : ∀ x ∈ xs, 1 ≤ x) (h2 : xs.length ≤ 6) (h3 : prodI xs ≤ 65536) : countN xs = prodI xs := by
  unfold countN bigI
  rw [idxP_ge, List.any_eq_false.2 (fun x hx => by have := h1 x hx; simp only [decide_eq_true_eq]; omega), decide_eq_false (show ¬ (Int.ofNat xs.length > 6) by have : Int.ofNat xs.length = (xs.length : Int) := rfl; omega), decide_eq_false (show ¬ (prodI xs > 65536) by omega)]
  rfl
/-- the axis that v means -/
def axisI (v : Int) (n : Nat) : Int := bif decide (v < 0) then v + n else v
theorem gat_run {v t m : Int} {xd dt : List Int} (h0 : 0 ≤ axisI v xd.length) (hA : (axisI v xd.length).toNat < xd.length) (hc : countE xd = 0) (hdt : (dt.length : Int) = countN xd) :
    runC g221 Tryz.f50 7 [(8, [1, 6, 9, 10, 11, 12, 41, 42]), (11, [1, 6, 9, 10, 11, 12, 13, 41, 42, 48, 49, 50])] [nodeA strGA [] [122] (.os 2 0) (.os 1 0), .os 0 0] (hpGA false v t m xd dt (rangeI (xd.getD (axisI v xd.length).toNat 0).toNat)) ah = some (.ret [.os 3 0, I 0], hpGA true v t m xd dt (rangeI (xd.getD (axisI v xd.length).toNat 0).toNat) ++ [(3, .arr 2 i64T 0 false dt)]) := by
  obtain ⟨p1, p2, p3, p4⟩ := count_ok hc
  generalize hAx : (axisI v xd.length).toNat = A at *
  have hd : xd[A]? = some xd[A] := List.getElem?_eq_getElem hA
  have hd1 := p1 xd[A] (List.getElem_mem hA)
  have hD : xd.getD A 0 = xd[A] := by rw [List.getD_eq_getElem?_getD, hd]; rfl
  obtain ⟨D, hDn⟩ := Int.eq_ofNat_of_zero_le (show 0 ≤ xd[A] by omega)
  have m1 : ∀ x ∈ xd.take A, 1 ≤ x := fun x hx => p1 x (List.mem_of_mem_take hx)
  have m2 : ∀ x ∈ xd.drop (A + 1), 1 ≤ x := fun x hx => p1 x (List.mem_of_mem_drop hx)
  have m3 : ∀ x ∈ xd.drop A, 1 ≤ x := fun x hx => p1 x (List.mem_of_mem_drop hx)
  obtain ⟨T, hT⟩ := Int.eq_ofNat_of_zero_le (show 0 ≤ prodI (xd.take A) by have := prodI_ge m1; omega)
  obtain ⟨N, hN⟩ := Int.eq_ofNat_of_zero_le (show 0 ≤ prodI (xd.drop (A + 1)) by have := prodI_ge m2; omega)
  have e1 : prodI (xd.drop A) = ((D * N : Nat) : Int) := by
    rw [List.drop_eq_getElem_cons hA, prodI_cons, hDn, hN, Int.natCast_mul]
  have e2 : prodI xd = ((T * (D * N) : Nat) : Int) := by
    rw [← List.take_append_drop A xd, prodI_append, hT, e1, ← Int.natCast_mul]
  have q1 := prodI_ge m1
  have q2 := prodI_ge m2
  have q3 := prodI_ge m3
  have q4 := mul_le_self q1 q3
  rw [← prodI_append, List.take_append_drop] at q4
  have n1 : countN (xd.take A) = (T : Int) := by rw [countN_mk m1 (by rw [List.length_take]; omega) (by omega), hT]
  have n2 : countN (xd.drop A) = ((D * N : Nat) : Int) := by rw [countN_mk m3 (by rw [List.length_drop]; omega) (by omega), e1]
  have hv : (v = (A : Int) ∧ (decide (v < 0)) = false) ∨ (decide (v < 0) = true ∧ IntKind.i64.wrap (v + Int.ofNat xd.length) = (A : Int)) := by
    unfold axisI at hAx h0
    by_cases h : v < 0
    · right
      rw [decide_eq_true h] at hAx h0
      simp only [cond_true] at hAx h0
      refine ⟨decide_eq_true h, ?_⟩
      rw [show Int.ofNat xd.length = (xd.length : Int) from rfl, wrap64 (by omega) (by omega)]
      omega
    · left
      rw [decide_eq_false h] at hAx h0
      simp only [cond_false] at hAx h0
      exact ⟨by omega, decide_eq_false h⟩
  rw [hD, hDn, show ((D : Nat) : Int).toNat = D from rfl, gat_lp v t m xd dt _ (D : Int) A hA p2 hv (by rw [hd, hDn]) (by omega), n1, n2]
  have hDpos : 1 ≤ D := by omega
  have hq : IntKind.i64.wrap (((D * N : Nat) : Int).tdiv (D : Int)) = (N : Int) := by
    have hle : N ≤ D * N := Nat.le_mul_of_pos_left _ hDpos
    rw [← Int.ofNat_tdiv, Nat.mul_div_cancel_left _ hDpos]
    exact wrap64 (by omega) (by omega)
  rw [hq]
  exact gat_loop rfl rfl rfl rfl (by omega) hDpos (by omega) (by rw [p4, e2] at hdt; exact Int.ofNat.inj hdt) (by omega)
def okG (v : Int) (xd dt l : List Int) (ty : Int) : Bool := decide (0 ≤ axisI v xd.length) && decide ((axisI v xd.length).toNat < xd.length) && decide (countE xd = 0) && decide ((dt.length : Int) = countN xd) && decide (l = rangeI (xd.getD (axisI v xd.length).toNat 0).toNat) && decide (ty = 7)
def gatT : List AV → LHp → Tq
  | [n, .os 0 0], [(0, .arr 25 ((.pair (.int .i64) (.pair (.slice (.int .i64)) (.pair (.slice (.int .i64)) .unit)))) 0 false [(t, xd, dt, ()), (ty, [m], l, ())]), (1, .arr 37 ((.pair .str (.pair (.int .i64) (.pair (.int .i64) (.pair (.int .i64) (.pair .str (.pair (.pair (.int .i64) (.pair (.slice (.int .i64)) (.pair (.slice (.int .i64)) .unit))) (.pair (.slice (.int .i64)) .unit)))))))) 0 true ats), (2, .arr 9 .str 0 false ins)] =>
    (match nodeP n with
    | some (op, nm, out, .os 2 0, .os 1 0) => gate (decide (op = strGA) && decide (nm = []) && decide (out = [122]) && decide (ins = [[120], [121]]))
        (.opt (oneInt strAxis ats) fun v => .br (okG v xd dt l ty) (.leaf (.ret [.os 3 0, I 0]) (hpGA true v t m xd dt l ++ [(3, .arr 2 i64T 0 false dt)])) .no)
    | _ => .no)
  | _, _ => .no
theorem gatT_ok : FnE.OK e0.P e0.gam 50 (treeE gatT) := by
  have h1 : FnE.OK e0.P e0.gam 50 (execFnC g221 Tryz.f50 7 [(8, [1, 6, 9, 10, 11, 12, 41, 42]), (11, [1, 6, 9, 10, 11, 12, 13, 41, 42, 48, 49, 50])]) := y50_ok
  refine ⟨fun _ _ _ => Tq.eq _ _, fun args hs ae hs' h => ?_⟩
  have h' : (gatT args hs).run ah = some (ae, hs') := h
  clear h
  unfold gatT at h'
  split at h'
  · split at h'
    · rename_i hn
      rw [nodeP_some hn]
      obtain ⟨hb, h2⟩ := gate_run h'
      clear h'
      simp only [Bool.and_eq_true, decide_eq_true_eq] at hb
      obtain ⟨⟨⟨b1, b2⟩, b3⟩, b4⟩ := hb
      subst b1 b2 b3 b4
      simp only [Tq.run] at h2
      obtain ⟨v, hv, h3⟩ := bind_some h2
      clear h2
      rw [oneInt_some hv]
      obtain ⟨hb, h4⟩ := Tq.br_no (t := .leaf _ _) (show (Tq.br (okG v _ _ _ _) (.leaf _ _) .no).run ah = some (ae, hs') from h3)
      unfold okG at hb
      simp only [Bool.and_eq_true, decide_eq_true_eq] at hb
      obtain ⟨⟨⟨⟨⟨c1, c2⟩, c3⟩, c4⟩, c5⟩, c6⟩ := hb
      subst c5 c6
      cases h4
      exact h1.okC (gat_run c1 c2 c3 c4)
    · cases h'
  · cases h'
end Go.Proofs.XGT
/- move.Do of a Gather. -/
namespace Go.Proofs.XGT
open Go.Vm Go
set_option maxRecDepth 100000
set_option maxHeartbeats 4000000
noncomputable def C_mdo : Code := codeOf Tryz.f27
noncomputable def cf_mdo : Cfg := ⟨123, 7, 3, [], true⟩
noncomputable def gMD : Env := g227.add 50 (treeE gatT)
theorem gMD_good : gMD.Good := g227_good.add gatT_ok
def hpMD (z z2 : Bool) (v t m : Int) (xd dt l : List Int) : LHp := [(0, .arr 25 (Y0) 0 z [(t, xd, dt, ()), (7, [m], l, ())]), (1, .arr 37 (Y1) 0 z2 [iattr strAxis v]), (2, .arr 9 .str 0 false [[120], [121]])]
theorem mdo_eq (v t m : Int) (xd dt l : List Int) : runC gMD Tryz.f27 7 [] [nodeA strGA [] [122] (.os 2 0) (.os 1 0), .os 0 0] (hpMD false false v t m xd dt l) ah =
  bif decide (xd.length ≤ 9223372036854775807 ∧ dt.length ≤ 9223372036854775807) then 
    bif tenE t xd dt != 0 then some (AEnd.ret [(I 0).pr (AV.nils.pr (AV.nils.pr (AV.d Ty.unit PUnit.unit))), I 1], [(0, AObj.arr 25 ((i64T).pair ((i64T).slice.pair ((i64T).slice.pair Ty.unit))) 0 false [(t, xd, dt, PUnit.unit), (7, [m], l, PUnit.unit)]), (1, AObj.arr 37 (Ty.str.pair ((i64T).pair ((i64T).pair ((i64T).pair (Ty.str.pair (((i64T).pair ((i64T).slice.pair ((i64T).slice.pair Ty.unit))).pair ((i64T).slice.pair Ty.unit))))))) 0 false [([97, 120, 105, 115], 2, 0, v, [], (0, [], [], PUnit.unit), [], PUnit.unit)]), (2, AObj.arr 9 Ty.str 0 false [[120], [121]])])
    else 
      bif decide (1 ≤ 9223372036854775807 ∧ l.length ≤ 9223372036854775807) then 
        bif tenE 7 [m] l != 0 then some (AEnd.ret [(I 0).pr (AV.nils.pr (AV.nils.pr (AV.d Ty.unit PUnit.unit))), I 1], [(0, AObj.arr 25 ((i64T).pair ((i64T).slice.pair ((i64T).slice.pair Ty.unit))) 0 false [(t, xd, dt, PUnit.unit), (7, [m], l, PUnit.unit)]), (1, AObj.arr 37 (Ty.str.pair ((i64T).pair ((i64T).pair ((i64T).pair (Ty.str.pair (((i64T).pair ((i64T).slice.pair ((i64T).slice.pair Ty.unit))).pair ((i64T).slice.pair Ty.unit))))))) 0 false [([97, 120, 105, 115], 2, 0, v, [], (0, [], [], PUnit.unit), [], PUnit.unit)]), (2, AObj.arr 9 Ty.str 0 false [[120], [121]])])
        else 
          bif !numOk t 0 then some (AEnd.ret [(I 0).pr (AV.nils.pr (AV.nils.pr (AV.d Ty.unit PUnit.unit))), I 5], [(0, AObj.arr 25 ((i64T).pair ((i64T).slice.pair ((i64T).slice.pair Ty.unit))) 0 false [(t, xd, dt, PUnit.unit), (7, [m], l, PUnit.unit)]), (1, AObj.arr 37 (Ty.str.pair ((i64T).pair ((i64T).pair ((i64T).pair (Ty.str.pair (((i64T).pair ((i64T).slice.pair ((i64T).slice.pair Ty.unit))).pair ((i64T).slice.pair Ty.unit))))))) 0 true [([97, 120, 105, 115], 2, 0, v, [], (0, [], [], PUnit.unit), [], PUnit.unit)]), (2, AObj.arr 9 Ty.str 0 false [[120], [121]])])
          else 
            bif decide (xd.length ≤ 9223372036854775807) then 
              bif countE xd != 0 then 
                bif countE xd != 0 then some (AEnd.ret [(I 0).pr (AV.nils.pr (AV.nils.pr (AV.d Ty.unit PUnit.unit))), I (countE xd)], [(0, AObj.arr 25 ((i64T).pair ((i64T).slice.pair ((i64T).slice.pair Ty.unit))) 0 false [(t, xd, dt, PUnit.unit), (7, [m], l, PUnit.unit)]), (1, AObj.arr 37 (Ty.str.pair ((i64T).pair ((i64T).pair ((i64T).pair (Ty.str.pair (((i64T).pair ((i64T).slice.pair ((i64T).slice.pair Ty.unit))).pair ((i64T).slice.pair Ty.unit))))))) 0 true [([97, 120, 105, 115], 2, 0, v, [], (0, [], [], PUnit.unit), [], PUnit.unit)]), (2, AObj.arr 9 Ty.str 0 false [[120], [121]])])
                else 
                  bif okG v xd dt l 7 then some (AEnd.ret [(I 0).pr (AV.nils.pr ((AV.os 3 0).pr (AV.d Ty.unit PUnit.unit))), I 0], [(0, AObj.arr 25 ((i64T).pair ((i64T).slice.pair ((i64T).slice.pair Ty.unit))) 0 true [(t, xd, dt, PUnit.unit), (7, [m], l, PUnit.unit)]), (1, AObj.arr 37 (Ty.str.pair ((i64T).pair ((i64T).pair ((i64T).pair (Ty.str.pair (((i64T).pair ((i64T).slice.pair ((i64T).slice.pair Ty.unit))).pair ((i64T).slice.pair Ty.unit))))))) 0 true [([97, 120, 105, 115], 2, 0, v, [], (0, [], [], PUnit.unit), [], PUnit.unit)]), (2, AObj.arr 9 Ty.str 0 false [[120], [121]]), (3, AObj.arr 2 (i64T) 0 false dt)])
                  else none
              else 
                bif countE [m] != 0 then 
                  bif countE [m] != 0 then some (AEnd.ret [(I 0).pr (AV.nils.pr (AV.nils.pr (AV.d Ty.unit PUnit.unit))), I (countE [m])], [(0, AObj.arr 25 ((i64T).pair ((i64T).slice.pair ((i64T).slice.pair Ty.unit))) 0 false [(t, xd, dt, PUnit.unit), (7, [m], l, PUnit.unit)]), (1, AObj.arr 37 (Ty.str.pair ((i64T).pair ((i64T).pair ((i64T).pair (Ty.str.pair (((i64T).pair ((i64T).slice.pair ((i64T).slice.pair Ty.unit))).pair ((i64T).slice.pair Ty.unit))))))) 0 true [([97, 120, 105, 115], 2, 0, v, [], (0, [], [], PUnit.unit), [], PUnit.unit)]), (2, AObj.arr 9 Ty.str 0 false [[120], [121]])])
                  else 
                    bif okG v xd dt l 7 then some (AEnd.ret [(I 0).pr (AV.nils.pr ((AV.os 3 0).pr (AV.d Ty.unit PUnit.unit))), I 0], [(0, AObj.arr 25 ((i64T).pair ((i64T).slice.pair ((i64T).slice.pair Ty.unit))) 0 true [(t, xd, dt, PUnit.unit), (7, [m], l, PUnit.unit)]), (1, AObj.arr 37 (Ty.str.pair ((i64T).pair ((i64T).pair ((i64T).pair (Ty.str.pair (((i64T).pair ((i64T).slice.pair ((i64T).slice.pair Ty.unit))).pair ((i64T).slice.pair Ty.unit))))))) 0 true [([97, 120, 105, 115], 2, 0, v, [], (0, [], [], PUnit.unit), [], PUnit.unit)]), (2, AObj.arr 9 Ty.str 0 false [[120], [121]]), (3, AObj.arr 2 (i64T) 0 false dt)])
                    else none
                else 
                  bif t == 6 then 
                    bif decide (IntKind.i64.wrap (0 - Int.ofNat xd.length) ≤ v) then 
                      bif !decide (v < Int.ofNat xd.length) then some (AEnd.ret [(I 0).pr (AV.nils.pr (AV.nils.pr (AV.d Ty.unit PUnit.unit))), I 4], [(0, AObj.arr 25 ((i64T).pair ((i64T).slice.pair ((i64T).slice.pair Ty.unit))) 0 false [(t, xd, dt, PUnit.unit), (7, [m], l, PUnit.unit)]), (1, AObj.arr 37 (Ty.str.pair ((i64T).pair ((i64T).pair ((i64T).pair (Ty.str.pair (((i64T).pair ((i64T).slice.pair ((i64T).slice.pair Ty.unit))).pair ((i64T).slice.pair Ty.unit))))))) 0 true [([97, 120, 105, 115], 2, 0, v, [], (0, [], [], PUnit.unit), [], PUnit.unit)]), (2, AObj.arr 9 Ty.str 0 false [[120], [121]])])
                      else 
                        bif decide (v < 0) then (if (0 : Int) ≤ 0 ∧ 0 ≤ IntKind.i64.wrap (v + Int.ofNat xd.length) ∧ IntKind.i64.wrap (v + Int.ofNat xd.length) ≤ Int.ofNat xd.length then some (List.drop 0 (List.take (IntKind.i64.wrap (v + Int.ofNat xd.length)).toNat xd)) else none).bind fun v12 =>
                            (if 0 ≤ IntKind.i64.wrap (IntKind.i64.wrap (v + Int.ofNat xd.length) + 1) ∧ IntKind.i64.wrap (IntKind.i64.wrap (v + Int.ofNat xd.length) + 1) ≤ Int.ofNat xd.length ∧ Int.ofNat xd.length ≤ Int.ofNat xd.length then some (List.drop (IntKind.i64.wrap (IntKind.i64.wrap (v + Int.ofNat xd.length) + 1)).toNat (List.take (Int.ofNat xd.length).toNat xd)) else none).bind fun v13 =>
                              (unc (v12 ++ [m] ++ v13)).bind fun v14 =>
                                bif decide (v12.length + 1 + v13.length ≤ 65536) then 
                                  bif decide ((v14.1 :: v14.2).length ≤ 9223372036854775807) then 
                                    bif countE (v14.1 :: v14.2) != 0 then 
                                      bif countE (v14.1 :: v14.2) != 0 then some (AEnd.ret [(I 0).pr (AV.nils.pr (AV.nils.pr (AV.d Ty.unit PUnit.unit))), I (countE (v14.1 :: v14.2))], [(0, AObj.arr 25 ((i64T).pair ((i64T).slice.pair ((i64T).slice.pair Ty.unit))) 0 false [(t, xd, dt, PUnit.unit), (7, [m], l, PUnit.unit)]), (1, AObj.arr 37 (Ty.str.pair ((i64T).pair ((i64T).pair ((i64T).pair (Ty.str.pair (((i64T).pair ((i64T).slice.pair ((i64T).slice.pair Ty.unit))).pair ((i64T).slice.pair Ty.unit))))))) 0 true [([97, 120, 105, 115], 2, 0, v, [], (0, [], [], PUnit.unit), [], PUnit.unit)]), (2, AObj.arr 9 Ty.str 0 false [[120], [121]])])
                                      else 
                                        bif okG v xd dt l 7 then some (AEnd.ret [(I 0).pr (AV.nils.pr ((AV.os 3 0).pr (AV.d Ty.unit PUnit.unit))), I 0], [(0, AObj.arr 25 ((i64T).pair ((i64T).slice.pair ((i64T).slice.pair Ty.unit))) 0 true [(t, xd, dt, PUnit.unit), (7, [m], l, PUnit.unit)]), (1, AObj.arr 37 (Ty.str.pair ((i64T).pair ((i64T).pair ((i64T).pair (Ty.str.pair (((i64T).pair ((i64T).slice.pair ((i64T).slice.pair Ty.unit))).pair ((i64T).slice.pair Ty.unit))))))) 0 true [([97, 120, 105, 115], 2, 0, v, [], (0, [], [], PUnit.unit), [], PUnit.unit)]), (2, AObj.arr 9 Ty.str 0 false [[120], [121]]), (3, AObj.arr 2 (i64T) 0 false dt)])
                                        else none
                                    else (app [] (v14.1 :: v14.2)).bind fun v18 =>
                                        bif okG v xd dt l 7 then some (AEnd.ret [(I t).pr ((AV.os 3 0).pr ((AV.os 4 0).pr (AV.d Ty.unit PUnit.unit))), I 0], [(0, AObj.arr 25 ((i64T).pair ((i64T).slice.pair ((i64T).slice.pair Ty.unit))) 0 true [(t, xd, dt, PUnit.unit), (7, [m], l, PUnit.unit)]), (1, AObj.arr 37 (Ty.str.pair ((i64T).pair ((i64T).pair ((i64T).pair (Ty.str.pair (((i64T).pair ((i64T).slice.pair ((i64T).slice.pair Ty.unit))).pair ((i64T).slice.pair Ty.unit))))))) 0 true [([97, 120, 105, 115], 2, 0, v, [], (0, [], [], PUnit.unit), [], PUnit.unit)]), (2, AObj.arr 9 Ty.str 0 false [[120], [121]]), (3, AObj.arr 3 (i64T) 0 false v18), (4, AObj.arr 2 (i64T) 0 false dt)])
                                        else none
                                  else none
                                else none
                        else (if (0 : Int) ≤ 0 ∧ 0 ≤ v ∧ v ≤ Int.ofNat xd.length then some (List.drop 0 (List.take v.toNat xd)) else none).bind fun v12 =>
                            (if 0 ≤ IntKind.i64.wrap (v + 1) ∧ IntKind.i64.wrap (v + 1) ≤ Int.ofNat xd.length ∧ Int.ofNat xd.length ≤ Int.ofNat xd.length then some (List.drop (IntKind.i64.wrap (v + 1)).toNat (List.take (Int.ofNat xd.length).toNat xd)) else none).bind fun v13 =>
                              (unc (v12 ++ [m] ++ v13)).bind fun v14 =>
                                bif decide (v12.length + 1 + v13.length ≤ 65536) then 
                                  bif decide ((v14.1 :: v14.2).length ≤ 9223372036854775807) then 
                                    bif countE (v14.1 :: v14.2) != 0 then 
                                      bif countE (v14.1 :: v14.2) != 0 then some (AEnd.ret [(I 0).pr (AV.nils.pr (AV.nils.pr (AV.d Ty.unit PUnit.unit))), I (countE (v14.1 :: v14.2))], [(0, AObj.arr 25 ((i64T).pair ((i64T).slice.pair ((i64T).slice.pair Ty.unit))) 0 false [(t, xd, dt, PUnit.unit), (7, [m], l, PUnit.unit)]), (1, AObj.arr 37 (Ty.str.pair ((i64T).pair ((i64T).pair ((i64T).pair (Ty.str.pair (((i64T).pair ((i64T).slice.pair ((i64T).slice.pair Ty.unit))).pair ((i64T).slice.pair Ty.unit))))))) 0 true [([97, 120, 105, 115], 2, 0, v, [], (0, [], [], PUnit.unit), [], PUnit.unit)]), (2, AObj.arr 9 Ty.str 0 false [[120], [121]])])
                                      else 
                                        bif okG v xd dt l 7 then some (AEnd.ret [(I 0).pr (AV.nils.pr ((AV.os 3 0).pr (AV.d Ty.unit PUnit.unit))), I 0], [(0, AObj.arr 25 ((i64T).pair ((i64T).slice.pair ((i64T).slice.pair Ty.unit))) 0 true [(t, xd, dt, PUnit.unit), (7, [m], l, PUnit.unit)]), (1, AObj.arr 37 (Ty.str.pair ((i64T).pair ((i64T).pair ((i64T).pair (Ty.str.pair (((i64T).pair ((i64T).slice.pair ((i64T).slice.pair Ty.unit))).pair ((i64T).slice.pair Ty.unit))))))) 0 true [([97, 120, 105, 115], 2, 0, v, [], (0, [], [], PUnit.unit), [], PUnit.unit)]), (2, AObj.arr 9 Ty.str 0 false [[120], [121]]), (3, AObj.arr 2 (i64T) 0 false dt)])
                                        else none
                                    else (app [] (v14.1 :: v14.2)).bind fun v18 =>
                                        bif okG v xd dt l 7 then some (AEnd.ret [(I t).pr ((AV.os 3 0).pr ((AV.os 4 0).pr (AV.d Ty.unit PUnit.unit))), I 0], [(0, AObj.arr 25 ((i64T).pair ((i64T).slice.pair ((i64T).slice.pair Ty.unit))) 0 true [(t, xd, dt, PUnit.unit), (7, [m], l, PUnit.unit)]), (1, AObj.arr 37 (Ty.str.pair ((i64T).pair ((i64T).pair ((i64T).pair (Ty.str.pair (((i64T).pair ((i64T).slice.pair ((i64T).slice.pair Ty.unit))).pair ((i64T).slice.pair Ty.unit))))))) 0 true [([97, 120, 105, 115], 2, 0, v, [], (0, [], [], PUnit.unit), [], PUnit.unit)]), (2, AObj.arr 9 Ty.str 0 false [[120], [121]]), (3, AObj.arr 3 (i64T) 0 false v18), (4, AObj.arr 2 (i64T) 0 false dt)])
                                        else none
                                  else none
                                else none
                    else some (AEnd.ret [(I 0).pr (AV.nils.pr (AV.nils.pr (AV.d Ty.unit PUnit.unit))), I 4], [(0, AObj.arr 25 ((i64T).pair ((i64T).slice.pair ((i64T).slice.pair Ty.unit))) 0 false [(t, xd, dt, PUnit.unit), (7, [m], l, PUnit.unit)]), (1, AObj.arr 37 (Ty.str.pair ((i64T).pair ((i64T).pair ((i64T).pair (Ty.str.pair (((i64T).pair ((i64T).slice.pair ((i64T).slice.pair Ty.unit))).pair ((i64T).slice.pair Ty.unit))))))) 0 true [([97, 120, 105, 115], 2, 0, v, [], (0, [], [], PUnit.unit), [], PUnit.unit)]), (2, AObj.arr 9 Ty.str 0 false [[120], [121]])])
                  else 
                    bif decide (IntKind.i64.wrap (0 - Int.ofNat xd.length) ≤ v) then 
                      bif !decide (v < Int.ofNat xd.length) then some (AEnd.ret [(I 0).pr (AV.nils.pr (AV.nils.pr (AV.d Ty.unit PUnit.unit))), I 4], [(0, AObj.arr 25 ((i64T).pair ((i64T).slice.pair ((i64T).slice.pair Ty.unit))) 0 false [(t, xd, dt, PUnit.unit), (7, [m], l, PUnit.unit)]), (1, AObj.arr 37 (Ty.str.pair ((i64T).pair ((i64T).pair ((i64T).pair (Ty.str.pair (((i64T).pair ((i64T).slice.pair ((i64T).slice.pair Ty.unit))).pair ((i64T).slice.pair Ty.unit))))))) 0 true [([97, 120, 105, 115], 2, 0, v, [], (0, [], [], PUnit.unit), [], PUnit.unit)]), (2, AObj.arr 9 Ty.str 0 false [[120], [121]])])
                      else 
                        bif decide (v < 0) then (if (0 : Int) ≤ 0 ∧ 0 ≤ IntKind.i64.wrap (v + Int.ofNat xd.length) ∧ IntKind.i64.wrap (v + Int.ofNat xd.length) ≤ Int.ofNat xd.length then some (List.drop 0 (List.take (IntKind.i64.wrap (v + Int.ofNat xd.length)).toNat xd)) else none).bind fun v12 =>
                            (if 0 ≤ IntKind.i64.wrap (IntKind.i64.wrap (v + Int.ofNat xd.length) + 1) ∧ IntKind.i64.wrap (IntKind.i64.wrap (v + Int.ofNat xd.length) + 1) ≤ Int.ofNat xd.length ∧ Int.ofNat xd.length ≤ Int.ofNat xd.length then some (List.drop (IntKind.i64.wrap (IntKind.i64.wrap (v + Int.ofNat xd.length) + 1)).toNat (List.take (Int.ofNat xd.length).toNat xd)) else none).bind fun v13 =>
                              (unc (v12 ++ [m] ++ v13)).bind fun v14 =>
                                bif decide (v12.length + 1 + v13.length ≤ 65536) then 
                                  bif decide ((v14.1 :: v14.2).length ≤ 9223372036854775807) then 
                                    bif countE (v14.1 :: v14.2) != 0 then 
                                      bif countE (v14.1 :: v14.2) != 0 then some (AEnd.ret [(I 0).pr (AV.nils.pr (AV.nils.pr (AV.d Ty.unit PUnit.unit))), I (countE (v14.1 :: v14.2))], [(0, AObj.arr 25 ((i64T).pair ((i64T).slice.pair ((i64T).slice.pair Ty.unit))) 0 false [(t, xd, dt, PUnit.unit), (7, [m], l, PUnit.unit)]), (1, AObj.arr 37 (Ty.str.pair ((i64T).pair ((i64T).pair ((i64T).pair (Ty.str.pair (((i64T).pair ((i64T).slice.pair ((i64T).slice.pair Ty.unit))).pair ((i64T).slice.pair Ty.unit))))))) 0 true [([97, 120, 105, 115], 2, 0, v, [], (0, [], [], PUnit.unit), [], PUnit.unit)]), (2, AObj.arr 9 Ty.str 0 false [[120], [121]])])
                                      else 
                                        bif okG v xd dt l 7 then some (AEnd.ret [(I 0).pr (AV.nils.pr ((AV.os 3 0).pr (AV.d Ty.unit PUnit.unit))), I 0], [(0, AObj.arr 25 ((i64T).pair ((i64T).slice.pair ((i64T).slice.pair Ty.unit))) 0 true [(t, xd, dt, PUnit.unit), (7, [m], l, PUnit.unit)]), (1, AObj.arr 37 (Ty.str.pair ((i64T).pair ((i64T).pair ((i64T).pair (Ty.str.pair (((i64T).pair ((i64T).slice.pair ((i64T).slice.pair Ty.unit))).pair ((i64T).slice.pair Ty.unit))))))) 0 true [([97, 120, 105, 115], 2, 0, v, [], (0, [], [], PUnit.unit), [], PUnit.unit)]), (2, AObj.arr 9 Ty.str 0 false [[120], [121]]), (3, AObj.arr 2 (i64T) 0 false dt)])
                                        else none
                                    else (app [] (v14.1 :: v14.2)).bind fun v18 =>
                                        bif okG v xd dt l 7 then some (AEnd.ret [(I t).pr ((AV.os 3 0).pr ((AV.os 4 0).pr (AV.d Ty.unit PUnit.unit))), I 0], [(0, AObj.arr 25 ((i64T).pair ((i64T).slice.pair ((i64T).slice.pair Ty.unit))) 0 true [(t, xd, dt, PUnit.unit), (7, [m], l, PUnit.unit)]), (1, AObj.arr 37 (Ty.str.pair ((i64T).pair ((i64T).pair ((i64T).pair (Ty.str.pair (((i64T).pair ((i64T).slice.pair ((i64T).slice.pair Ty.unit))).pair ((i64T).slice.pair Ty.unit))))))) 0 true [([97, 120, 105, 115], 2, 0, v, [], (0, [], [], PUnit.unit), [], PUnit.unit)]), (2, AObj.arr 9 Ty.str 0 false [[120], [121]]), (3, AObj.arr 3 (i64T) 0 false v18), (4, AObj.arr 2 (i64T) 0 false dt)])
                                        else none
                                  else none
                                else none
                        else (if (0 : Int) ≤ 0 ∧ 0 ≤ v ∧ v ≤ Int.ofNat xd.length then some (List.drop 0 (List.take v.toNat xd)) else none).bind fun v12 =>
                            (if 0 ≤ IntKind.i64.wrap (v + 1) ∧ IntKind.i64.wrap (v + 1) ≤ Int.ofNat xd.length ∧ Int.ofNat xd.length ≤ Int.ofNat xd.length then some (List.drop (IntKind.i64.wrap (v + 1)).toNat (List.take (Int.ofNat xd.length).toNat xd)) else none).bind fun v13 =>
                              (unc (v12 ++ [m] ++ v13)).bind fun v14 =>
                                bif decide (v12.length + 1 + v13.length ≤ 65536) then 
                                  bif decide ((v14.1 :: v14.2).length ≤ 9223372036854775807) then 
                                    bif countE (v14.1 :: v14.2) != 0 then 
                                      bif countE (v14.1 :: v14.2) != 0 then some (AEnd.ret [(I 0).pr (AV.nils.pr (AV.nils.pr (AV.d Ty.unit PUnit.unit))), I (countE (v14.1 :: v14.2))], [(0, AObj.arr 25 ((i64T).pair ((i64T).slice.pair ((i64T).slice.pair Ty.unit))) 0 false [(t, xd, dt, PUnit.unit), (7, [m], l, PUnit.unit)]), (1, AObj.arr 37 (Ty.str.pair ((i64T).pair ((i64T).pair ((i64T).pair (Ty.str.pair (((i64T).pair ((i64T).slice.pair ((i64T).slice.pair Ty.unit))).pair ((i64T).slice.pair Ty.unit))))))) 0 true [([97, 120, 105, 115], 2, 0, v, [], (0, [], [], PUnit.unit), [], PUnit.unit)]), (2, AObj.arr 9 Ty.str 0 false [[120], [121]])])
                                      else 
                                        bif okG v xd dt l 7 then some (AEnd.ret [(I 0).pr (AV.nils.pr ((AV.os 3 0).pr (AV.d Ty.unit PUnit.unit))), I 0], [(0, AObj.arr 25 ((i64T).pair ((i64T).slice.pair ((i64T).slice.pair Ty.unit))) 0 true [(t, xd, dt, PUnit.unit), (7, [m], l, PUnit.unit)]), (1, AObj.arr 37 (Ty.str.pair ((i64T).pair ((i64T).pair ((i64T).pair (Ty.str.pair (((i64T).pair ((i64T).slice.pair ((i64T).slice.pair Ty.unit))).pair ((i64T).slice.pair Ty.unit))))))) 0 true [([97, 120, 105, 115], 2, 0, v, [], (0, [], [], PUnit.unit), [], PUnit.unit)]), (2, AObj.arr 9 Ty.str 0 false [[120], [121]]), (3, AObj.arr 2 (i64T) 0 false dt)])
                                        else none
                                    else (app [] (v14.1 :: v14.2)).bind fun v18 =>
                                        bif okG v xd dt l 7 then some (AEnd.ret [(I t).pr ((AV.os 3 0).pr ((AV.os 4 0).pr (AV.d Ty.unit PUnit.unit))), I 0], [(0, AObj.arr 25 ((i64T).pair ((i64T).slice.pair ((i64T).slice.pair Ty.unit))) 0 true [(t, xd, dt, PUnit.unit), (7, [m], l, PUnit.unit)]), (1, AObj.arr 37 (Ty.str.pair ((i64T).pair ((i64T).pair ((i64T).pair (Ty.str.pair (((i64T).pair ((i64T).slice.pair ((i64T).slice.pair Ty.unit))).pair ((i64T).slice.pair Ty.unit))))))) 0 true [([97, 120, 105, 115], 2, 0, v, [], (0, [], [], PUnit.unit), [], PUnit.unit)]), (2, AObj.arr 9 Ty.str 0 false [[120], [121]]), (3, AObj.arr 3 (i64T) 0 false v18), (4, AObj.arr 2 (i64T) 0 false dt)])
                                        else none
                                  else none
                                else none
                    else some (AEnd.ret [(I 0).pr (AV.nils.pr (AV.nils.pr (AV.d Ty.unit PUnit.unit))), I 4], [(0, AObj.arr 25 ((i64T).pair ((i64T).slice.pair ((i64T).slice.pair Ty.unit))) 0 false [(t, xd, dt, PUnit.unit), (7, [m], l, PUnit.unit)]), (1, AObj.arr 37 (Ty.str.pair ((i64T).pair ((i64T).pair ((i64T).pair (Ty.str.pair (((i64T).pair ((i64T).slice.pair ((i64T).slice.pair Ty.unit))).pair ((i64T).slice.pair Ty.unit))))))) 0 true [([97, 120, 105, 115], 2, 0, v, [], (0, [], [], PUnit.unit), [], PUnit.unit)]), (2, AObj.arr 9 Ty.str 0 false [[120], [121]])])
            else none
      else none
  else none := by kernel_rfl
end Go.Proofs.XGT
/- move.Do of a Gather by all places: what it answers. -/
namespace Go.Proofs.XGT
open Go.Vm Go
set_option maxRecDepth 100000
set_option maxHeartbeats 4000000
def zeroTM : AV := .pr (I 0) (.pr .nils (.pr .nils (.d .unit ())))
def okMD (v t m : Int) (xd dt l : List Int) : AEnd × LHp := (.ret [.pr (I t) (.pr (.os 3 0) (.pr (.os 4 0) (.d .unit ()))), I 0], hpMD true true v t m xd dt l ++ [(3, .arr 3 i64T 0 false xd), (4, .arr 2 i64T 0 false dt)])
theorem ten_range {m : Int} (h1 : 1 ≤ m) (h2 : m ≤ 2000) : tenE 7 [m] (rangeI m.toNat) = 0 := by
  have hc : countE [m] = 0 := by
    unfold countE bigI
    rw [idxP_ge, List.any_eq_false.2 (fun x hx => by have : x = m := by simpa using hx
                                                     subst this; simp only [decide_eq_true_eq]; omega), decide_eq_false (show ¬ (Int.ofNat [m].length > 6) from (by decide : ¬ (Int.ofNat 1 > 6))), decide_eq_false (show ¬ (prodI [m] > 65536) by rw [prodI_cons]; simp [prodI]; omega)]
    rfl
  have hN : countN [m] = m := by
    rw [countN_mk (fun x hx => by have : x = m := by simpa using hx
                                  omega) (by simp) (by rw [prodI_cons]; simp [prodI]; omega), prodI_cons]
    simp [prodI]
  have e : ∀ x, numOk 7 x = true := fun x => rfl
  unfold tenE
  rw [e, hc, hN, show (Int.ofNat (rangeI m.toNat).length != m) = false by rw [rangeI_length]; simp only [Int.ofNat_eq_natCast, bne_eq_false_iff_eq]; omega, List.any_eq_false.2 (fun x _ => by rw [e]; simp)]
  rfl
theorem unc_some {xs : List Int} {a : Int} {b : List Int} (h : xs = a :: b) : unc xs = some (a, b) := by subst h; rfl
theorem mdo_run {v t : Int} {xd dt : List Int} (l1 : xd.length ≤ maxLen) (l2 : dt.length ≤ maxLen) (h0 : 0 ≤ axisI v xd.length) (hA : (axisI v xd.length).toNat < xd.length) (hm1 : 1 ≤ xd.getD (axisI v xd.length).toNat 0) (hm2 : xd.getD (axisI v xd.length).toNat 0 ≤ 2000) :
    runC gMD Tryz.f27 7 [] [nodeA strGA [] [122] (.os 2 0) (.os 1 0), .os 0 0] (hpMD false false v t (xd.getD (axisI v xd.length).toNat 0) xd dt (rangeI (xd.getD (axisI v xd.length).toNat 0).toNat)) ah =
    bif tenE t xd dt != 0 then some (.ret [zeroTM, I 1], hpMD false false v t (xd.getD (axisI v xd.length).toNat 0) xd dt (rangeI (xd.getD (axisI v xd.length).toNat 0).toNat)) else some (okMD v t (xd.getD (axisI v xd.length).toNat 0) xd dt (rangeI (xd.getD (axisI v xd.length).toNat 0).toNat)) := by
  have htr := ten_range hm1 hm2
  have hl : (rangeI (xd.getD (axisI v xd.length).toNat 0).toNat).length ≤ 9223372036854775807 := by rw [rangeI_length]; omega
  refine (mdo_eq v t (xd.getD (axisI v xd.length).toNat 0) xd dt (rangeI (xd.getD (axisI v xd.length).toNat 0).toNat)).trans ?_
  rw [decide_eq_true (show xd.length ≤ 9223372036854775807 ∧ dt.length ≤ 9223372036854775807 from ⟨l1, l2⟩), decide_eq_true (show 1 ≤ 9223372036854775807 ∧ (rangeI (xd.getD (axisI v xd.length).toNat 0).toNat).length ≤ 9223372036854775807 from ⟨by decide, hl⟩), decide_eq_true (show xd.length ≤ 9223372036854775807 from l1)]
  simp only [cond_true]
  cases ht : tenE t xd dt != 0 with
  | true => rfl
  | false =>
    obtain ⟨n0, n1, n2, n3⟩ := ten_ok (by simpa using ht)
    obtain ⟨p1, p2, p3, p4⟩ := count_ok n1
    have hok : okG v xd dt (rangeI (xd.getD (axisI v xd.length).toNat 0).toNat) 7 = true := by
      unfold okG
      rw [decide_eq_true h0, decide_eq_true hA, decide_eq_true n1, decide_eq_true n2, decide_eq_true (rfl : rangeI (xd.getD (axisI v xd.length).toNat 0).toNat = _)]
      rfl
    obtain ⟨k0, k1, k2, k3⟩ := ten_ok htr
    rw [htr, n0, n1, k1, hok]
    generalize hAx : (axisI v xd.length).toNat = A at *
    have hd : xd[A]? = some xd[A] := List.getElem?_eq_getElem hA
    have hD : xd.getD A 0 = xd[A] := by rw [List.getD_eq_getElem?_getD, hd]; rfl
    have hsp : List.take A xd ++ [xd[A]] ++ List.drop (A + 1) xd = xd := by
      rw [List.append_assoc, List.singleton_append, ← List.drop_eq_getElem_cons hA, List.take_append_drop]
    obtain ⟨a, b, hab⟩ := cons_of xd (by omega)
    have hu : unc (List.take A xd ++ [xd[A]] ++ List.drop (A + 1) xd) = some (a, b) := unc_some (hsp.trans hab)
    have hlen : (List.take A xd).length + 1 + (List.drop (A + 1) xd).length ≤ 65536 := by rw [List.length_take, List.length_drop]; omega
    have happ : app ([] : List Int) (a :: b) = some (a :: b) := by rw [app_someM (by rw [← hab]; unfold lim; simp; omega)]; rfl
    have c1 : (0 : Int) ≤ 0 ∧ 0 ≤ (A : Int) ∧ (A : Int) ≤ Int.ofNat xd.length := ⟨Int.le_refl _, by omega, by simp only [Int.ofNat_eq_natCast]; omega⟩
    have c2 : 0 ≤ ((A + 1 : Nat) : Int) ∧ ((A + 1 : Nat) : Int) ≤ Int.ofNat xd.length ∧ Int.ofNat xd.length ≤ Int.ofNat xd.length := ⟨by omega, by simp only [Int.ofNat_eq_natCast]; omega, Int.le_refl _⟩
    have w0 : IntKind.i64.wrap (0 - Int.ofNat xd.length) = -(xd.length : Int) := by
      rw [wrap64 (by simp only [Int.ofNat_eq_natCast]; omega) (by simp only [Int.ofNat_eq_natCast]; omega)]
      simp only [Int.ofNat_eq_natCast]; omega
    have hA1 : IntKind.i64.wrap ((A : Int) + 1) = ((A + 1 : Nat) : Int) := by rw [wrap64 (by omega) (by omega)]; omega
    have hb1 : (a :: b).length ≤ 9223372036854775807 := by rw [← hab]; exact l1
    have hcE : countE (a :: b) = 0 := by rw [← hab]; exact n1
    simp only [Bool.not_true, cond_false, cond_true, bne_self_eq_false, w0]
    unfold axisI at h0 hAx
    by_cases hv : v < 0
    · rw [decide_eq_true hv] at h0 hAx
      simp only [cond_true] at h0 hAx
      have hw : IntKind.i64.wrap (v + Int.ofNat xd.length) = (A : Int) := by
        rw [show Int.ofNat xd.length = (xd.length : Int) from rfl, wrap64 (by omega) (by omega)]
        omega
      simp only [decide_eq_true (show -(xd.length : Int) ≤ v by omega), decide_eq_true (show v < Int.ofNat xd.length by simp only [Int.ofNat_eq_natCast]; omega), decide_eq_true hv, cond_true, Bool.not_true, cond_false, hw, hA1, if_pos c1, if_pos c2, Option.bind_some, Int.toNat_natCast, List.drop_zero, show (Int.ofNat xd.length).toNat = xd.length from rfl, List.take_length, hD, hu, decide_eq_true hlen, decide_eq_true hb1, hcE, bne_self_eq_false, happ]
      rw [← hab]
      cases t == 6 <;> rfl
    · rw [decide_eq_false hv] at h0 hAx
      simp only [cond_false] at h0 hAx
      have hw : v = (A : Int) := by omega
      subst hw
      simp only [decide_eq_true (show -(xd.length : Int) ≤ (A : Int) by omega), decide_eq_true (show (A : Int) < Int.ofNat xd.length by simp only [Int.ofNat_eq_natCast]; omega), decide_eq_false hv, cond_true, Bool.not_true, cond_false, hA1, if_pos c1, if_pos c2, Option.bind_some, Int.toNat_natCast, List.drop_zero, show (Int.ofNat xd.length).toNat = xd.length from rfl, List.take_length, hD, hu, decide_eq_true hlen, decide_eq_true hb1, hcE, bne_self_eq_false, happ]
      rw [← hab]
      cases t == 6 <;> rfl
end Go.Proofs.XGT
