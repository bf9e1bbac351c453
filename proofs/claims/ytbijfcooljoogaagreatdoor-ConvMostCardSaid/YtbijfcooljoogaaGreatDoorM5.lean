/- The order of Floats is the order of their rungs; what the greater of two is. -/
import Derived.Test.YtbijfcooljoogaaGreatDoorM2
import Derived.Test.YtbijfcooljoogaaGreatDoorM4

namespace Go.Proofs.XGT
open Go.Vm Go
set_option maxRecDepth 100000
set_option maxHeartbeats 400000
def vR (r : Nat) : Nat := if r < 8388608 then r else (8388608 + r % 8388608) * 2 ^ (r / 8388608 - 1)
theorem vR_step (r : Nat) : vR r < vR (r + 1) := by
  unfold vR
  by_cases h1 : r + 1 < 8388608
  · rw [if_pos (by omega), if_pos h1]; omega
  · by_cases h2 : r < 8388608
    · have : r + 1 = 8388608 := by omega
      rw [if_pos h2, if_neg h1, this]
      show r < (8388608 + 8388608 % 8388608) * 2 ^ (8388608 / 8388608 - 1)
      simp
      omega
    · rw [if_neg h2, if_neg h1]
      have hq : 1 ≤ r / 8388608 := by omega
      by_cases h3 : r % 8388608 + 1 < 8388608
      · have e1 : (r + 1) / 8388608 = r / 8388608 := by omega
        have e2 : (r + 1) % 8388608 = r % 8388608 + 1 := by omega
        rw [e1, e2]
        exact Nat.mul_lt_mul_of_pos_right (by omega) (Nat.pow_pos (by decide))
      · have e1 : (r + 1) / 8388608 - 1 = (r / 8388608 - 1) + 1 := by omega
        have e2 : (r + 1) % 8388608 = 0 := by omega
        rw [e1, e2, Nat.pow_succ]
        have hp : 0 < 2 ^ (r / 8388608 - 1) := Nat.pow_pos (by decide)
        generalize 2 ^ (r / 8388608 - 1) = P at *
        have : (8388608 + r % 8388608) * P < (8388608 * 2) * P := Nat.mul_lt_mul_of_pos_right (by omega) hp
        have e3 : (8388608 + 0) * (P * 2) = (8388608 * 2) * P := by rw [Nat.add_zero, Nat.mul_comm P 2, Nat.mul_assoc]
        omega
theorem vR_mono {r s : Nat} (h : r < s) : vR r < vR s := by
  induction s with
  | zero => omega
  | succ s ih =>
    have := vR_step s
    by_cases hrs : r = s
    · subst hrs; exact this
    · have := ih (by omega); omega
theorem vR_zero : vR 0 = 0 := rfl
def ordK (a b : Int) : Ordering := if a < b then .lt else if a = b then .eq else .gt
theorem compare_int (a b : Int) : compare a b = ordK a b := rfl
theorem ordK_mul {a b c : Int} (h : 0 < c) : ordK (a * c) (b * c) = ordK a b := by
  unfold ordK
  have h1 : a * c < b * c ↔ a < b := Int.mul_lt_mul_right h
  have h2 : a * c = b * c ↔ a = b := Int.mul_eq_mul_right_iff (by omega)
  simp only [h1, h2]
def sgV (s : Bool) (n : Nat) : Int := bif s then -(n : Int) else n
theorem signed_sg (s : Bool) (m up : Nat) : Ieee.signed s m up = sgV s (m * 2 ^ up) := by
  unfold Ieee.signed sgV
  cases s <;> simp [Nat.shiftLeft_eq]
theorem sgV_mul (s : Bool) (n c : Nat) : sgV s (n * c) = sgV s n * c := by
  cases s <;> simp [sgV, Int.neg_mul]
theorem order_num (s t : Bool) (m n d e : Nat) : (Ieee.Datum.number s m (-149 + (d : Int))).order (.number t n (-149 + (e : Int))) = some (ordK (sgV s (m * 2 ^ d)) (sgV t (n * 2 ^ e))) := by
  unfold Ieee.Datum.order
  simp only [signed_sg, compare_int]
  congr 1
  have h1 : (-149 + (d : Int) - min (-149 + (d : Int)) (-149 + (e : Int))).toNat = d - min d e := by omega
  have h2 : (-149 + (e : Int) - min (-149 + (d : Int)) (-149 + (e : Int))).toNat = e - min d e := by omega
  rw [h1, h2]
  have hc : (0 : Int) < ((2 ^ min d e : Nat) : Int) := by
    have : 0 < 2 ^ min d e := Nat.pow_pos (by decide)
    omega
  rw [← ordK_mul hc, ← sgV_mul, ← sgV_mul, Nat.mul_assoc, Nat.mul_assoc, ← Nat.pow_add, ← Nat.pow_add, show d - min d e + min d e = d by omega, show e - min d e + min d e = e by omega]
/-- a word's sign and rung -/
def negW (x : Nat) : Bool := x / 2147483648 % 2 == 1
def rungW (x : Nat) : Nat := x % 2147483648
def keyW (x : Nat) : Int := sgV (negW x) (rungW x)
theorem read_low {x : Nat} (h : rungW x < 8388608) : FloatKind.f32.format.read x = .number (negW x) (rungW x) (-149 + ((0 : Nat) : Int)) := by
  show (if rungW x < 8388608 then _ else _) = _
  rw [if_pos h]
  rfl
theorem read_mid {x : Nat} (h : ¬ rungW x < 8388608) (h2 : rungW x < 2139095040) : FloatKind.f32.format.read x = .number (negW x) (8388608 + rungW x % 8388608) (-149 + ((rungW x / 8388608 - 1 : Nat) : Int)) := by
  show (if rungW x < 8388608 then _ else if rungW x < 2139095040 then _ else _) = _
  rw [if_neg h, if_pos h2]
  rfl
theorem read_inf {x : Nat} (h : rungW x = 2139095040) : FloatKind.f32.format.read x = .infinity (negW x) := by
  show (if rungW x < 8388608 then _ else if rungW x < 2139095040 then _ else if rungW x = 2139095040 then _ else _) = _
  rw [if_neg (by omega), if_neg (by omega), if_pos h]
  rfl
theorem read_nan {x : Nat} (h : 2139095040 < rungW x) : (FloatKind.f32.format.read x).isNaN = true := by
  show (if rungW x < 8388608 then _ else if rungW x < 2139095040 then _ else if rungW x = 2139095040 then _ else _ : Ieee.Datum).isNaN = true
  rw [if_neg (by omega), if_neg (by omega), if_neg (by omega)]
  rfl
theorem read_num {x : Nat} (h : rungW x < 2139095040) : ∃ m d, FloatKind.f32.format.read x = .number (negW x) m (-149 + (d : Nat)) ∧ m * 2 ^ d = vR (rungW x) := by
  by_cases h1 : rungW x < 8388608
  · exact ⟨_, 0, read_low h1, by simp [vR, h1]⟩
  · exact ⟨_, _, read_mid h1 h, by simp [vR, h1]⟩
theorem ordK_congr {a b a' b' : Int} (h1 : a < b ↔ a' < b') (h2 : a = b ↔ a' = b') : ordK a b = ordK a' b' := by
  unfold ordK
  simp only [h1, h2]
theorem ordK_lt {a b : Int} (h : a < b) : ordK a b = .lt := by unfold ordK; rw [if_pos h]
theorem ordK_gt {a b : Int} (h : b < a) : ordK a b = .gt := by unfold ordK; rw [if_neg (by omega), if_neg (by omega)]
theorem sgV_le (s : Bool) (r : Nat) : sgV s r ≤ r ∧ -(r : Int) ≤ sgV s r := by cases s <;> simp [sgV] <;> omega
theorem ordK_key (s t : Bool) {r r' : Nat} : ordK (sgV s (vR r)) (sgV t (vR r')) = ordK (sgV s r) (sgV t r') := by
  have h0 := vR_zero
  have key : (vR r < vR r' ↔ r < r') ∧ (vR r = vR r' ↔ r = r') := by
    rcases Nat.lt_trichotomy r r' with h | h | h
    · have := vR_mono h; omega
    · subst h; omega
    · have := vR_mono h; omega
  have k1 : vR r = 0 ↔ r = 0 := by
    rcases Nat.eq_zero_or_pos r with h | h
    · subst h; omega
    · have := vR_mono h; omega
  have k2 : vR r' = 0 ↔ r' = 0 := by
    rcases Nat.eq_zero_or_pos r' with h | h
    · subst h; omega
    · have := vR_mono h; omega
  obtain ⟨g1, g2⟩ := key
  generalize vR r = a at *
  generalize vR r' = b at *
  cases s <;> cases t <;> simp only [sgV, cond_true, cond_false] <;> exact ordK_congr (by omega) (by omega)
/-- the order of words that are no NaNs -/
theorem ord_key {x y : Nat} (hx : rungW x ≤ 2139095040) (hy : rungW y ≤ 2139095040) : (FloatKind.f32.format.read x).order (FloatKind.f32.format.read y) = some (ordK (keyW x) (keyW y)) := by
  unfold keyW
  by_cases h1 : rungW x < 2139095040
  · obtain ⟨m, d, e1, e2⟩ := read_num h1
    by_cases h2 : rungW y < 2139095040
    · obtain ⟨n, e, f1, f2⟩ := read_num h2
      rw [e1, f1, order_num, e2, f2, ordK_key]
    · have h2 : rungW y = 2139095040 := by omega
      rw [e1, read_inf h2, h2]
      have hb := sgV_le (negW x) (rungW x)
      cases negW y with
      | false => rw [ordK_lt (by show _ < ((2139095040 : Nat) : Int); omega)]; rfl
      | true => rw [ordK_gt (by show -((2139095040 : Nat) : Int) < _; omega)]; rfl
  · have h1 : rungW x = 2139095040 := by omega
    by_cases h2 : rungW y < 2139095040
    · obtain ⟨n, e, f1, f2⟩ := read_num h2
      rw [f1, read_inf h1, h1]
      have hb := sgV_le (negW y) (rungW y)
      cases negW x with
      | false => rw [ordK_gt (by show _ < ((2139095040 : Nat) : Int); omega)]; rfl
      | true => rw [ordK_lt (by show -((2139095040 : Nat) : Int) < _; omega)]; rfl
    · have h2 : rungW y = 2139095040 := by omega
      rw [read_inf h1, read_inf h2, h1, h2]
      cases negW x <;> cases negW y <;> decide
end Go.Proofs.XGT
/- num.Binary's Less; conv.Do of a MaxPool whose tensor has not four dims. -/
namespace Go.Proofs.XGT
open Go.Vm Go
set_option maxRecDepth 100000
set_option maxHeartbeats 4000000
noncomputable def C_bin : Code := codeOf Tryz.f19
noncomputable def cf_bin : Cfg := ⟨67, 7, 0, [], true⟩
theorem less_eq (x y : Int) : runC g66 Tryz.f19 7 [] [.d .str [76, 101, 115, 115], I 1, I x, I y] [] ah =
  bif !numOk 1 x then some (AEnd.ret [I 0, I 1], [])
  else 
    bif !numOk 1 y then some (AEnd.ret [I 0, I 1], [])
    else 
      bif (FloatKind.f32.format.read (canonF FloatKind.f32 (IntKind.u32.wrap x).toNat)).order (FloatKind.f32.format.read (canonF FloatKind.f32 (IntKind.u32.wrap x).toNat)) != some Ordering.eq then 
        bif (FloatKind.f32.format.read (canonF FloatKind.f32 (IntKind.u32.wrap x).toNat)).order (FloatKind.f32.format.read (canonF FloatKind.f32 (IntKind.u32.wrap y).toNat)) == some Ordering.lt then some (AEnd.ret [I 1, I 0], [])
        else some (AEnd.ret [I 0, I 0], [])
      else 
        bif (FloatKind.f32.format.read (canonF FloatKind.f32 (IntKind.u32.wrap x).toNat)).order (FloatKind.f32.format.read (canonF FloatKind.f32 (IntKind.u32.wrap y).toNat)) == some Ordering.lt then some (AEnd.ret [I 1, I 0], [])
        else some (AEnd.ret [I 0, I 0], []) := by kernel_rfl
noncomputable def C_domx : Code := codeOf Tryz.f17
noncomputable def cf_domx : Cfg := ⟨90, 7, 3, [], true⟩
theorem domx_eq (t p q : Int) (xd dt : List Int) : runC gD Tryz.f17 7 [] [nodeA strMP [] [122] (.os 2 0) (.os 1 0), .os 0 0] (hpDA false false t xd dt [p, q]) ah =
  bif decide (xd.length ≤ 9223372036854775807 ∧ dt.length ≤ 9223372036854775807) then 
    bif tenE t xd dt != 0 then some (AEnd.ret [(I 0).pr (AV.nils.pr (AV.nils.pr (AV.d Ty.unit PUnit.unit))), I 1], [(0, AObj.arr 25 ((i64T).pair ((i64T).slice.pair ((i64T).slice.pair Ty.unit))) 0 false [(t, xd, dt, PUnit.unit)]), (1, AObj.arr 37 (Ty.str.pair ((i64T).pair ((i64T).pair ((i64T).pair (Ty.str.pair (((i64T).pair ((i64T).slice.pair ((i64T).slice.pair Ty.unit))).pair ((i64T).slice.pair Ty.unit))))))) 0 false [([107, 101, 114, 110, 101, 108, 95, 115, 104, 97, 112, 101], 7, 0, 0, [], (0, [], [], PUnit.unit), [p, q], PUnit.unit)]), (2, AObj.arr 9 Ty.str 0 false [[120]])])
    else 
      bif !numOk t 0 then some (AEnd.ret [(I 0).pr (AV.nils.pr (AV.nils.pr (AV.d Ty.unit PUnit.unit))), I 5], [(0, AObj.arr 25 ((i64T).pair ((i64T).slice.pair ((i64T).slice.pair Ty.unit))) 0 false [(t, xd, dt, PUnit.unit)]), (1, AObj.arr 37 (Ty.str.pair ((i64T).pair ((i64T).pair ((i64T).pair (Ty.str.pair (((i64T).pair ((i64T).slice.pair ((i64T).slice.pair Ty.unit))).pair ((i64T).slice.pair Ty.unit))))))) 0 true [([107, 101, 114, 110, 101, 108, 95, 115, 104, 97, 112, 101], 7, 0, 0, [], (0, [], [], PUnit.unit), [p, q], PUnit.unit)]), (2, AObj.arr 9 Ty.str 0 false [[120]])])
      else 
        bif decide (xd.length ≤ 9223372036854775807) then 
          bif countE xd != 0 then 
            bif countE xd != 0 then some (AEnd.ret [(I 0).pr (AV.nils.pr (AV.nils.pr (AV.d Ty.unit PUnit.unit))), I (countE xd)], [(0, AObj.arr 25 ((i64T).pair ((i64T).slice.pair ((i64T).slice.pair Ty.unit))) 0 false [(t, xd, dt, PUnit.unit)]), (1, AObj.arr 37 (Ty.str.pair ((i64T).pair ((i64T).pair ((i64T).pair (Ty.str.pair (((i64T).pair ((i64T).slice.pair ((i64T).slice.pair Ty.unit))).pair ((i64T).slice.pair Ty.unit))))))) 0 true [([107, 101, 114, 110, 101, 108, 95, 115, 104, 97, 112, 101], 7, 0, 0, [], (0, [], [], PUnit.unit), [p, q], PUnit.unit)]), (2, AObj.arr 9 Ty.str 0 false [[120]])])
            else (idx xd 2).bind fun v6 =>
                (idx xd 3).bind fun v7 =>
                  (idx xd 0).bind fun v8 =>
                    (idx xd 1).bind fun v9 =>
                      (idx xd 2).bind fun v10 =>
                        (idx xd 3).bind fun v11 =>
                          none
          else 
            bif t == 6 then 
              bif t != 1 then some (AEnd.ret [(I 0).pr (AV.nils.pr (AV.nils.pr (AV.d Ty.unit PUnit.unit))), I 4], [(0, AObj.arr 25 ((i64T).pair ((i64T).slice.pair ((i64T).slice.pair Ty.unit))) 0 false [(t, xd, dt, PUnit.unit)]), (1, AObj.arr 37 (Ty.str.pair ((i64T).pair ((i64T).pair ((i64T).pair (Ty.str.pair (((i64T).pair ((i64T).slice.pair ((i64T).slice.pair Ty.unit))).pair ((i64T).slice.pair Ty.unit))))))) 0 true [([107, 101, 114, 110, 101, 108, 95, 115, 104, 97, 112, 101], 7, 0, 0, [], (0, [], [], PUnit.unit), [p, q], PUnit.unit)]), (2, AObj.arr 9 Ty.str 0 false [[120]])])
              else 
                bif decide (1 ≤ p) then 
                  bif !decide (p ≤ 100) then some (AEnd.ret [(I 0).pr (AV.nils.pr (AV.nils.pr (AV.d Ty.unit PUnit.unit))), I 4], [(0, AObj.arr 25 ((i64T).pair ((i64T).slice.pair ((i64T).slice.pair Ty.unit))) 0 false [(t, xd, dt, PUnit.unit)]), (1, AObj.arr 37 (Ty.str.pair ((i64T).pair ((i64T).pair ((i64T).pair (Ty.str.pair (((i64T).pair ((i64T).slice.pair ((i64T).slice.pair Ty.unit))).pair ((i64T).slice.pair Ty.unit))))))) 0 true [([107, 101, 114, 110, 101, 108, 95, 115, 104, 97, 112, 101], 7, 0, 0, [], (0, [], [], PUnit.unit), [p, q], PUnit.unit)]), (2, AObj.arr 9 Ty.str 0 false [[120]])])
                  else 
                    bif decide (1 ≤ q) then 
                      bif !decide (q ≤ 100) then some (AEnd.ret [(I 0).pr (AV.nils.pr (AV.nils.pr (AV.d Ty.unit PUnit.unit))), I 4], [(0, AObj.arr 25 ((i64T).pair ((i64T).slice.pair ((i64T).slice.pair Ty.unit))) 0 false [(t, xd, dt, PUnit.unit)]), (1, AObj.arr 37 (Ty.str.pair ((i64T).pair ((i64T).pair ((i64T).pair (Ty.str.pair (((i64T).pair ((i64T).slice.pair ((i64T).slice.pair Ty.unit))).pair ((i64T).slice.pair Ty.unit))))))) 0 true [([107, 101, 114, 110, 101, 108, 95, 115, 104, 97, 112, 101], 7, 0, 0, [], (0, [], [], PUnit.unit), [p, q], PUnit.unit)]), (2, AObj.arr 9 Ty.str 0 false [[120]])])
                      else 
                        bif !Int.ofNat xd.length == 4 then some (AEnd.ret [(I 0).pr (AV.nils.pr (AV.nils.pr (AV.d Ty.unit PUnit.unit))), I 4], [(0, AObj.arr 25 ((i64T).pair ((i64T).slice.pair ((i64T).slice.pair Ty.unit))) 0 false [(t, xd, dt, PUnit.unit)]), (1, AObj.arr 37 (Ty.str.pair ((i64T).pair ((i64T).pair ((i64T).pair (Ty.str.pair (((i64T).pair ((i64T).slice.pair ((i64T).slice.pair Ty.unit))).pair ((i64T).slice.pair Ty.unit))))))) 0 true [([107, 101, 114, 110, 101, 108, 95, 115, 104, 97, 112, 101], 7, 0, 0, [], (0, [], [], PUnit.unit), [p, q], PUnit.unit)]), (2, AObj.arr 9 Ty.str 0 false [[120]])])
                        else (idx xd 2).bind fun v12 =>
                            bif !decide (IntKind.i64.wrap (IntKind.i64.wrap (IntKind.i64.wrap (IntKind.i64.wrap (v12 + 0) + 0) - IntKind.i64.wrap (1 * IntKind.i64.wrap (p - 1))) - 1) ≥ 0) then some (AEnd.ret [(I 0).pr (AV.nils.pr (AV.nils.pr (AV.d Ty.unit PUnit.unit))), I 4], [(0, AObj.arr 25 ((i64T).pair ((i64T).slice.pair ((i64T).slice.pair Ty.unit))) 0 false [(t, xd, dt, PUnit.unit)]), (1, AObj.arr 37 (Ty.str.pair ((i64T).pair ((i64T).pair ((i64T).pair (Ty.str.pair (((i64T).pair ((i64T).slice.pair ((i64T).slice.pair Ty.unit))).pair ((i64T).slice.pair Ty.unit))))))) 0 true [([107, 101, 114, 110, 101, 108, 95, 115, 104, 97, 112, 101], 7, 0, 0, [], (0, [], [], PUnit.unit), [p, q], PUnit.unit)]), (2, AObj.arr 9 Ty.str 0 false [[120]])])
                            else (idx xd 3).bind fun v14 =>
                                bif !decide (IntKind.i64.wrap (IntKind.i64.wrap (IntKind.i64.wrap (IntKind.i64.wrap (v14 + 0) + 0) - IntKind.i64.wrap (1 * IntKind.i64.wrap (q - 1))) - 1) ≥ 0) then some (AEnd.ret [(I 0).pr (AV.nils.pr (AV.nils.pr (AV.d Ty.unit PUnit.unit))), I 4], [(0, AObj.arr 25 ((i64T).pair ((i64T).slice.pair ((i64T).slice.pair Ty.unit))) 0 false [(t, xd, dt, PUnit.unit)]), (1, AObj.arr 37 (Ty.str.pair ((i64T).pair ((i64T).pair ((i64T).pair (Ty.str.pair (((i64T).pair ((i64T).slice.pair ((i64T).slice.pair Ty.unit))).pair ((i64T).slice.pair Ty.unit))))))) 0 true [([107, 101, 114, 110, 101, 108, 95, 115, 104, 97, 112, 101], 7, 0, 0, [], (0, [], [], PUnit.unit), [p, q], PUnit.unit)]), (2, AObj.arr 9 Ty.str 0 false [[120]])])
                                else (idx xd 0).bind fun v16 =>
                                    (idx xd 1).bind fun v17 =>
                                      bif countE [v16, v17, IntKind.i64.wrap (IntKind.i64.wrap ((IntKind.i64.wrap (IntKind.i64.wrap (IntKind.i64.wrap (IntKind.i64.wrap (v12 + 0) + 0) - IntKind.i64.wrap (1 * IntKind.i64.wrap (p - 1))) - 1)).tdiv 1) + 1), IntKind.i64.wrap (IntKind.i64.wrap ((IntKind.i64.wrap (IntKind.i64.wrap (IntKind.i64.wrap (IntKind.i64.wrap (v14 + 0) + 0) - IntKind.i64.wrap (1 * IntKind.i64.wrap (q - 1))) - 1)).tdiv 1) + 1)] != 0 then 
                                        bif countE [v16, v17, IntKind.i64.wrap (IntKind.i64.wrap ((IntKind.i64.wrap (IntKind.i64.wrap (IntKind.i64.wrap (IntKind.i64.wrap (v12 + 0) + 0) - IntKind.i64.wrap (1 * IntKind.i64.wrap (p - 1))) - 1)).tdiv 1) + 1), IntKind.i64.wrap (IntKind.i64.wrap ((IntKind.i64.wrap (IntKind.i64.wrap (IntKind.i64.wrap (IntKind.i64.wrap (v14 + 0) + 0) - IntKind.i64.wrap (1 * IntKind.i64.wrap (q - 1))) - 1)).tdiv 1) + 1)] != 0 then some (AEnd.ret [(I 0).pr (AV.nils.pr (AV.nils.pr (AV.d Ty.unit PUnit.unit))), I (countE [v16, v17, IntKind.i64.wrap (IntKind.i64.wrap ((IntKind.i64.wrap (IntKind.i64.wrap (IntKind.i64.wrap (IntKind.i64.wrap (v12 + 0) + 0) - IntKind.i64.wrap (1 * IntKind.i64.wrap (p - 1))) - 1)).tdiv 1) + 1), IntKind.i64.wrap (IntKind.i64.wrap ((IntKind.i64.wrap (IntKind.i64.wrap (IntKind.i64.wrap (IntKind.i64.wrap (v14 + 0) + 0) - IntKind.i64.wrap (1 * IntKind.i64.wrap (q - 1))) - 1)).tdiv 1) + 1)])], [(0, AObj.arr 25 ((i64T).pair ((i64T).slice.pair ((i64T).slice.pair Ty.unit))) 0 false [(t, xd, dt, PUnit.unit)]), (1, AObj.arr 37 (Ty.str.pair ((i64T).pair ((i64T).pair ((i64T).pair (Ty.str.pair (((i64T).pair ((i64T).slice.pair ((i64T).slice.pair Ty.unit))).pair ((i64T).slice.pair Ty.unit))))))) 0 true [([107, 101, 114, 110, 101, 108, 95, 115, 104, 97, 112, 101], 7, 0, 0, [], (0, [], [], PUnit.unit), [p, q], PUnit.unit)]), (2, AObj.arr 9 Ty.str 0 false [[120]])])
                                        else (idx xd 2).bind fun v20 =>
                                            (idx xd 3).bind fun v21 =>
                                              (idx xd 0).bind fun v22 =>
                                                (idx xd 1).bind fun v23 =>
                                                  (idx xd 2).bind fun v24 =>
                                                    (idx xd 3).bind fun v25 =>
                                                      none
                                      else (idx xd 2).bind fun v19 =>
                                          (idx xd 3).bind fun v20 =>
                                            (idx xd 0).bind fun v21 =>
                                              (idx xd 1).bind fun v22 =>
                                                (idx xd 2).bind fun v23 =>
                                                  (idx xd 3).bind fun v24 =>
                                                    bif decide (1 ≤ v19 ∧ 1 ≤ v20 ∧ 1 ≤ IntKind.i64.wrap (v21 * v22) ∧ 0 ≤ p ∧ 0 ≤ q ∧ IntKind.i64.wrap (v23 * v24) = v19 * v20 ∧ Int.ofNat dt.length = IntKind.i64.wrap (v21 * v22) * (v19 * v20) ∧ IntKind.i64.wrap (v21 * v22) * (v19 * v20) ≤ 65536 ∧ 1 ≤ IntKind.i64.wrap (IntKind.i64.wrap ((IntKind.i64.wrap (IntKind.i64.wrap (IntKind.i64.wrap (IntKind.i64.wrap (v12 + 0) + 0) - IntKind.i64.wrap (1 * IntKind.i64.wrap (p - 1))) - 1)).tdiv 1) + 1) ∧ 1 ≤ IntKind.i64.wrap (IntKind.i64.wrap ((IntKind.i64.wrap (IntKind.i64.wrap (IntKind.i64.wrap (IntKind.i64.wrap (v14 + 0) + 0) - IntKind.i64.wrap (1 * IntKind.i64.wrap (q - 1))) - 1)).tdiv 1) + 1) ∧ IntKind.i64.wrap (IntKind.i64.wrap ((IntKind.i64.wrap (IntKind.i64.wrap (IntKind.i64.wrap (IntKind.i64.wrap (v12 + 0) + 0) - IntKind.i64.wrap (1 * IntKind.i64.wrap (p - 1))) - 1)).tdiv 1) + 1) + p ≤ v19 + 1 ∧ IntKind.i64.wrap (IntKind.i64.wrap ((IntKind.i64.wrap (IntKind.i64.wrap (IntKind.i64.wrap (IntKind.i64.wrap (v14 + 0) + 0) - IntKind.i64.wrap (1 * IntKind.i64.wrap (q - 1))) - 1)).tdiv 1) + 1) + q ≤ v20 + 1 ∧ IntKind.i64.wrap (v21 * v22) * (IntKind.i64.wrap (IntKind.i64.wrap ((IntKind.i64.wrap (IntKind.i64.wrap (IntKind.i64.wrap (IntKind.i64.wrap (v12 + 0) + 0) - IntKind.i64.wrap (1 * IntKind.i64.wrap (p - 1))) - 1)).tdiv 1) + 1) * IntKind.i64.wrap (IntKind.i64.wrap ((IntKind.i64.wrap (IntKind.i64.wrap (IntKind.i64.wrap (IntKind.i64.wrap (v14 + 0) + 0) - IntKind.i64.wrap (1 * IntKind.i64.wrap (q - 1))) - 1)).tdiv 1) + 1)) ≤ 65536) then some (AEnd.ret [(I t).pr ((AV.os 3 0).pr ((AV.os 4 0).pr (AV.d Ty.unit PUnit.unit))), I 0], [(0, AObj.arr 25 ((i64T).pair ((i64T).slice.pair ((i64T).slice.pair Ty.unit))) 0 true [(t, xd, dt, PUnit.unit)]), (1, AObj.arr 37 (Ty.str.pair ((i64T).pair ((i64T).pair ((i64T).pair (Ty.str.pair (((i64T).pair ((i64T).slice.pair ((i64T).slice.pair Ty.unit))).pair ((i64T).slice.pair Ty.unit))))))) 0 true [([107, 101, 114, 110, 101, 108, 95, 115, 104, 97, 112, 101], 7, 0, 0, [], (0, [], [], PUnit.unit), [p, q], PUnit.unit)]), (2, AObj.arr 9 Ty.str 0 false [[120]]), (3, AObj.arr 3 (i64T) 0 false [v16, v17, IntKind.i64.wrap (IntKind.i64.wrap ((IntKind.i64.wrap (IntKind.i64.wrap (IntKind.i64.wrap (IntKind.i64.wrap (v12 + 0) + 0) - IntKind.i64.wrap (1 * IntKind.i64.wrap (p - 1))) - 1)).tdiv 1) + 1), IntKind.i64.wrap (IntKind.i64.wrap ((IntKind.i64.wrap (IntKind.i64.wrap (IntKind.i64.wrap (IntKind.i64.wrap (v14 + 0) + 0) - IntKind.i64.wrap (1 * IntKind.i64.wrap (q - 1))) - 1)).tdiv 1) + 1)]), (4, AObj.arr 2 (i64T) 0 false (poolL [77, 97, 120, 80, 111, 111, 108] dt (IntKind.i64.wrap (v21 * v22)).toNat (Int.toNat (v19 * v20)) (Int.toNat v20) p.toNat q.toNat (IntKind.i64.wrap (IntKind.i64.wrap ((IntKind.i64.wrap (IntKind.i64.wrap (IntKind.i64.wrap (IntKind.i64.wrap (v12 + 0) + 0) - IntKind.i64.wrap (1 * IntKind.i64.wrap (p - 1))) - 1)).tdiv 1) + 1)).toNat (IntKind.i64.wrap (IntKind.i64.wrap ((IntKind.i64.wrap (IntKind.i64.wrap (IntKind.i64.wrap (IntKind.i64.wrap (v14 + 0) + 0) - IntKind.i64.wrap (1 * IntKind.i64.wrap (q - 1))) - 1)).tdiv 1) + 1)).toNat))])
                                                    else none
                    else some (AEnd.ret [(I 0).pr (AV.nils.pr (AV.nils.pr (AV.d Ty.unit PUnit.unit))), I 4], [(0, AObj.arr 25 ((i64T).pair ((i64T).slice.pair ((i64T).slice.pair Ty.unit))) 0 false [(t, xd, dt, PUnit.unit)]), (1, AObj.arr 37 (Ty.str.pair ((i64T).pair ((i64T).pair ((i64T).pair (Ty.str.pair (((i64T).pair ((i64T).slice.pair ((i64T).slice.pair Ty.unit))).pair ((i64T).slice.pair Ty.unit))))))) 0 true [([107, 101, 114, 110, 101, 108, 95, 115, 104, 97, 112, 101], 7, 0, 0, [], (0, [], [], PUnit.unit), [p, q], PUnit.unit)]), (2, AObj.arr 9 Ty.str 0 false [[120]])])
                else some (AEnd.ret [(I 0).pr (AV.nils.pr (AV.nils.pr (AV.d Ty.unit PUnit.unit))), I 4], [(0, AObj.arr 25 ((i64T).pair ((i64T).slice.pair ((i64T).slice.pair Ty.unit))) 0 false [(t, xd, dt, PUnit.unit)]), (1, AObj.arr 37 (Ty.str.pair ((i64T).pair ((i64T).pair ((i64T).pair (Ty.str.pair (((i64T).pair ((i64T).slice.pair ((i64T).slice.pair Ty.unit))).pair ((i64T).slice.pair Ty.unit))))))) 0 true [([107, 101, 114, 110, 101, 108, 95, 115, 104, 97, 112, 101], 7, 0, 0, [], (0, [], [], PUnit.unit), [p, q], PUnit.unit)]), (2, AObj.arr 9 Ty.str 0 false [[120]])])
            else 
              bif t != 1 then some (AEnd.ret [(I 0).pr (AV.nils.pr (AV.nils.pr (AV.d Ty.unit PUnit.unit))), I 4], [(0, AObj.arr 25 ((i64T).pair ((i64T).slice.pair ((i64T).slice.pair Ty.unit))) 0 false [(t, xd, dt, PUnit.unit)]), (1, AObj.arr 37 (Ty.str.pair ((i64T).pair ((i64T).pair ((i64T).pair (Ty.str.pair (((i64T).pair ((i64T).slice.pair ((i64T).slice.pair Ty.unit))).pair ((i64T).slice.pair Ty.unit))))))) 0 true [([107, 101, 114, 110, 101, 108, 95, 115, 104, 97, 112, 101], 7, 0, 0, [], (0, [], [], PUnit.unit), [p, q], PUnit.unit)]), (2, AObj.arr 9 Ty.str 0 false [[120]])])
              else 
                bif decide (1 ≤ p) then 
                  bif !decide (p ≤ 100) then some (AEnd.ret [(I 0).pr (AV.nils.pr (AV.nils.pr (AV.d Ty.unit PUnit.unit))), I 4], [(0, AObj.arr 25 ((i64T).pair ((i64T).slice.pair ((i64T).slice.pair Ty.unit))) 0 false [(t, xd, dt, PUnit.unit)]), (1, AObj.arr 37 (Ty.str.pair ((i64T).pair ((i64T).pair ((i64T).pair (Ty.str.pair (((i64T).pair ((i64T).slice.pair ((i64T).slice.pair Ty.unit))).pair ((i64T).slice.pair Ty.unit))))))) 0 true [([107, 101, 114, 110, 101, 108, 95, 115, 104, 97, 112, 101], 7, 0, 0, [], (0, [], [], PUnit.unit), [p, q], PUnit.unit)]), (2, AObj.arr 9 Ty.str 0 false [[120]])])
                  else 
                    bif decide (1 ≤ q) then 
                      bif !decide (q ≤ 100) then some (AEnd.ret [(I 0).pr (AV.nils.pr (AV.nils.pr (AV.d Ty.unit PUnit.unit))), I 4], [(0, AObj.arr 25 ((i64T).pair ((i64T).slice.pair ((i64T).slice.pair Ty.unit))) 0 false [(t, xd, dt, PUnit.unit)]), (1, AObj.arr 37 (Ty.str.pair ((i64T).pair ((i64T).pair ((i64T).pair (Ty.str.pair (((i64T).pair ((i64T).slice.pair ((i64T).slice.pair Ty.unit))).pair ((i64T).slice.pair Ty.unit))))))) 0 true [([107, 101, 114, 110, 101, 108, 95, 115, 104, 97, 112, 101], 7, 0, 0, [], (0, [], [], PUnit.unit), [p, q], PUnit.unit)]), (2, AObj.arr 9 Ty.str 0 false [[120]])])
                      else 
                        bif !Int.ofNat xd.length == 4 then some (AEnd.ret [(I 0).pr (AV.nils.pr (AV.nils.pr (AV.d Ty.unit PUnit.unit))), I 4], [(0, AObj.arr 25 ((i64T).pair ((i64T).slice.pair ((i64T).slice.pair Ty.unit))) 0 false [(t, xd, dt, PUnit.unit)]), (1, AObj.arr 37 (Ty.str.pair ((i64T).pair ((i64T).pair ((i64T).pair (Ty.str.pair (((i64T).pair ((i64T).slice.pair ((i64T).slice.pair Ty.unit))).pair ((i64T).slice.pair Ty.unit))))))) 0 true [([107, 101, 114, 110, 101, 108, 95, 115, 104, 97, 112, 101], 7, 0, 0, [], (0, [], [], PUnit.unit), [p, q], PUnit.unit)]), (2, AObj.arr 9 Ty.str 0 false [[120]])])
                        else (idx xd 2).bind fun v12 =>
                            bif !decide (IntKind.i64.wrap (IntKind.i64.wrap (IntKind.i64.wrap (IntKind.i64.wrap (v12 + 0) + 0) - IntKind.i64.wrap (1 * IntKind.i64.wrap (p - 1))) - 1) ≥ 0) then some (AEnd.ret [(I 0).pr (AV.nils.pr (AV.nils.pr (AV.d Ty.unit PUnit.unit))), I 4], [(0, AObj.arr 25 ((i64T).pair ((i64T).slice.pair ((i64T).slice.pair Ty.unit))) 0 false [(t, xd, dt, PUnit.unit)]), (1, AObj.arr 37 (Ty.str.pair ((i64T).pair ((i64T).pair ((i64T).pair (Ty.str.pair (((i64T).pair ((i64T).slice.pair ((i64T).slice.pair Ty.unit))).pair ((i64T).slice.pair Ty.unit))))))) 0 true [([107, 101, 114, 110, 101, 108, 95, 115, 104, 97, 112, 101], 7, 0, 0, [], (0, [], [], PUnit.unit), [p, q], PUnit.unit)]), (2, AObj.arr 9 Ty.str 0 false [[120]])])
                            else (idx xd 3).bind fun v14 =>
                                bif !decide (IntKind.i64.wrap (IntKind.i64.wrap (IntKind.i64.wrap (IntKind.i64.wrap (v14 + 0) + 0) - IntKind.i64.wrap (1 * IntKind.i64.wrap (q - 1))) - 1) ≥ 0) then some (AEnd.ret [(I 0).pr (AV.nils.pr (AV.nils.pr (AV.d Ty.unit PUnit.unit))), I 4], [(0, AObj.arr 25 ((i64T).pair ((i64T).slice.pair ((i64T).slice.pair Ty.unit))) 0 false [(t, xd, dt, PUnit.unit)]), (1, AObj.arr 37 (Ty.str.pair ((i64T).pair ((i64T).pair ((i64T).pair (Ty.str.pair (((i64T).pair ((i64T).slice.pair ((i64T).slice.pair Ty.unit))).pair ((i64T).slice.pair Ty.unit))))))) 0 true [([107, 101, 114, 110, 101, 108, 95, 115, 104, 97, 112, 101], 7, 0, 0, [], (0, [], [], PUnit.unit), [p, q], PUnit.unit)]), (2, AObj.arr 9 Ty.str 0 false [[120]])])
                                else (idx xd 0).bind fun v16 =>
                                    (idx xd 1).bind fun v17 =>
                                      bif countE [v16, v17, IntKind.i64.wrap (IntKind.i64.wrap ((IntKind.i64.wrap (IntKind.i64.wrap (IntKind.i64.wrap (IntKind.i64.wrap (v12 + 0) + 0) - IntKind.i64.wrap (1 * IntKind.i64.wrap (p - 1))) - 1)).tdiv 1) + 1), IntKind.i64.wrap (IntKind.i64.wrap ((IntKind.i64.wrap (IntKind.i64.wrap (IntKind.i64.wrap (IntKind.i64.wrap (v14 + 0) + 0) - IntKind.i64.wrap (1 * IntKind.i64.wrap (q - 1))) - 1)).tdiv 1) + 1)] != 0 then 
                                        bif countE [v16, v17, IntKind.i64.wrap (IntKind.i64.wrap ((IntKind.i64.wrap (IntKind.i64.wrap (IntKind.i64.wrap (IntKind.i64.wrap (v12 + 0) + 0) - IntKind.i64.wrap (1 * IntKind.i64.wrap (p - 1))) - 1)).tdiv 1) + 1), IntKind.i64.wrap (IntKind.i64.wrap ((IntKind.i64.wrap (IntKind.i64.wrap (IntKind.i64.wrap (IntKind.i64.wrap (v14 + 0) + 0) - IntKind.i64.wrap (1 * IntKind.i64.wrap (q - 1))) - 1)).tdiv 1) + 1)] != 0 then some (AEnd.ret [(I 0).pr (AV.nils.pr (AV.nils.pr (AV.d Ty.unit PUnit.unit))), I (countE [v16, v17, IntKind.i64.wrap (IntKind.i64.wrap ((IntKind.i64.wrap (IntKind.i64.wrap (IntKind.i64.wrap (IntKind.i64.wrap (v12 + 0) + 0) - IntKind.i64.wrap (1 * IntKind.i64.wrap (p - 1))) - 1)).tdiv 1) + 1), IntKind.i64.wrap (IntKind.i64.wrap ((IntKind.i64.wrap (IntKind.i64.wrap (IntKind.i64.wrap (IntKind.i64.wrap (v14 + 0) + 0) - IntKind.i64.wrap (1 * IntKind.i64.wrap (q - 1))) - 1)).tdiv 1) + 1)])], [(0, AObj.arr 25 ((i64T).pair ((i64T).slice.pair ((i64T).slice.pair Ty.unit))) 0 false [(t, xd, dt, PUnit.unit)]), (1, AObj.arr 37 (Ty.str.pair ((i64T).pair ((i64T).pair ((i64T).pair (Ty.str.pair (((i64T).pair ((i64T).slice.pair ((i64T).slice.pair Ty.unit))).pair ((i64T).slice.pair Ty.unit))))))) 0 true [([107, 101, 114, 110, 101, 108, 95, 115, 104, 97, 112, 101], 7, 0, 0, [], (0, [], [], PUnit.unit), [p, q], PUnit.unit)]), (2, AObj.arr 9 Ty.str 0 false [[120]])])
                                        else (idx xd 2).bind fun v20 =>
                                            (idx xd 3).bind fun v21 =>
                                              (idx xd 0).bind fun v22 =>
                                                (idx xd 1).bind fun v23 =>
                                                  (idx xd 2).bind fun v24 =>
                                                    (idx xd 3).bind fun v25 =>
                                                      none
                                      else (idx xd 2).bind fun v19 =>
                                          (idx xd 3).bind fun v20 =>
                                            (idx xd 0).bind fun v21 =>
                                              (idx xd 1).bind fun v22 =>
                                                (idx xd 2).bind fun v23 =>
                                                  (idx xd 3).bind fun v24 =>
                                                    bif decide (1 ≤ v19 ∧ 1 ≤ v20 ∧ 1 ≤ IntKind.i64.wrap (v21 * v22) ∧ 0 ≤ p ∧ 0 ≤ q ∧ IntKind.i64.wrap (v23 * v24) = v19 * v20 ∧ Int.ofNat dt.length = IntKind.i64.wrap (v21 * v22) * (v19 * v20) ∧ IntKind.i64.wrap (v21 * v22) * (v19 * v20) ≤ 65536 ∧ 1 ≤ IntKind.i64.wrap (IntKind.i64.wrap ((IntKind.i64.wrap (IntKind.i64.wrap (IntKind.i64.wrap (IntKind.i64.wrap (v12 + 0) + 0) - IntKind.i64.wrap (1 * IntKind.i64.wrap (p - 1))) - 1)).tdiv 1) + 1) ∧ 1 ≤ IntKind.i64.wrap (IntKind.i64.wrap ((IntKind.i64.wrap (IntKind.i64.wrap (IntKind.i64.wrap (IntKind.i64.wrap (v14 + 0) + 0) - IntKind.i64.wrap (1 * IntKind.i64.wrap (q - 1))) - 1)).tdiv 1) + 1) ∧ IntKind.i64.wrap (IntKind.i64.wrap ((IntKind.i64.wrap (IntKind.i64.wrap (IntKind.i64.wrap (IntKind.i64.wrap (v12 + 0) + 0) - IntKind.i64.wrap (1 * IntKind.i64.wrap (p - 1))) - 1)).tdiv 1) + 1) + p ≤ v19 + 1 ∧ IntKind.i64.wrap (IntKind.i64.wrap ((IntKind.i64.wrap (IntKind.i64.wrap (IntKind.i64.wrap (IntKind.i64.wrap (v14 + 0) + 0) - IntKind.i64.wrap (1 * IntKind.i64.wrap (q - 1))) - 1)).tdiv 1) + 1) + q ≤ v20 + 1 ∧ IntKind.i64.wrap (v21 * v22) * (IntKind.i64.wrap (IntKind.i64.wrap ((IntKind.i64.wrap (IntKind.i64.wrap (IntKind.i64.wrap (IntKind.i64.wrap (v12 + 0) + 0) - IntKind.i64.wrap (1 * IntKind.i64.wrap (p - 1))) - 1)).tdiv 1) + 1) * IntKind.i64.wrap (IntKind.i64.wrap ((IntKind.i64.wrap (IntKind.i64.wrap (IntKind.i64.wrap (IntKind.i64.wrap (v14 + 0) + 0) - IntKind.i64.wrap (1 * IntKind.i64.wrap (q - 1))) - 1)).tdiv 1) + 1)) ≤ 65536) then some (AEnd.ret [(I t).pr ((AV.os 3 0).pr ((AV.os 4 0).pr (AV.d Ty.unit PUnit.unit))), I 0], [(0, AObj.arr 25 ((i64T).pair ((i64T).slice.pair ((i64T).slice.pair Ty.unit))) 0 true [(t, xd, dt, PUnit.unit)]), (1, AObj.arr 37 (Ty.str.pair ((i64T).pair ((i64T).pair ((i64T).pair (Ty.str.pair (((i64T).pair ((i64T).slice.pair ((i64T).slice.pair Ty.unit))).pair ((i64T).slice.pair Ty.unit))))))) 0 true [([107, 101, 114, 110, 101, 108, 95, 115, 104, 97, 112, 101], 7, 0, 0, [], (0, [], [], PUnit.unit), [p, q], PUnit.unit)]), (2, AObj.arr 9 Ty.str 0 false [[120]]), (3, AObj.arr 3 (i64T) 0 false [v16, v17, IntKind.i64.wrap (IntKind.i64.wrap ((IntKind.i64.wrap (IntKind.i64.wrap (IntKind.i64.wrap (IntKind.i64.wrap (v12 + 0) + 0) - IntKind.i64.wrap (1 * IntKind.i64.wrap (p - 1))) - 1)).tdiv 1) + 1), IntKind.i64.wrap (IntKind.i64.wrap ((IntKind.i64.wrap (IntKind.i64.wrap (IntKind.i64.wrap (IntKind.i64.wrap (v14 + 0) + 0) - IntKind.i64.wrap (1 * IntKind.i64.wrap (q - 1))) - 1)).tdiv 1) + 1)]), (4, AObj.arr 2 (i64T) 0 false (poolL [77, 97, 120, 80, 111, 111, 108] dt (IntKind.i64.wrap (v21 * v22)).toNat (Int.toNat (v19 * v20)) (Int.toNat v20) p.toNat q.toNat (IntKind.i64.wrap (IntKind.i64.wrap ((IntKind.i64.wrap (IntKind.i64.wrap (IntKind.i64.wrap (IntKind.i64.wrap (v12 + 0) + 0) - IntKind.i64.wrap (1 * IntKind.i64.wrap (p - 1))) - 1)).tdiv 1) + 1)).toNat (IntKind.i64.wrap (IntKind.i64.wrap ((IntKind.i64.wrap (IntKind.i64.wrap (IntKind.i64.wrap (IntKind.i64.wrap (v14 + 0) + 0) - IntKind.i64.wrap (1 * IntKind.i64.wrap (q - 1))) - 1)).tdiv 1) + 1)).toNat))])
                                                    else none
                    else some (AEnd.ret [(I 0).pr (AV.nils.pr (AV.nils.pr (AV.d Ty.unit PUnit.unit))), I 4], [(0, AObj.arr 25 ((i64T).pair ((i64T).slice.pair ((i64T).slice.pair Ty.unit))) 0 false [(t, xd, dt, PUnit.unit)]), (1, AObj.arr 37 (Ty.str.pair ((i64T).pair ((i64T).pair ((i64T).pair (Ty.str.pair (((i64T).pair ((i64T).slice.pair ((i64T).slice.pair Ty.unit))).pair ((i64T).slice.pair Ty.unit))))))) 0 true [([107, 101, 114, 110, 101, 108, 95, 115, 104, 97, 112, 101], 7, 0, 0, [], (0, [], [], PUnit.unit), [p, q], PUnit.unit)]), (2, AObj.arr 9 Ty.str 0 false [[120]])])
                else some (AEnd.ret [(I 0).pr (AV.nils.pr (AV.nils.pr (AV.d Ty.unit PUnit.unit))), I 4], [(0, AObj.arr 25 ((i64T).pair ((i64T).slice.pair ((i64T).slice.pair Ty.unit))) 0 false [(t, xd, dt, PUnit.unit)]), (1, AObj.arr 37 (Ty.str.pair ((i64T).pair ((i64T).pair ((i64T).pair (Ty.str.pair (((i64T).pair ((i64T).slice.pair ((i64T).slice.pair Ty.unit))).pair ((i64T).slice.pair Ty.unit))))))) 0 true [([107, 101, 114, 110, 101, 108, 95, 115, 104, 97, 112, 101], 7, 0, 0, [], (0, [], [], PUnit.unit), [p, q], PUnit.unit)]), (2, AObj.arr 9 Ty.str 0 false [[120]])])
        else none
  else none := by kernel_rfl
theorem domx_run (t p q : Int) (xd dt : List Int) (h4 : xd.length ≠ 4) (h1 : xd.length ≤ maxLen) (h2 : dt.length ≤ maxLen) : runC gD Tryz.f17 7 [] [nodeA strMP [] [122] (.os 2 0) (.os 1 0), .os 0 0] (hpDA false false t xd dt [p, q]) ah =
    bif tenE t xd dt != 0 then some (.ret [zeroT, I 1], hpDA false false t xd dt [p, q]) else some (.ret [zeroT, I 4], hpDA false true t xd dt [p, q]) := by
  rw [domx_eq, decide_eq_true (show xd.length ≤ 9223372036854775807 ∧ dt.length ≤ 9223372036854775807 from ⟨h1, h2⟩), decide_eq_true (show xd.length ≤ 9223372036854775807 from h1)]
  simp only [cond_true]
  cases ht : tenE t xd dt != 0 with
  | true => rfl
  | false =>
    obtain ⟨n0, n1, n2, n3⟩ := ten_ok (by simpa using ht)
    have hl : (!Int.ofNat xd.length == 4) = true := by
      have : ¬ (Int.ofNat xd.length = 4) := fun h => h4 (by have e : Int.ofNat xd.length = (xd.length : Int) := rfl; omega)
      simp only [beq_eq_false_iff_ne.2 this, Bool.not_false]
    rw [n0, n1]
    simp only [Bool.not_true, cond_false, bne_self_eq_false, hl, cond_true]
    cases t == 6 <;> cases t != 1 <;> cases decide (1 ≤ p) <;> cases decide (1 ≤ q) <;> cases decide (p ≤ 100) <;> cases decide (q ≤ 100) <;> rfl
def doTX : List AV → LHp → Tq
  | [n, .os 0 0], [(0, .arr 25 ((.pair (.int .i64) (.pair (.slice (.int .i64)) (.pair (.slice (.int .i64)) .unit)))) 0 false [(t, xd, dt, ())]), (1, .arr 37 ((.pair .str (.pair (.int .i64) (.pair (.int .i64) (.pair (.int .i64) (.pair .str (.pair (.pair (.int .i64) (.pair (.slice (.int .i64)) (.pair (.slice (.int .i64)) .unit))) (.pair (.slice (.int .i64)) .unit)))))))) 0 false ats), (2, .arr 9 .str 0 false ins)] =>
    (match nodeP n with
    | some (op, nm, out, .os 2 0, .os 1 0) => gate (decide (op = strMP) && decide (nm = []) && decide (out = [122]) && decide (ins = [[120]]))
        (.opt (oneAttr strKS ats) fun l => match l with
        | [p, q] => .br (decide (xd.length ≠ 4 ∧ xd.length ≤ maxLen ∧ dt.length ≤ maxLen)) (.br (tenE t xd dt != 0) (.leaf (.ret [zeroT, I 1]) (hpDA false false t xd dt [p, q])) (.leaf (.ret [zeroT, I 4]) (hpDA false true t xd dt [p, q]))) .no
        | _ => .no)
    | _ => .no)
  | _, _ => .no
theorem doTX_ok : FnE.OK e0.P e0.gam 17 (treeE doTX) := by
  refine ⟨fun _ _ _ => Tq.eq _ _, fun args hs ae hs' h => ?_⟩
  have h' : (doTX args hs).run ah = some (ae, hs') := h
  clear h
  unfold doTX at h'
  split at h'
  · split at h'
    · rename_i hn
      rw [nodeP_some hn]
      obtain ⟨hb, h2⟩ := gate_run h'
      clear h'
      simp only [Bool.and_eq_true, decide_eq_true_eq] at hb
      obtain ⟨⟨⟨b1, b2⟩, b3⟩, b4⟩ := hb
      subst b1 b2 b3 b4
      simp only [Tq.run] at h2
      obtain ⟨l, hl, h3⟩ := bind_some h2
      clear h2
      rw [oneAttr_some hl]
      split at h3
      · obtain ⟨hl2, h4⟩ := Tq.br_no h3
        clear h3
        obtain ⟨g1, g2, g3⟩ := of_decide_eq_true hl2
        exact doE2_ok.okC ((domx_run _ _ _ _ _ g1 g2 g3).trans h4)
      · cases h3
    · cases h'
  · cases h'
/-- x < y, or not numbers at all -/
def lessT : List AV → LHp → Tq
  | [.d .str op, .d (.int .i64) ty, .d (.int .i64) x, .d (.int .i64) y], [] => gate (decide (op = [76, 101, 115, 115]) && decide (ty = 1))
      (.br (numOk 1 x && numOk 1 y) (.br ((rdW x).order (rdW y) == some .lt) (.leaf (.ret [I 1, I 0]) []) (.leaf (.ret [I 0, I 0]) [])) .no)
  | _, _ => .no
theorem lessT_ok : FnE.OK e0.P e0.gam 19 (treeE lessT) := by
  have h1 : FnE.OK e0.P e0.gam 19 (execFnC g66 Tryz.f19 7 []) := y19_ok
  refine ⟨fun _ _ _ => Tq.eq _ _, fun args hs ae hs' h => ?_⟩
  have h' : (lessT args hs).run ah = some (ae, hs') := h
  clear h
  unfold lessT at h'
  split at h'
  · rename_i op ty x y
    obtain ⟨hb, h2⟩ := gate_run h'
    clear h'
    simp only [Bool.and_eq_true, decide_eq_true_eq] at hb
    obtain ⟨b1, b2⟩ := hb
    subst b1 b2
    obtain ⟨hn, h3⟩ := Tq.br_no h2
    clear h2
    simp only [Bool.and_eq_true] at hn
    refine h1.okC ((less_eq x y).trans ?_)
    rw [hn.1, hn.2]
    simp only [Bool.not_true, cond_false]
    refine Eq.trans ?_ h3
    unfold rdW cw
    simp only [Tq.run]
    cases (FloatKind.f32.format.read (canonF FloatKind.f32 (IntKind.u32.wrap x).toNat)).order (FloatKind.f32.format.read (canonF FloatKind.f32 (IntKind.u32.wrap x).toNat)) != some Ordering.eq <;> rfl
  · cases h'
end Go.Proofs.XGT
/- The greater of two Floats is no less than either. -/
namespace Go.Proofs.XGT
open Go.Vm Go
set_option maxRecDepth 100000
set_option maxHeartbeats 1000000
def good (x : Int) : Prop := numOk 1 x = true ∧ x ≠ 2143289344
def keyI (x : Int) : Int := keyW x.toNat
theorem and_lo (n : Nat) : n &&& 8388607 = n % 8388608 := Nat.and_two_pow_sub_one_eq_mod n 23
theorem and_hi (n : Nat) : n &&& 2139095040 = n / 8388608 % 256 * 8388608 := by
  have e : (2139095040 : Nat) = 255 <<< 23 := by decide
  have h1 : n / 8388608 % 256 * 8388608 = ((n >>> 23) &&& 255) <<< 23 := by
    rw [Nat.shiftLeft_eq, Nat.shiftRight_eq_div_pow, show (255 : Nat) = 2 ^ 8 - 1 from rfl, Nat.and_two_pow_sub_one_eq_mod]
  rw [h1, e]
  apply Nat.eq_of_testBit_eq
  intro i
  simp only [Nat.testBit_and, Nat.testBit_shiftLeft, Nat.testBit_shiftRight]
  by_cases h : 23 ≤ i
  · simp only [h, decide_true, Bool.true_and]
    rw [show 23 + (i - 23) = i by omega]
  · simp [h]
theorem fdiv_zero {x : Int} (h : (x.fdiv 4294967296 == 0) = true) : 0 ≤ x ∧ x < 4294967296 := by
  have h1 : x.fdiv 4294967296 = 0 := by simpa using h
  rw [Int.fdiv_eq_ediv_of_nonneg x (by decide)] at h1
  omega
theorem bv_and (n m : Nat) (h : n < 4294967296) (h2 : m < 4294967296) : IntKind.i64.wrap (Int.ofNat (BitVec.ofInt 64 (n : Int) &&& BitVec.ofNat 64 m).toNat) = ((n &&& m : Nat) : Int) := by
  have e : (BitVec.ofInt 64 (n : Int) &&& BitVec.ofNat 64 m).toNat = n &&& m := by
    rw [BitVec.toNat_and, BitVec.ofInt_natCast, BitVec.toNat_ofNat, BitVec.toNat_ofNat, Nat.mod_eq_of_lt (by omega), Nat.mod_eq_of_lt (by omega)]
  rw [e]
  have : n &&& m ≤ n := Nat.and_le_left
  exact wrap64 (by simp only [Int.ofNat_eq_natCast]; omega) (by simp only [Int.ofNat_eq_natCast]; omega)
theorem good_nat {x : Int} (h : good x) : ∃ n : Nat, x = n ∧ n < 4294967296 ∧ rungW n ≤ 2139095040 := by
  obtain ⟨h1, h2⟩ := h
  have hb : 0 ≤ x ∧ x < 4294967296 := by
    unfold numOk at h1
    simp only [beq_self_eq_true, cond_true] at h1
    cases hc : (x.fdiv 4294967296 == 0) with
    | true => exact fdiv_zero hc
    | false =>
      rw [hc] at h1
      simp at h1
  obtain ⟨n, rfl⟩ := Int.eq_ofNat_of_zero_le hb.1
  refine ⟨n, rfl, by omega, ?_⟩
  rcases Nat.lt_or_ge 2139095040 (rungW n) with hr | hr
  · exfalso
    unfold rungW at hr
    unfold numOk at h1
    rw [bv_and n 2139095040 (by omega) (by decide), bv_and n 8388607 (by omega) (by decide), and_lo, and_hi] at h1
    have e1 : n / 8388608 % 256 = 255 := by omega
    have e2 : n % 8388608 ≠ 0 := by omega
    rw [e1] at h1
    have e3 : (((n % 8388608 : Nat) : Int) != 0) = true := by simp; omega
    have e4 : ((n : Int) == 2143289344) = false := by simpa using h2
    rw [e3, e4] at h1
    simp only [beq_self_eq_true, cond_true, Bool.not_true, cond_false] at h1
    have e5 : ((((255 * 8388608 : Nat) : Nat) : Int) == 2139095040) = true := by decide
    rw [e5] at h1
    simp only [cond_true] at h1
    cases hc : ((n : Int).fdiv 4294967296 == 0) <;> rw [hc] at h1 <;> simp at h1
  · exact hr
theorem not_nan {n : Nat} (h : rungW n ≤ 2139095040) : (FloatKind.f32.format.read n).isNaN = false := by
  by_cases h1 : rungW n < 2139095040
  · obtain ⟨m, d, e, _⟩ := read_num h1
    rw [e]; rfl
  · rw [read_inf (by omega)]; rfl
theorem cw_nat {n : Nat} (h : n < 4294967296) (h2 : rungW n ≤ 2139095040) : cw (n : Int) = n := by
  unfold cw
  have e : (IntKind.u32.wrap (n : Int)).toNat = n := by
    have : IntKind.u32.wrap (n : Int) = n := by
      simp [IntKind.wrap, IntKind.signed, IntKind.bits]
      omega
    rw [this]; rfl
  rw [e]
  unfold canonF fNaN
  rw [not_nan h2]
  rfl
theorem zero_good : good 0 ∧ keyI 0 = 0 := ⟨⟨by decide, by decide⟩, by decide⟩
theorem word_eq {n m : Nat} (h1 : n < 4294967296) (h2 : m < 4294967296) (h : keyW n = keyW m) : n = m ∨ (n % 2147483648 = 0 ∧ m % 2147483648 = 0) := by
  unfold keyW sgV negW rungW at h
  have a1 : n / 2147483648 % 2 = 0 ∨ n / 2147483648 % 2 = 1 := by omega
  have a2 : m / 2147483648 % 2 = 0 ∨ m / 2147483648 % 2 = 1 := by omega
  rcases a1 with a1 | a1 <;> rcases a2 with a2 | a2 <;> rw [a1, a2] at h
  · have h' : ((n % 2147483648 : Nat) : Int) = ((m % 2147483648 : Nat) : Int) := h
    left; omega
  · have h' : ((n % 2147483648 : Nat) : Int) = -((m % 2147483648 : Nat) : Int) := h
    right; omega
  · have h' : -((n % 2147483648 : Nat) : Int) = ((m % 2147483648 : Nat) : Int) := h
    right; omega
  · have h' : -((n % 2147483648 : Nat) : Int) = -((m % 2147483648 : Nat) : Int) := h
    left; omega
theorem max_good {s y : Int} (hs : good s) (hy : good y) : good (maxW s y) ∧ keyI s ≤ keyI (maxW s y) := by
  obtain ⟨n, rfl, n1, n2⟩ := good_nat hs
  obtain ⟨m, rfl, m1, m2⟩ := good_nat hy
  unfold maxW rdW
  rw [hs.1, hy.1, cw_nat n1 n2, cw_nat m1 m2, not_nan n2, not_nan m2, ord_key n2 m2]
  simp only [Bool.and_true, cond_true, Bool.or_false, cond_false]
  by_cases hlt : keyW n < keyW m
  · rw [ordK_lt hlt]
    exact ⟨hy, Int.le_of_lt hlt⟩
  · by_cases heq : keyW n = keyW m
    · have e : ordK (keyW n) (keyW m) = .eq := by unfold ordK; rw [if_neg hlt, if_pos heq]
      rw [e]
      show good (IntKind.i64.wrap _) ∧ keyI _ ≤ keyI (IntKind.i64.wrap _)
      have ew : BitVec.ofInt 64 (m : Int) = BitVec.ofNat 64 m := BitVec.ofInt_natCast 64 m
      rw [ew, bv_and n m n1 m1]
      rcases word_eq n1 m1 heq with h | ⟨h1, h2⟩
      · subst h
        rw [Nat.and_self]
        exact ⟨hs, Int.le_refl _⟩
      · have c1 : n = 0 ∨ n = 2147483648 := by omega
        have c2 : m = 0 ∨ m = 2147483648 := by omega
        rcases c1 with c1 | c1 <;> rcases c2 with c2 | c2 <;> subst c1 c2
        · exact ⟨⟨by decide, by decide⟩, by decide⟩
        · exact ⟨⟨by decide, by decide⟩, by decide⟩
        · exact ⟨⟨by decide, by decide⟩, by decide⟩
        · exact ⟨⟨by decide, by decide⟩, by decide⟩
    · rw [ordK_gt (by omega)]
      exact ⟨hs, Int.le_refl _⟩
/-- what is no less by its key does not stand below -/
theorem not_less {x y : Int} (hx : good x) (hy : good y) (h : keyI y ≤ keyI x) : ((rdW x).order (rdW y) == some .lt) = false := by
  obtain ⟨n, rfl, n1, n2⟩ := good_nat hx
  obtain ⟨m, rfl, m1, m2⟩ := good_nat hy
  unfold rdW
  rw [cw_nat n1 n2, cw_nat m1 m2, ord_key n2 m2]
  have h' : keyW m ≤ keyW n := h
  by_cases he : keyW n = keyW m
  · have e : ordK (keyW n) (keyW m) = .eq := by unfold ordK; rw [if_neg (by omega), if_pos he]
    rw [e]; rfl
  · rw [ordK_gt (by omega)]; rfl
end Go.Proofs.XGT
/- The law ConvMost: its code, run. -/
namespace Go.Proofs.XGT
open Go.Vm Go
set_option maxRecDepth 100000
set_option maxHeartbeats 4000000
def doT2 (args : List AV) (hs : LHp) : Tq := orT (doT args hs) (doTX args hs)
noncomputable def gLm : Env := ((g173.add 17 (treeE doT2)).add 16 (fnE liveF)).add 19 (treeE lessT)
theorem gLm_good : gLm.Good := ((g173_good.add (treeE_or doT_ok doTX_ok)).add liveE_ok).add lessT_ok
noncomputable def C_lawm : Code := codeOf Tryz.f5
noncomputable def cf_lawm : Cfg := ⟨134, 8, 0, [(4, [1, 2, 3, 7]), (13, [3, 9, 11]), (16, [3, 9, 11, 12])], true⟩
theorem lawm_eqH (hl : Hl) (t p q : Int) (xd dt : List Int) : runH gLm Tryz.f5 8 [(4, [1, 2, 3, 7]), (13, [3, 9, 11]), (16, [3, 9, 11, 12])] [4, 13, 16] hl [.d (Y0) (t, xd, dt, ()), I p, I q] [] ah =
  bif decide (Int.ofNat dt.length > 600) then some (AEnd.ret [B true], [])
  else 
    bif decide (p > 50) then some (AEnd.ret [B true], [])
    else 
      bif decide (q > 50) then some (AEnd.ret [B true], [])
      else 
        bif decide (p < 1) then some (AEnd.ret [B true], [])
        else 
          bif decide (q < 1) then some (AEnd.ret [B true], [])
          else hl (cL (cL (cR (cL (cR (cR C_lawm)))))) _ { fr := mkFr 8 [(1, I p), (2, I q), (3, AV.op 0 [] 0), (7, I 0)], hp := [(0, AObj.box (AV.d ((i64T).pair ((i64T).slice.pair ((i64T).slice.pair Ty.unit))) (t, xd, dt, PUnit.unit)))], nx := 1 } (blkK 0 (seqH gLm cf_lawm [4, 13, 16] hl (cR (cR (cR C_lawm))) (endC Tryz.prog 0 Tryz.f5.results.toList ah))) := by kernel_rfl
theorem lawm_eq (t p q : Int) (xd dt : List Int) : runC gLm Tryz.f5 8 [(4, [1, 2, 3, 7]), (13, [3, 9, 11]), (16, [3, 9, 11, 12])] [.d (Y0) (t, xd, dt, ()), I p, I q] [] ah =
  bif decide (Int.ofNat dt.length > 600) then some (AEnd.ret [B true], [])
  else 
    bif decide (p > 50) then some (AEnd.ret [B true], [])
    else 
      bif decide (q > 50) then some (AEnd.ret [B true], [])
      else 
        bif decide (p < 1) then some (AEnd.ret [B true], [])
        else 
          bif decide (q < 1) then some (AEnd.ret [B true], [])
          else (hlp gLm cf_lawm) (cL (cL (cR (cL (cR (cR C_lawm)))))) _ { fr := mkFr 8 [(1, I p), (2, I q), (3, AV.op 0 [] 0), (7, I 0)], hp := [(0, AObj.box (AV.d ((i64T).pair ((i64T).slice.pair ((i64T).slice.pair Ty.unit))) (t, xd, dt, PUnit.unit)))], nx := 1 } (blkK 0 (seqH gLm cf_lawm [4, 13, 16] (hlp gLm cf_lawm) (cR (cR (cR C_lawm))) (endC Tryz.prog 0 Tryz.f5.results.toList ah))) := runH_runC.trans (lawm_eqH (hlp gLm cf_lawm) t p q xd dt)
def hpM0 (t : Int) (xd dt : List Int) : LHp := [(0, .box (.d (Y0) (t, xd, dt, ())))]
def stM0 (t p q : Int) (xd dt : List Int) (i : Int) : LSt := ⟨mkFr 8 [(1, I p), (2, I q), (3, .op 0 [] 0), (7, I i)], hpM0 t xd dt, 1⟩
theorem m0_stepH (hl : Hl) (t p q : Int) (xd dt : List Int) (i : Int) (n : Nat) {R : Type} (k : AEx → LSt → Option R) : lpH gLm cf_lawm [4, 13, 16] hl (cL (cL (cR (cL (cR (cR C_lawm)))))) (n + 1) (stM0 t p q xd dt i) k =
  bif decide (i < Int.ofNat dt.length) then (idx dt i).bind fun v1 =>
      bif v1 == 2143289344 then k AEx.ret { fr := mkFr 8 [(1, I p), (2, I q), (3, AV.op 0 [] 0), (6, B true), (7, I i), (36, I i), (37, AV.op 0 [2] 2), (38, AV.d (i64T).slice dt), (39, I (Int.ofNat dt.length)), (40, B true), (43, AV.op 0 [2] 2), (44, AV.d (i64T).slice dt), (45, I i), (46, AV.ip (i64T) v1), (47, I v1), (48, B true), (49, B true)], hp := [(0, AObj.box (AV.d ((i64T).pair ((i64T).slice.pair ((i64T).slice.pair Ty.unit))) (t, xd, dt, PUnit.unit)))], nx := 1 }
      else lpH gLm cf_lawm [4, 13, 16] hl (cL (cL (cR (cL (cR (cR C_lawm)))))) n { fr := mkFr 8 [(1, I p), (2, I q), (3, AV.op 0 [] 0), (7, I (IntKind.i64.wrap (i + 1)))], hp := [(0, AObj.box (AV.d ((i64T).pair ((i64T).slice.pair ((i64T).slice.pair Ty.unit))) (t, xd, dt, PUnit.unit)))], nx := 1 } k
  else k (AEx.exit 0) { fr := mkFr 8 [(1, I p), (2, I q), (3, AV.op 0 [] 0), (7, I i), (36, I i), (37, AV.op 0 [2] 2), (38, AV.d (i64T).slice dt), (39, I (Int.ofNat dt.length)), (40, B false)], hp := [(0, AObj.box (AV.d ((i64T).pair ((i64T).slice.pair ((i64T).slice.pair Ty.unit))) (t, xd, dt, PUnit.unit)))], nx := 1 } := by kernel_rfl
theorem m0_step (t p q : Int) (xd dt : List Int) (i : Int) (n : Nat) {R : Type} (k : AEx → LSt → Option R) : lp gLm cf_lawm (cL (cL (cR (cL (cR (cR C_lawm)))))) (n + 1) (stM0 t p q xd dt i) k =
  bif decide (i < Int.ofNat dt.length) then (idx dt i).bind fun v1 =>
      bif v1 == 2143289344 then k AEx.ret { fr := mkFr 8 [(1, I p), (2, I q), (3, AV.op 0 [] 0), (6, B true), (7, I i), (36, I i), (37, AV.op 0 [2] 2), (38, AV.d (i64T).slice dt), (39, I (Int.ofNat dt.length)), (40, B true), (43, AV.op 0 [2] 2), (44, AV.d (i64T).slice dt), (45, I i), (46, AV.ip (i64T) v1), (47, I v1), (48, B true), (49, B true)], hp := [(0, AObj.box (AV.d ((i64T).pair ((i64T).slice.pair ((i64T).slice.pair Ty.unit))) (t, xd, dt, PUnit.unit)))], nx := 1 }
      else lp gLm cf_lawm (cL (cL (cR (cL (cR (cR C_lawm)))))) n { fr := mkFr 8 [(1, I p), (2, I q), (3, AV.op 0 [] 0), (7, I (IntKind.i64.wrap (i + 1)))], hp := [(0, AObj.box (AV.d ((i64T).pair ((i64T).slice.pair ((i64T).slice.pair Ty.unit))) (t, xd, dt, PUnit.unit)))], nx := 1 } k
  else k (AEx.exit 0) { fr := mkFr 8 [(1, I p), (2, I q), (3, AV.op 0 [] 0), (7, I i), (36, I i), (37, AV.op 0 [2] 2), (38, AV.d (i64T).slice dt), (39, I (Int.ofNat dt.length)), (40, B false)], hp := [(0, AObj.box (AV.d ((i64T).pair ((i64T).slice.pair ((i64T).slice.pair Ty.unit))) (t, xd, dt, PUnit.unit)))], nx := 1 } := by
  have h := m0_stepH (hlp gLm cf_lawm) t p q xd dt i n k
  simp only [lpH_lp] at h
  exact h
def frM0 (p q : Int) (dt : List Int) (i : Int) : Tr := mkFr 8 [(1, I p), (2, I q), (3, AV.op 0 [] 0), (7, I i), (36, I i), (37, AV.op 0 [2] 2), (38, AV.d (.slice i64T) dt), (39, I (Int.ofNat dt.length)), (40, B false)]
noncomputable def MK0 (hl : Hl) : AEx → LSt → Option (AEnd × LHp) := blkK 0 (seqH gLm cf_lawm [4, 13, 16] hl (cR (cR (cR C_lawm))) (endC Tryz.prog 0 Tryz.f5.results.toList ah))
theorem m0_exit (hl : Hl) (t a b c d p q : Int) (dt : List Int) (i : Int) : MK0 hl (.exit 0) ⟨frM0 p q dt i, hpM0 t [a, b, c, d] dt, 1⟩ =
  bif decide (dt.length ≤ 9223372036854775807) then 
    bif tenE t [a, b, c, d] dt != 0 then some (AEnd.ret [B true], [])
    else 
      bif t != 1 || !fits c d p q then some (AEnd.ret [B true], [])
      else hl (cL (cL (cR (cL (cR (cR (cR (cR (cR (cR C_lawm)))))))))) _ { fr := mkFr 8 [(3, AV.op 0 [] 0), (9, AV.op 1 [] 0), (11, I 0)], hp := [(0, AObj.box (AV.d ((i64T).pair ((i64T).slice.pair ((i64T).slice.pair Ty.unit))) (t, [a, b, c, d], dt, PUnit.unit))), (1, AObj.box ((I t).pr ((AV.os 2 0).pr ((AV.os 3 0).pr (AV.d Ty.unit PUnit.unit))))), (2, AObj.arr 3 (i64T) 0 false [a, b, c - p + 1, d - q + 1]), (3, AObj.arr 2 (i64T) 0 false (poolL [77, 97, 120, 80, 111, 111, 108] dt (a * b).toNat (c * d).toNat d.toNat p.toNat q.toNat (c - p + 1).toNat (d - q + 1).toNat))], nx := 4 } (blkK 2 (seqH gLm cf_lawm [4, 13, 16] hl (cR (cR (cR (cR (cR (cR (cR C_lawm))))))) (endC Tryz.prog 0 Tryz.f5.results.toList ah)))
  else none := by kernel_rfl
noncomputable def C_lawx : Code := codeOf Tryz.f5
noncomputable def cf_lawx : Cfg := ⟨134, 8, 0, [(4, [1, 2, 3, 7]), (13, [3, 9, 11]), (16, [3, 9, 11, 12])], true⟩
noncomputable def gLx : Env := (g173.add 17 (treeE doTX)).add 16 (fnE liveF)
theorem gLx_good : gLx.Good := (g173_good.add doTX_ok).add liveE_ok
theorem lawx_eqH (hl : Hl) (t p q : Int) (xd dt : List Int) : runH gLx Tryz.f5 8 [(4, [1, 2, 3, 7]), (13, [3, 9, 11]), (16, [3, 9, 11, 12])] [4, 13, 16] hl [.d (Y0) (t, xd, dt, ()), I p, I q] [] ah =
  bif decide (Int.ofNat dt.length > 600) then some (AEnd.ret [B true], [])
  else 
    bif decide (p > 50) then some (AEnd.ret [B true], [])
    else 
      bif decide (q > 50) then some (AEnd.ret [B true], [])
      else 
        bif decide (p < 1) then some (AEnd.ret [B true], [])
        else 
          bif decide (q < 1) then some (AEnd.ret [B true], [])
          else hl (cL (cL (cR (cL (cR (cR C_lawx)))))) _ { fr := mkFr 8 [(1, I p), (2, I q), (3, AV.op 0 [] 0), (7, I 0)], hp := [(0, AObj.box (AV.d ((i64T).pair ((i64T).slice.pair ((i64T).slice.pair Ty.unit))) (t, xd, dt, PUnit.unit)))], nx := 1 } (blkK 0 (seqH gLx cf_lawx [4, 13, 16] hl (cR (cR (cR C_lawx))) (endC Tryz.prog 0 Tryz.f5.results.toList ah))) := by kernel_rfl
theorem lawx_eq (t p q : Int) (xd dt : List Int) : runC gLx Tryz.f5 8 [(4, [1, 2, 3, 7]), (13, [3, 9, 11]), (16, [3, 9, 11, 12])] [.d (Y0) (t, xd, dt, ()), I p, I q] [] ah =
  bif decide (Int.ofNat dt.length > 600) then some (AEnd.ret [B true], [])
  else 
    bif decide (p > 50) then some (AEnd.ret [B true], [])
    else 
      bif decide (q > 50) then some (AEnd.ret [B true], [])
      else 
        bif decide (p < 1) then some (AEnd.ret [B true], [])
        else 
          bif decide (q < 1) then some (AEnd.ret [B true], [])
          else (hlp gLx cf_lawx) (cL (cL (cR (cL (cR (cR C_lawx)))))) _ { fr := mkFr 8 [(1, I p), (2, I q), (3, AV.op 0 [] 0), (7, I 0)], hp := [(0, AObj.box (AV.d ((i64T).pair ((i64T).slice.pair ((i64T).slice.pair Ty.unit))) (t, xd, dt, PUnit.unit)))], nx := 1 } (blkK 0 (seqH gLx cf_lawx [4, 13, 16] (hlp gLx cf_lawx) (cR (cR (cR C_lawx))) (endC Tryz.prog 0 Tryz.f5.results.toList ah))) := runH_runC.trans (lawx_eqH (hlp gLx cf_lawx) t p q xd dt)
theorem x0_stepH (hl : Hl) (t p q : Int) (xd dt : List Int) (i : Int) (n : Nat) {R : Type} (k : AEx → LSt → Option R) : lpH gLx cf_lawx [4, 13, 16] hl (cL (cL (cR (cL (cR (cR C_lawx)))))) (n + 1) (stM0 t p q xd dt i) k =
  bif decide (i < Int.ofNat dt.length) then (idx dt i).bind fun v1 =>
      bif v1 == 2143289344 then k AEx.ret { fr := mkFr 8 [(1, I p), (2, I q), (3, AV.op 0 [] 0), (6, B true), (7, I i), (36, I i), (37, AV.op 0 [2] 2), (38, AV.d (i64T).slice dt), (39, I (Int.ofNat dt.length)), (40, B true), (43, AV.op 0 [2] 2), (44, AV.d (i64T).slice dt), (45, I i), (46, AV.ip (i64T) v1), (47, I v1), (48, B true), (49, B true)], hp := [(0, AObj.box (AV.d ((i64T).pair ((i64T).slice.pair ((i64T).slice.pair Ty.unit))) (t, xd, dt, PUnit.unit)))], nx := 1 }
      else lpH gLx cf_lawx [4, 13, 16] hl (cL (cL (cR (cL (cR (cR C_lawx)))))) n { fr := mkFr 8 [(1, I p), (2, I q), (3, AV.op 0 [] 0), (7, I (IntKind.i64.wrap (i + 1)))], hp := [(0, AObj.box (AV.d ((i64T).pair ((i64T).slice.pair ((i64T).slice.pair Ty.unit))) (t, xd, dt, PUnit.unit)))], nx := 1 } k
  else k (AEx.exit 0) { fr := mkFr 8 [(1, I p), (2, I q), (3, AV.op 0 [] 0), (7, I i), (36, I i), (37, AV.op 0 [2] 2), (38, AV.d (i64T).slice dt), (39, I (Int.ofNat dt.length)), (40, B false)], hp := [(0, AObj.box (AV.d ((i64T).pair ((i64T).slice.pair ((i64T).slice.pair Ty.unit))) (t, xd, dt, PUnit.unit)))], nx := 1 } := by kernel_rfl
theorem x0_step (t p q : Int) (xd dt : List Int) (i : Int) (n : Nat) {R : Type} (k : AEx → LSt → Option R) : lp gLx cf_lawx (cL (cL (cR (cL (cR (cR C_lawx)))))) (n + 1) (stM0 t p q xd dt i) k =
  bif decide (i < Int.ofNat dt.length) then (idx dt i).bind fun v1 =>
      bif v1 == 2143289344 then k AEx.ret { fr := mkFr 8 [(1, I p), (2, I q), (3, AV.op 0 [] 0), (6, B true), (7, I i), (36, I i), (37, AV.op 0 [2] 2), (38, AV.d (i64T).slice dt), (39, I (Int.ofNat dt.length)), (40, B true), (43, AV.op 0 [2] 2), (44, AV.d (i64T).slice dt), (45, I i), (46, AV.ip (i64T) v1), (47, I v1), (48, B true), (49, B true)], hp := [(0, AObj.box (AV.d ((i64T).pair ((i64T).slice.pair ((i64T).slice.pair Ty.unit))) (t, xd, dt, PUnit.unit)))], nx := 1 }
      else lp gLx cf_lawx (cL (cL (cR (cL (cR (cR C_lawx)))))) n { fr := mkFr 8 [(1, I p), (2, I q), (3, AV.op 0 [] 0), (7, I (IntKind.i64.wrap (i + 1)))], hp := [(0, AObj.box (AV.d ((i64T).pair ((i64T).slice.pair ((i64T).slice.pair Ty.unit))) (t, xd, dt, PUnit.unit)))], nx := 1 } k
  else k (AEx.exit 0) { fr := mkFr 8 [(1, I p), (2, I q), (3, AV.op 0 [] 0), (7, I i), (36, I i), (37, AV.op 0 [2] 2), (38, AV.d (i64T).slice dt), (39, I (Int.ofNat dt.length)), (40, B false)], hp := [(0, AObj.box (AV.d ((i64T).pair ((i64T).slice.pair ((i64T).slice.pair Ty.unit))) (t, xd, dt, PUnit.unit)))], nx := 1 } := by
  have h := x0_stepH (hlp gLx cf_lawx) t p q xd dt i n k
  simp only [lpH_lp] at h
  exact h
noncomputable def XK0 (hl : Hl) : AEx → LSt → Option (AEnd × LHp) := blkK 0 (seqH gLx cf_lawx [4, 13, 16] hl (cR (cR (cR C_lawx))) (endC Tryz.prog 0 Tryz.f5.results.toList ah))
theorem x0_exit (hl : Hl) (t p q : Int) (xd dt : List Int) (i : Int) : XK0 hl (.exit 0) ⟨frM0 p q dt i, hpM0 t xd dt, 1⟩ =
  bif decide (xd.length ≠ 4 ∧ xd.length ≤ 9223372036854775807 ∧ dt.length ≤ 9223372036854775807) then 
    bif tenE t xd dt != 0 then some (AEnd.ret [B true], [])
    else some (AEnd.ret [B true], [])
  else none := by kernel_rfl
def hpM1 (t a b c d p q : Int) (dt out : List Int) : LHp := [(0, .box (.d (Y0) (t, [a, b, c, d], dt, ()))), (1, .box (.pr (I t) (.pr (.os 2 0) (.pr (.os 3 0) (.d .unit ()))))), (2, .arr 3 i64T 0 false [a, b, p, q]), (3, .arr 2 i64T 0 false out)]
def stM1 (t a b c d p q : Int) (dt out : List Int) (i : Int) : LSt := ⟨mkFr 8 [(3, .op 0 [] 0), (9, .op 1 [] 0), (11, I i)], hpM1 t a b c d p q dt out, 4⟩
def stM2 (t a b c d p q : Int) (dt out : List Int) (i k : Int) : LSt := ⟨mkFr 8 [(3, .op 0 [] 0), (9, .op 1 [] 0), (11, I i), (12, I k)], hpM1 t a b c d p q dt out, 4⟩
theorem m1_stepH (hl : Hl) (t a b c d p q : Int) (dt out : List Int) (i : Int) (n : Nat) {R : Type} (k : AEx → LSt → Option R) : lpH gLm cf_lawm [4, 13, 16] hl (cL (cL (cR (cL (cR (cR (cR (cR (cR (cR C_lawm)))))))))) (n + 1) (stM1 t a b c d p q dt out i) k =
  bif decide (i < p) then hl (cL (cL (cR (cL (cL (cR (cL (cL (cR (cL (cR (cR (cR (cR (cR (cR C_lawm)))))))))))))))) _ { fr := mkFr 8 [(3, AV.op 0 [] 0), (9, AV.op 1 [] 0), (11, I i), (12, I 0)], hp := [(0, AObj.box (AV.d ((i64T).pair ((i64T).slice.pair ((i64T).slice.pair Ty.unit))) (t, [a, b, c, d], dt, PUnit.unit))), (1, AObj.box ((I t).pr ((AV.os 2 0).pr ((AV.os 3 0).pr (AV.d Ty.unit PUnit.unit))))), (2, AObj.arr 3 (i64T) 0 false [a, b, p, q]), (3, AObj.arr 2 (i64T) 0 false out)], nx := 4 } (blkK 4 (blkK 3 (seqH gLm cf_lawm [4, 13, 16] hl (cR (cR (cL (cL (cR (cL (cR (cR (cR (cR (cR (cR C_lawm)))))))))))) (nxtH gLm cf_lawm [4, 13, 16] hl (cL (cL (cR (cL (cR (cR (cR (cR (cR (cR C_lawm)))))))))) n k))))
  else k (AEx.exit 2) { fr := mkFr 8 [(3, AV.op 0 [] 0), (9, AV.op 1 [] 0), (11, I i), (83, I i), (84, AV.op 1 [1] 1), (85, AV.os 2 0), (86, AV.oe 2 0 2), (87, I p), (88, B false)], hp := [(0, AObj.box (AV.d ((i64T).pair ((i64T).slice.pair ((i64T).slice.pair Ty.unit))) (t, [a, b, c, d], dt, PUnit.unit))), (1, AObj.box ((I t).pr ((AV.os 2 0).pr ((AV.os 3 0).pr (AV.d Ty.unit PUnit.unit))))), (2, AObj.arr 3 (i64T) 0 false [a, b, p, q]), (3, AObj.arr 2 (i64T) 0 false out)], nx := 4 } := by kernel_rfl
theorem m1_step (t a b c d p q : Int) (dt out : List Int) (i : Int) (n : Nat) {R : Type} (k : AEx → LSt → Option R) : lp gLm cf_lawm (cL (cL (cR (cL (cR (cR (cR (cR (cR (cR C_lawm)))))))))) (n + 1) (stM1 t a b c d p q dt out i) k =
  bif decide (i < p) then (hlp gLm cf_lawm) (cL (cL (cR (cL (cL (cR (cL (cL (cR (cL (cR (cR (cR (cR (cR (cR C_lawm)))))))))))))))) _ { fr := mkFr 8 [(3, AV.op 0 [] 0), (9, AV.op 1 [] 0), (11, I i), (12, I 0)], hp := [(0, AObj.box (AV.d ((i64T).pair ((i64T).slice.pair ((i64T).slice.pair Ty.unit))) (t, [a, b, c, d], dt, PUnit.unit))), (1, AObj.box ((I t).pr ((AV.os 2 0).pr ((AV.os 3 0).pr (AV.d Ty.unit PUnit.unit))))), (2, AObj.arr 3 (i64T) 0 false [a, b, p, q]), (3, AObj.arr 2 (i64T) 0 false out)], nx := 4 } (blkK 4 (blkK 3 (seqH gLm cf_lawm [4, 13, 16] (hlp gLm cf_lawm) (cR (cR (cL (cL (cR (cL (cR (cR (cR (cR (cR (cR C_lawm)))))))))))) (nxtH gLm cf_lawm [4, 13, 16] (hlp gLm cf_lawm) (cL (cL (cR (cL (cR (cR (cR (cR (cR (cR C_lawm)))))))))) n k))))
  else k (AEx.exit 2) { fr := mkFr 8 [(3, AV.op 0 [] 0), (9, AV.op 1 [] 0), (11, I i), (83, I i), (84, AV.op 1 [1] 1), (85, AV.os 2 0), (86, AV.oe 2 0 2), (87, I p), (88, B false)], hp := [(0, AObj.box (AV.d ((i64T).pair ((i64T).slice.pair ((i64T).slice.pair Ty.unit))) (t, [a, b, c, d], dt, PUnit.unit))), (1, AObj.box ((I t).pr ((AV.os 2 0).pr ((AV.os 3 0).pr (AV.d Ty.unit PUnit.unit))))), (2, AObj.arr 3 (i64T) 0 false [a, b, p, q]), (3, AObj.arr 2 (i64T) 0 false out)], nx := 4 } := by
  have h := m1_stepH (hlp gLm cf_lawm) t a b c d p q dt out i n k
  simp only [lpH_lp] at h
  exact h
theorem m2_stepH (hl : Hl) (t a b c d p q : Int) (dt out : List Int) (i j : Int) (n : Nat) {R : Type} (k : AEx → LSt → Option R) : lpH gLm cf_lawm [4, 13, 16] hl (cL (cL (cR (cL (cL (cR (cL (cL (cR (cL (cR (cR (cR (cR (cR (cR C_lawm)))))))))))))))) (n + 1) (stM2 t a b c d p q dt out i j) k =
  bif decide (j < q) then (idx out (IntKind.i64.wrap (IntKind.i64.wrap (i * q) + j))).bind fun v1 =>
      (out[(IntKind.i64.wrap (IntKind.i64.wrap (i * q) + j)).toNat]?).bind fun v2 =>
        (idx dt (IntKind.i64.wrap (IntKind.i64.wrap (i * d) + j))).bind fun v3 =>
          bif numOk 1 v2 && numOk 1 v3 then 
            bif (rdW v2).order (rdW v3) == some Ordering.lt then k AEx.ret { fr := mkFr 8 [(3, AV.op 0 [] 0), (6, B false), (9, AV.op 1 [] 0), (11, I i), (12, I j), (13, I 1), (14, I 0), (91, I j), (92, AV.op 1 [1] 1), (93, AV.os 2 0), (94, AV.oe 2 0 3), (95, I q), (96, B true), (99, AV.tup [I 1, I 0]), (100, AV.op 1 [2] 2), (101, AV.os 3 0), (102, I i), (103, AV.op 1 [1] 1), (104, AV.os 2 0), (105, AV.oe 2 0 3), (106, I q), (107, I (IntKind.i64.wrap (i * q))), (108, I j), (109, I (IntKind.i64.wrap (IntKind.i64.wrap (i * q) + j))), (110, AV.oe 3 0 (IntKind.i64.wrap (IntKind.i64.wrap (i * q) + j)).toNat), (111, I v2), (112, AV.op 0 [2] 2), (113, AV.d (i64T).slice dt), (114, I i), (115, AV.op 0 [1] 1), (116, AV.d (i64T).slice [a, b, c, d]), (117, AV.ip (i64T) d), (118, I d), (119, I (IntKind.i64.wrap (i * d))), (120, I j), (121, I (IntKind.i64.wrap (IntKind.i64.wrap (i * d) + j))), (122, AV.ip (i64T) v3), (123, I v3), (124, AV.tup [I 1, I 0]), (125, I 1), (126, I 0), (127, I 0), (128, B false), (129, B false), (130, I 1), (131, B true), (132, B true)], hp := [(0, AObj.box (AV.d ((i64T).pair ((i64T).slice.pair ((i64T).slice.pair Ty.unit))) (t, [a, b, c, d], dt, PUnit.unit))), (1, AObj.box ((I t).pr ((AV.os 2 0).pr ((AV.os 3 0).pr (AV.d Ty.unit PUnit.unit))))), (2, AObj.arr 3 (i64T) 0 false [a, b, p, q]), (3, AObj.arr 2 (i64T) 0 false out)], nx := 4 }
            else lpH gLm cf_lawm [4, 13, 16] hl (cL (cL (cR (cL (cL (cR (cL (cL (cR (cL (cR (cR (cR (cR (cR (cR C_lawm)))))))))))))))) n { fr := mkFr 8 [(3, AV.op 0 [] 0), (9, AV.op 1 [] 0), (11, I i), (12, I (IntKind.i64.wrap (j + 1)))], hp := [(0, AObj.box (AV.d ((i64T).pair ((i64T).slice.pair ((i64T).slice.pair Ty.unit))) (t, [a, b, c, d], dt, PUnit.unit))), (1, AObj.box ((I t).pr ((AV.os 2 0).pr ((AV.os 3 0).pr (AV.d Ty.unit PUnit.unit))))), (2, AObj.arr 3 (i64T) 0 false [a, b, p, q]), (3, AObj.arr 2 (i64T) 0 false out)], nx := 4 } k
          else none
  else k (AEx.exit 4) { fr := mkFr 8 [(3, AV.op 0 [] 0), (9, AV.op 1 [] 0), (11, I i), (12, I j), (91, I j), (92, AV.op 1 [1] 1), (93, AV.os 2 0), (94, AV.oe 2 0 3), (95, I q), (96, B false)], hp := [(0, AObj.box (AV.d ((i64T).pair ((i64T).slice.pair ((i64T).slice.pair Ty.unit))) (t, [a, b, c, d], dt, PUnit.unit))), (1, AObj.box ((I t).pr ((AV.os 2 0).pr ((AV.os 3 0).pr (AV.d Ty.unit PUnit.unit))))), (2, AObj.arr 3 (i64T) 0 false [a, b, p, q]), (3, AObj.arr 2 (i64T) 0 false out)], nx := 4 } := by kernel_rfl
theorem m2_step (t a b c d p q : Int) (dt out : List Int) (i j : Int) (n : Nat) {R : Type} (k : AEx → LSt → Option R) : lp gLm cf_lawm (cL (cL (cR (cL (cL (cR (cL (cL (cR (cL (cR (cR (cR (cR (cR (cR C_lawm)))))))))))))))) (n + 1) (stM2 t a b c d p q dt out i j) k =
  bif decide (j < q) then (idx out (IntKind.i64.wrap (IntKind.i64.wrap (i * q) + j))).bind fun v1 =>
      (out[(IntKind.i64.wrap (IntKind.i64.wrap (i * q) + j)).toNat]?).bind fun v2 =>
        (idx dt (IntKind.i64.wrap (IntKind.i64.wrap (i * d) + j))).bind fun v3 =>
          bif numOk 1 v2 && numOk 1 v3 then 
            bif (rdW v2).order (rdW v3) == some Ordering.lt then k AEx.ret { fr := mkFr 8 [(3, AV.op 0 [] 0), (6, B false), (9, AV.op 1 [] 0), (11, I i), (12, I j), (13, I 1), (14, I 0), (91, I j), (92, AV.op 1 [1] 1), (93, AV.os 2 0), (94, AV.oe 2 0 3), (95, I q), (96, B true), (99, AV.tup [I 1, I 0]), (100, AV.op 1 [2] 2), (101, AV.os 3 0), (102, I i), (103, AV.op 1 [1] 1), (104, AV.os 2 0), (105, AV.oe 2 0 3), (106, I q), (107, I (IntKind.i64.wrap (i * q))), (108, I j), (109, I (IntKind.i64.wrap (IntKind.i64.wrap (i * q) + j))), (110, AV.oe 3 0 (IntKind.i64.wrap (IntKind.i64.wrap (i * q) + j)).toNat), (111, I v2), (112, AV.op 0 [2] 2), (113, AV.d (i64T).slice dt), (114, I i), (115, AV.op 0 [1] 1), (116, AV.d (i64T).slice [a, b, c, d]), (117, AV.ip (i64T) d), (118, I d), (119, I (IntKind.i64.wrap (i * d))), (120, I j), (121, I (IntKind.i64.wrap (IntKind.i64.wrap (i * d) + j))), (122, AV.ip (i64T) v3), (123, I v3), (124, AV.tup [I 1, I 0]), (125, I 1), (126, I 0), (127, I 0), (128, B false), (129, B false), (130, I 1), (131, B true), (132, B true)], hp := [(0, AObj.box (AV.d ((i64T).pair ((i64T).slice.pair ((i64T).slice.pair Ty.unit))) (t, [a, b, c, d], dt, PUnit.unit))), (1, AObj.box ((I t).pr ((AV.os 2 0).pr ((AV.os 3 0).pr (AV.d Ty.unit PUnit.unit))))), (2, AObj.arr 3 (i64T) 0 false [a, b, p, q]), (3, AObj.arr 2 (i64T) 0 false out)], nx := 4 }
            else lp gLm cf_lawm (cL (cL (cR (cL (cL (cR (cL (cL (cR (cL (cR (cR (cR (cR (cR (cR C_lawm)))))))))))))))) n { fr := mkFr 8 [(3, AV.op 0 [] 0), (9, AV.op 1 [] 0), (11, I i), (12, I (IntKind.i64.wrap (j + 1)))], hp := [(0, AObj.box (AV.d ((i64T).pair ((i64T).slice.pair ((i64T).slice.pair Ty.unit))) (t, [a, b, c, d], dt, PUnit.unit))), (1, AObj.box ((I t).pr ((AV.os 2 0).pr ((AV.os 3 0).pr (AV.d Ty.unit PUnit.unit))))), (2, AObj.arr 3 (i64T) 0 false [a, b, p, q]), (3, AObj.arr 2 (i64T) 0 false out)], nx := 4 } k
          else none
  else k (AEx.exit 4) { fr := mkFr 8 [(3, AV.op 0 [] 0), (9, AV.op 1 [] 0), (11, I i), (12, I j), (91, I j), (92, AV.op 1 [1] 1), (93, AV.os 2 0), (94, AV.oe 2 0 3), (95, I q), (96, B false)], hp := [(0, AObj.box (AV.d ((i64T).pair ((i64T).slice.pair ((i64T).slice.pair Ty.unit))) (t, [a, b, c, d], dt, PUnit.unit))), (1, AObj.box ((I t).pr ((AV.os 2 0).pr ((AV.os 3 0).pr (AV.d Ty.unit PUnit.unit))))), (2, AObj.arr 3 (i64T) 0 false [a, b, p, q]), (3, AObj.arr 2 (i64T) 0 false out)], nx := 4 } := by
  have h := m2_stepH (hlp gLm cf_lawm) t a b c d p q dt out i j n k
  simp only [lpH_lp] at h
  exact h
def frM0r (p q : Int) (dt : List Int) (i x : Int) : Tr := mkFr 8 [(1, I p), (2, I q), (3, AV.op 0 [] 0), (6, B true), (7, I i), (36, I i), (37, AV.op 0 [2] 2), (38, AV.d (.slice i64T) dt), (39, I (Int.ofNat dt.length)), (40, B true), (43, AV.op 0 [2] 2), (44, AV.d (.slice i64T) dt), (45, I i), (46, AV.ip i64T x), (47, I x), (48, B true), (49, B true)]
def frM1e (p i : Int) : Tr := mkFr 8 [(3, AV.op 0 [] 0), (9, AV.op 1 [] 0), (11, I i), (83, I i), (84, AV.op 1 [1] 1), (85, AV.os 2 0), (86, AV.oe 2 0 2), (87, I p), (88, B false)]
def frM2e (q i j : Int) : Tr := mkFr 8 [(3, AV.op 0 [] 0), (9, AV.op 1 [] 0), (11, I i), (12, I j), (91, I j), (92, AV.op 1 [1] 1), (93, AV.os 2 0), (94, AV.oe 2 0 3), (95, I q), (96, B false)]
noncomputable def MK1 : AEx → LSt → Option (AEnd × LHp) := blkK 2 (seqH gLm cf_lawm [4, 13, 16] (hlp gLm cf_lawm) (cR (cR (cR (cR (cR (cR (cR C_lawm))))))) (endC Tryz.prog 0 Tryz.f5.results.toList ah))
theorem MK1_exit (t a b c d p q : Int) (dt out : List Int) (i : Int) : MK1 (.exit 2) ⟨frM1e p i, hpM1 t a b c d p q dt out, 4⟩ = some (.ret [B true], []) := by kernel_rfl
theorem m_k2 (t a b c d p q : Int) (dt out : List Int) (i j : Int) (n : Nat) {R : Type} (k : AEx → LSt → Option R) : (blkK 4 (blkK 3 (seqH gLm cf_lawm [4, 13, 16] (hlp gLm cf_lawm) (cR (cR (cL (cL (cR (cL (cR (cR (cR (cR (cR (cR C_lawm)))))))))))) (nxtH gLm cf_lawm [4, 13, 16] (hlp gLm cf_lawm) (cL (cL (cR (cL (cR (cR (cR (cR (cR (cR C_lawm)))))))))) n k)))) (.exit 4) ⟨frM2e q i j, hpM1 t a b c d p q dt out, 4⟩ = lp gLm cf_lawm (cL (cL (cR (cL (cR (cR (cR (cR (cR (cR C_lawm)))))))))) n (stM1 t a b c d p q dt out (IntKind.i64.wrap (i + 1))) k :=
  Eq.trans (b := lpH gLm cf_lawm [4, 13, 16] (hlp gLm cf_lawm) (cL (cL (cR (cL (cR (cR (cR (cR (cR (cR C_lawm)))))))))) n (stM1 t a b c d p q dt out (IntKind.i64.wrap (i + 1))) k) (by kernel_rfl) lpH_lp
theorem MK0_ret (t p q : Int) (xd dt : List Int) (i x : Int) : MK0 (hlp gLm cf_lawm) .ret ⟨frM0r p q dt i x, hpM0 t xd dt, 1⟩ = some (.ret [B true], []) := by kernel_rfl
theorem XK0_ret (t p q : Int) (xd dt : List Int) (i x : Int) : XK0 (hlp gLx cf_lawx) .ret ⟨frM0r p q dt i x, hpM0 t xd dt, 1⟩ = some (.ret [B true], []) := by kernel_rfl
theorem lawm_lp (t p q : Int) (xd dt : List Int) (h1 : decide (Int.ofNat dt.length > 600) = false) (h2 : decide (p > 50) = false) (h3 : decide (q > 50) = false) (h4 : decide (p < 1) = false) (h5 : decide (q < 1) = false) : runC gLm Tryz.f5 8 [(4, [1, 2, 3, 7]), (13, [3, 9, 11]), (16, [3, 9, 11, 12])] [.d (Y0) (t, xd, dt, ()), I p, I q] [] ah = lp gLm cf_lawm (cL (cL (cR (cL (cR (cR C_lawm)))))) fu (stM0 t p q xd dt 0) (MK0 (hlp gLm cf_lawm)) := (lawm_eq t p q xd dt).trans (by rw [h1, h2, h3, h4, h5, cond_false, cond_false, cond_false, cond_false, cond_false]; kernel_rfl)
theorem lawx_lp (t p q : Int) (xd dt : List Int) (h1 : decide (Int.ofNat dt.length > 600) = false) (h2 : decide (p > 50) = false) (h3 : decide (q > 50) = false) (h4 : decide (p < 1) = false) (h5 : decide (q < 1) = false) : runC gLx Tryz.f5 8 [(4, [1, 2, 3, 7]), (13, [3, 9, 11]), (16, [3, 9, 11, 12])] [.d (Y0) (t, xd, dt, ()), I p, I q] [] ah = lp gLx cf_lawx (cL (cL (cR (cL (cR (cR C_lawx)))))) fu (stM0 t p q xd dt 0) (XK0 (hlp gLx cf_lawx)) := (lawx_eq t p q xd dt).trans (by rw [h1, h2, h3, h4, h5, cond_false, cond_false, cond_false, cond_false, cond_false]; kernel_rfl)
theorem m0_in (t a b c d p q : Int) (dt : List Int) (i : Int) (h1 : dt.length ≤ maxLen) (h2 : (tenE t [a, b, c, d] dt != 0) = false) (h3 : (t != 1 || !fits c d p q) = false) : MK0 (hlp gLm cf_lawm) (.exit 0) ⟨frM0 p q dt i, hpM0 t [a, b, c, d] dt, 1⟩ = lp gLm cf_lawm (cL (cL (cR (cL (cR (cR (cR (cR (cR (cR C_lawm)))))))))) fu (stM1 t a b c d (c - p + 1) (d - q + 1) dt (poolL strMP dt (a * b).toNat (c * d).toNat d.toNat p.toNat q.toNat (c - p + 1).toNat (d - q + 1).toNat) 0) MK1 := (m0_exit (hlp gLm cf_lawm) t a b c d p q dt i).trans (by rw [decide_eq_true (show dt.length ≤ 9223372036854775807 from h1), h2, h3, cond_true, cond_false, cond_false]; kernel_rfl)
theorem m1_in (t a b c d p q : Int) (dt out : List Int) (i : Int) (n : Nat) {R : Type} (k : AEx → LSt → Option R) (h : i < p) : lp gLm cf_lawm (cL (cL (cR (cL (cR (cR (cR (cR (cR (cR C_lawm)))))))))) (n + 1) (stM1 t a b c d p q dt out i) k = lp gLm cf_lawm (cL (cL (cR (cL (cL (cR (cL (cL (cR (cL (cR (cR (cR (cR (cR (cR C_lawm)))))))))))))))) fu (stM2 t a b c d p q dt out i 0) (blkK 4 (blkK 3 (seqH gLm cf_lawm [4, 13, 16] (hlp gLm cf_lawm) (cR (cR (cL (cL (cR (cL (cR (cR (cR (cR (cR (cR C_lawm)))))))))))) (nxtH gLm cf_lawm [4, 13, 16] (hlp gLm cf_lawm) (cL (cL (cR (cL (cR (cR (cR (cR (cR (cR C_lawm)))))))))) n k)))) := (m1_step t a b c d p q dt out i n k).trans (by rw [decide_eq_true h, cond_true]; kernel_rfl)
end Go.Proofs.XGT
/- The law ConvMost answers true, whatever the tensor and the kernel. -/
namespace Go.Proofs.XGT
open Go.Vm Go
set_option maxRecDepth 100000
set_option maxHeartbeats 1000000
/-! ### what comes out of a MaxPool -/
theorem flat_get {α β : Type} {f : α → List β} {n : Nat} (h : ∀ a, (f a).length = n) {j : Nat} (hj : j < n) : ∀ (l : List α) (i : Nat), (l.flatMap f)[i * n + j]? = (l[i]?).bind fun a => (f a)[j]?
  | [], i => by simp
  | a :: l, 0 => by
    rw [List.flatMap_cons, Nat.zero_mul, Nat.zero_add, List.getElem?_append_left (by rw [h]; exact hj)]
    rfl
  | a :: l, i + 1 => by
    have e : (i + 1) * n + j = n + (i * n + j) := by rw [Nat.add_mul]; omega
    rw [List.flatMap_cons, List.getElem?_append_right (by rw [h, e]; omega), h, e, Nat.add_sub_cancel_left, flat_get h hj l i]
    rfl
theorem pool_get {op : List UInt8} {dt : List Int} {P PE W KH KW D2 D i j : Nat} (hP : 1 ≤ P) (hi : i < D2) (hj : j < D) : (poolL op dt P PE W KH KW D2 D)[i * D + j]? = some (togR op (dt.take PE) W KH KW i j) := by
  have h1 : i * D + j < D2 * D := by
    have : (i + 1) * D ≤ D2 * D := Nat.mul_le_mul_right _ (by omega)
    rw [Nat.add_mul] at this
    omega
  obtain ⟨P', rfl⟩ : ∃ P', P = P' + 1 := ⟨P - 1, by omega⟩
  unfold poolL
  rw [List.range'_succ, List.flatMap_cons, List.getElem?_append_left (by rw [planeL_length]; exact h1)]
  unfold planeL
  rw [flat_get (fun a => rowL_length _ _ _ _ _ _ a) hj, List.getElem?_range' (by exact hi)]
  simp only [Nat.zero_mul, List.drop_zero, Nat.zero_add, Nat.one_mul, Option.bind_some]
  unfold rowL
  rw [List.getElem?_map, List.getElem?_range' (by exact hj)]
  simp
theorem stepS_max (i : Nat) (s x : Int) : stepS strMP i s x = bif (i : Int) == 0 then x else maxW s x := rfl
theorem tog_good {pic : List Int} {H W KH KW h w : Nat} (hh : h + KH ≤ H) (hw : w + KW ≤ W) (hp : H * W ≤ pic.length) (hg : ∀ x ∈ pic, good x) : ∀ i, i + 1 ≤ KH * KW → good (togF strMP pic W KW h w (i + 1)) ∧ keyI (pic.getD (spotI W KW h w 0) 0) ≤ keyI (togF strMP pic W KW h w (i + 1)) := by
  intro i
  induction i with
  | zero =>
    intro hi
    have h0 := spot_lt (i := 0) (by omega) hh hw hp
    have e : togF strMP pic W KW h w (0 + 1) = pic.getD (spotI W KW h w 0) 0 := by simp only [togF, stepS_max]; rfl
    rw [e]
    exact ⟨hg _ (List.mem_of_getElem? h0), Int.le_refl _⟩
  | succ i ih =>
    intro hi
    obtain ⟨g1, g2⟩ := ih (by omega)
    have h0 := spot_lt (i := i + 1) (by omega) hh hw hp
    have e : togF strMP pic W KW h w (i + 1 + 1) = maxW (togF strMP pic W KW h w (i + 1)) (pic.getD (spotI W KW h w (i + 1)) 0) := by
      rw [togF, stepS_max, show (((i + 1 : Nat) : Int) == 0) = false by simp; omega, cond_false]
    obtain ⟨k1, k2⟩ := max_good g1 (hg _ (List.mem_of_getElem? h0))
    rw [e]
    exact ⟨k1, Int.le_trans g2 k2⟩
theorem togR_max (pic : List Int) (W KH KW a b : Nat) : togR strMP pic W KH KW a b = togF strMP pic W KW a b (KH * KW) := rfl
/-! ### the loops -/
def okAt (out dt : List Int) (D W i j : Nat) : Prop := ∃ u x, out[i * D + j]? = some u ∧ dt[i * W + j]? = some x ∧ good u ∧ good x ∧ keyI x ≤ keyI u
theorem m2_all {t a b c p : Int} {d q : Int} {dt out : List Int} {W D i : Nat} (hd : d = (W : Int)) (hq : q = (D : Int)) (hW : W ≤ 65536) (hD : D ≤ 65536) (hi : i ≤ 65536) (hok : ∀ j, j < D → okAt out dt D W i j) {R : Type} (k : AEx → LSt → Option R) :
    ∀ (r j m : Nat), j + r = D → r < m → lp gLm cf_lawm (cL (cL (cR (cL (cL (cR (cL (cL (cR (cL (cR (cR (cR (cR (cR (cR C_lawm)))))))))))))))) m (stM2 t a b c d p q dt out i j) k = k (.exit 4) ⟨frM2e q i D, hpM1 t a b c d p q dt out, 4⟩ := by
  intro r
  induction r with
  | zero =>
    intro j m hj hm
    obtain ⟨m, rfl⟩ : ∃ m', m = m' + 1 := ⟨m - 1, by omega⟩
    obtain rfl : j = D := by omega
    subst hq
    rw [m2_step, decide_eq_false (Int.lt_irrefl _)]
    rfl
  | succ r ih =>
    intro j m hj hm
    obtain ⟨m, rfl⟩ : ∃ m', m = m' + 1 := ⟨m - 1, by omega⟩
    obtain ⟨u, x, h1, h2, h3, h4, h5⟩ := hok j (by omega)
    have b1 : i * D ≤ 65536 * 65536 := Nat.mul_le_mul hi hD
    have b2 : i * W ≤ 65536 * 65536 := Nat.mul_le_mul hi hW
    have f0 : IntKind.i64.wrap ((j : Int) + 1) = ((j + 1 : Nat) : Int) := by rw [wrap64 (by omega) (by omega)]; omega
    have f1 : IntKind.i64.wrap ((i : Int) * q) = ((i * D : Nat) : Int) := by rw [hq, ← Int.natCast_mul]; exact wrap64 (by omega) (by omega)
    have f2 : IntKind.i64.wrap ((i : Int) * d) = ((i * W : Nat) : Int) := by rw [hd, ← Int.natCast_mul]; exact wrap64 (by omega) (by omega)
    have f3 : IntKind.i64.wrap (((i * D : Nat) : Int) + j) = ((i * D + j : Nat) : Int) := by rw [wrap64 (by omega) (by omega)]; omega
    have f4 : IntKind.i64.wrap (((i * W : Nat) : Int) + j) = ((i * W + j : Nat) : Int) := by rw [wrap64 (by omega) (by omega)]; omega
    rw [m2_step, decide_eq_true (show (j : Int) < q by omega)]
    simp only [cond_true, f0, f1, f2, f3, f4, Int.toNat_natCast, idx_nat2 h1, idx_nat2 h2, h1, Option.bind_some, h3.1, h4.1, Bool.and_true, not_less h3 h4 h5, cond_false]
    exact ih (j + 1) m (by omega) (by omega)
theorem m1_all {t a b c p : Int} {d q : Int} {dt out : List Int} {W D D2 : Nat} (hd : d = (W : Int)) (hq : q = (D : Int)) (hp : p = (D2 : Int)) (hW : W ≤ 65536) (hD : D ≤ 65536) (hD2 : D2 ≤ 65536) (hok : ∀ i, i < D2 → ∀ j, j < D → okAt out dt D W i j) {R : Type} (k : AEx → LSt → Option R) :
    ∀ (r i m : Nat), i + r = D2 → r < m → lp gLm cf_lawm (cL (cL (cR (cL (cR (cR (cR (cR (cR (cR C_lawm)))))))))) m (stM1 t a b c d p q dt out i) k = k (.exit 2) ⟨frM1e p D2, hpM1 t a b c d p q dt out, 4⟩ := by
  intro r
  induction r with
  | zero =>
    intro i m hi hm
    obtain ⟨m, rfl⟩ : ∃ m', m = m' + 1 := ⟨m - 1, by omega⟩
    obtain rfl : i = D2 := by omega
    subst hp
    rw [m1_step, decide_eq_false (Int.lt_irrefl _)]
    rfl
  | succ r ih =>
    intro i m hi hm
    obtain ⟨m, rfl⟩ : ∃ m', m = m' + 1 := ⟨m - 1, by omega⟩
    have f0 : IntKind.i64.wrap ((i : Int) + 1) = ((i + 1 : Nat) : Int) := by rw [wrap64 (by omega) (by omega)]; omega
    have key := fun k' : AEx → LSt → Option R => m2_all (t := t) (a := a) (b := b) (c := c) (p := p) (dt := dt) (out := out) hd hq hW hD (show i ≤ 65536 by omega) (hok i (by omega)) k' D 0 fu (by omega) (by unfold fu; omega)
    refine (m1_in t a b c d p q dt out i m k (by omega)).trans ?_
    refine (key _).trans ?_
    refine (m_k2 t a b c d p q dt out i D m k).trans ?_
    rw [f0]
    exact ih (i + 1) m (by omega) (by omega)
/-! ### the law -/
theorem lawm_true4 (t a b c d p q : Int) (dt : List Int) (h1 : dt.length ≤ maxLen) : runC gLm Tryz.f5 8 [(4, [1, 2, 3, 7]), (13, [3, 9, 11]), (16, [3, 9, 11, 12])] [.d (Y0) (t, [a, b, c, d], dt, ()), I p, I q] [] ah = some (.ret [B true], []) := by
  cases c1 : decide (Int.ofNat dt.length > 600) with
  | true => rw [lawm_eq, c1]; rfl
  | false =>
  cases c2 : decide (p > 50) with
  | true => rw [lawm_eq, c1, c2]; rfl
  | false =>
  cases c3 : decide (q > 50) with
  | true => rw [lawm_eq, c1, c2, c3]; rfl
  | false =>
  cases c4 : decide (p < 1) with
  | true => rw [lawm_eq, c1, c2, c3, c4]; rfl
  | false =>
  cases c5 : decide (q < 1) with
  | true => rw [lawm_eq, c1, c2, c3, c4, c5]; rfl
  | false =>
  rw [lawm_lp t p q _ dt c1 c2 c3 c4 c5]
  have h := find_lp (T := fun n s => lp gLm cf_lawm (cL (cL (cR (cL (cR (cR C_lawm)))))) n s (MK0 (hlp gLm cf_lawm))) (xs := dt) (p := fun x => x == 2143289344) (st := fun i => stM0 t p q [a, b, c, d] dt i) h1 (fun i n => m0_step t p q [a, b, c, d] dt i n _)
  refine Eq.trans h ?_
  cases hq : dt.findIdx? (fun x => x == 2143289344) with
  | some i =>
    obtain ⟨hi, _⟩ := List.findIdx?_eq_some_iff_getElem.1 hq
    simp only [List.getElem?_eq_getElem hi, Option.bind_some]
    exact MK0_ret t p q [a, b, c, d] dt _ _
  | none =>
    rw [List.findIdx?_eq_none_iff] at hq
    show MK0 (hlp gLm cf_lawm) (.exit 0) ⟨frM0 p q dt (Int.ofNat dt.length), hpM0 t [a, b, c, d] dt, 1⟩ = _
    cases ht : tenE t [a, b, c, d] dt != 0 with
    | true =>
      refine (m0_exit (hlp gLm cf_lawm) t a b c d p q dt _).trans ?_
      rw [decide_eq_true (show dt.length ≤ 9223372036854775807 from h1), ht]
      rfl
    | false =>
      cases hf : (t != 1 || !fits c d p q) with
      | true =>
        refine (m0_exit (hlp gLm cf_lawm) t a b c d p q dt _).trans ?_
        rw [decide_eq_true (show dt.length ≤ 9223372036854775807 from h1), ht, hf]
        rfl
      | false =>
        rw [m0_in t a b c d p q dt _ h1 ht hf]
        obtain ⟨n0, n1, n2, n3⟩ := ten_ok (by simpa using ht)
        obtain ⟨f, hN⟩ := four_ok n1
        rw [hN] at n2
        simp only [Bool.or_eq_false_iff, Bool.not_eq_false', bne_eq_false_iff_eq] at hf
        obtain ⟨ht1, hfit⟩ := hf
        subst ht1
        unfold fits at hfit
        simp only [Bool.and_eq_true, decide_eq_true_eq] at hfit
        obtain ⟨⟨⟨⟨⟨g1, g2⟩, g3⟩, g4⟩, g5⟩, g6⟩ := hfit
        have hab := f.ab
        have := f.c1
        have := f.d1
        have := f.c2
        have := f.d2
        have hgood : ∀ x ∈ dt, good x := fun x hx => ⟨n3 x hx, by have := hq x hx; simpa using this⟩
        obtain ⟨A, hA⟩ := Int.eq_ofNat_of_zero_le (show 0 ≤ a * b by omega)
        obtain ⟨H, rfl⟩ := Int.eq_ofNat_of_zero_le (show 0 ≤ c by omega)
        obtain ⟨W, rfl⟩ := Int.eq_ofNat_of_zero_le (show 0 ≤ d by omega)
        obtain ⟨KH, rfl⟩ := Int.eq_ofNat_of_zero_le (show 0 ≤ p by omega)
        obtain ⟨KW, rfl⟩ := Int.eq_ofNat_of_zero_le (show 0 ≤ q by omega)
        have k1 : (H : Int) - KH + 1 = ((H - KH + 1 : Nat) : Int) := by omega
        have k2 : (W : Int) - KW + 1 = ((W - KW + 1 : Nat) : Int) := by omega
        have hlen : dt.length = A * (H * W) := by
          rw [hA, ← Int.natCast_mul, ← Int.natCast_mul] at n2
          exact Int.ofNat.inj n2
        have hA1 : 1 ≤ A := by omega
        have hHW : H * W ≤ dt.length := by rw [hlen]; exact Nat.le_mul_of_pos_left _ hA1
        have hKK : 1 ≤ KH * KW := Nat.mul_pos (by omega) (by omega)
        rw [k1, k2, hA, ← Int.natCast_mul]
        simp only [Int.toNat_natCast]
        have hok : ∀ i, i < H - KH + 1 → ∀ j, j < W - KW + 1 → okAt (poolL strMP dt A (H * W) W KH KW (H - KH + 1) (W - KW + 1)) dt (W - KW + 1) W i j := by
          intro i hi j hj
          have hlt : i * W + j < H * W := by
            have : (i + 1) * W ≤ H * W := Nat.mul_le_mul_right _ (by omega)
            rw [Nat.add_mul] at this
            omega
          have hpic : (dt.take (H * W)).length = H * W := by rw [List.length_take]; omega
          obtain ⟨m, hm⟩ : ∃ m, KH * KW = m + 1 := ⟨KH * KW - 1, by omega⟩
          have hg2 : ∀ x ∈ dt.take (H * W), good x := fun x hx => hgood x (List.mem_of_mem_take hx)
          obtain ⟨t1, t2⟩ := tog_good (pic := dt.take (H * W)) (H := H) (W := W) (KH := KH) (KW := KW) (h := i) (w := j) (by omega) (by omega) (by omega) hg2 m (by omega)
          rw [← hm] at t1 t2
          have hs : spotI W KW i j 0 = i * W + j := by unfold spotI; simp
          have hx : dt[i * W + j]? = some dt[i * W + j] := List.getElem?_eq_getElem (by omega)
          have hx2 : (dt.take (H * W)).getD (spotI W KW i j 0) 0 = dt[i * W + j] := by
            rw [hs, List.getD_eq_getElem?_getD, List.getElem?_take, if_pos hlt, hx]
            rfl
          rw [hx2] at t2
          exact ⟨_, _, pool_get hA1 hi hj, hx, t1, hgood _ (List.mem_of_getElem? hx), t2⟩
        have key := m1_all (t := 1) (a := a) (b := b) (c := (H : Int)) (dt := dt) (out := poolL strMP dt A (H * W) W KH KW (H - KH + 1) (W - KW + 1)) (rfl : ((W : Nat) : Int) = (W : Int)) (rfl : ((W - KW + 1 : Nat) : Int) = ((W - KW + 1 : Nat) : Int)) (rfl : ((H - KH + 1 : Nat) : Int) = ((H - KH + 1 : Nat) : Int)) (by omega) (by omega) (by omega) hok MK1 (H - KH + 1) 0 fu (by omega) (by unfold fu; omega)
        refine Eq.trans key ?_
        exact MK1_exit _ _ _ _ _ _ _ _ _ _
theorem lawx_true (t p q : Int) (xd dt : List Int) (h4 : xd.length ≠ 4) (h0 : xd.length ≤ maxLen) (h1 : dt.length ≤ maxLen) : runC gLx Tryz.f5 8 [(4, [1, 2, 3, 7]), (13, [3, 9, 11]), (16, [3, 9, 11, 12])] [.d (Y0) (t, xd, dt, ()), I p, I q] [] ah = some (.ret [B true], []) := by
  cases c1 : decide (Int.ofNat dt.length > 600) with
  | true => rw [lawx_eq, c1]; rfl
  | false =>
  cases c2 : decide (p > 50) with
  | true => rw [lawx_eq, c1, c2]; rfl
  | false =>
  cases c3 : decide (q > 50) with
  | true => rw [lawx_eq, c1, c2, c3]; rfl
  | false =>
  cases c4 : decide (p < 1) with
  | true => rw [lawx_eq, c1, c2, c3, c4]; rfl
  | false =>
  cases c5 : decide (q < 1) with
  | true => rw [lawx_eq, c1, c2, c3, c4, c5]; rfl
  | false =>
  rw [lawx_lp t p q _ dt c1 c2 c3 c4 c5]
  have h := find_lp (T := fun n s => lp gLx cf_lawx (cL (cL (cR (cL (cR (cR C_lawx)))))) n s (XK0 (hlp gLx cf_lawx))) (xs := dt) (p := fun x => x == 2143289344) (st := fun i => stM0 t p q xd dt i) h1 (fun i n => x0_step t p q xd dt i n _)
  refine Eq.trans h ?_
  cases hq : dt.findIdx? (fun x => x == 2143289344) with
  | some i =>
    obtain ⟨hi, _⟩ := List.findIdx?_eq_some_iff_getElem.1 hq
    simp only [List.getElem?_eq_getElem hi, Option.bind_some]
    exact XK0_ret t p q xd dt _ _
  | none =>
    show XK0 (hlp gLx cf_lawx) (.exit 0) ⟨frM0 p q dt (Int.ofNat dt.length), hpM0 t xd dt, 1⟩ = _
    refine (x0_exit (hlp gLx cf_lawx) t p q xd dt _).trans ?_
    rw [decide_eq_true (show xd.length ≠ 4 ∧ xd.length ≤ 9223372036854775807 ∧ dt.length ≤ 9223372036854775807 from ⟨h4, h0, h1⟩)]
    cases tenE t xd dt != 0 <;> rfl
theorem lawm_call (t : Int) (xd dt : List Int) (h1 : xd.length ≤ maxLen) (h2 : dt.length ≤ maxLen) (p q : Int) : FnH Tryz.prog (Env.gam e0) 5 [.d (Y0) (t, xd, dt, ()), I p, I q] (hget []) (fun ae h1 => ae = .ret [B true] ∧ h1 = hget []) := by
  by_cases h : xd.length = 4
  · obtain ⟨a, b, c, d, rfl⟩ := four h
    exact runC_call gLm_good hmix Tryz.func5 Tryz.call5 (by decide +kernel) rfl (lawm_true4 t a b c d p q dt h2)
  · exact runC_call gLx_good hmix Tryz.func5 Tryz.call5 (by decide +kernel) rfl (lawx_true t p q xd dt h h1 h2)
end Go.Proofs.XGT
