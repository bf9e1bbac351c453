/- linear.matmul of two rows of matrices, and linear.Do of them. -/
import Derived.Test.YtbijfcooljoogaaGreatDoorP6
import Derived.Test.YtbijfcooljoogaaGreatDoorP2
import Derived.Test.YtbijfcooljoogaaGreatDoorP4
import Derived.Test.YtbijfcooljoogaaGreatDoorP3

namespace Go.Proofs.XGT
open Go.Vm Go
set_option maxRecDepth 100000
set_option maxHeartbeats 4000000
def rowM (x : List Int) (i k : Nat) : List Int := (x.drop (i * k)).take k
def batL (a b d : Nat) (x y : List Int) (c : Nat) : List Int := (List.range c).flatMap fun i => prodL a b d (rowM x i (a * b)) (rowM y i (b * d))
theorem batL_succ (a b d : Nat) (x y : List Int) (c : Nat) : batL a b d x y (c + 1) = batL a b d x y c ++ prodL a b d (rowM x c (a * b)) (rowM y c (b * d)) := by
  unfold batL
  rw [List.range_succ, List.flatMap_append]
  simp
theorem batL_len (a b d : Nat) (x y : List Int) : ∀ c, (batL a b d x y c).length = c * (a * d)
  | 0 => by simp [batL]
  | c + 1 => by rw [batL_succ, List.length_append, batL_len a b d x y c, prodL_length, Nat.add_mul, Nat.one_mul]
theorem mats_get {x : List Int} {a b c i : Nat} (h : i < c) : (mats x a b c)[i]? = some ((a : Int), (b : Int), rowM x i (a * b), ()) := by
  unfold mats
  rw [List.getElem?_map, List.getElem?_range h]
  rfl
/-- what is known of two rows of matrices -/
structure OkB (c a b d : Nat) (x y : List Int) : Prop where
  c1 : 1 ≤ c
  a1 : 1 ≤ a
  b1 : 1 ≤ b
  d1 : 1 ≤ d
  hx : x.length = c * (a * b)
  hy : y.length = c * (b * d)
  bx : c * (a * b) ≤ 65536
  bY : c * (b * d) ≤ 65536
  bz : c * (a * d) ≤ 65536
theorem rowM_len {x : List Int} {c k i : Nat} (hx : x.length = c * k) (hi : i < c) : (rowM x i k).length = k := by
  have hb := row_le (C := k) hi
  unfold rowM
  rw [List.length_take, List.length_drop]
  omega
theorem okM2_ok {c a b d : Nat} {x y : List Int} (h : OkB c a b d x y) {i : Nat} (hi : i < c) : okM2 ((a : Int), (b : Int), rowM x i (a * b), ()) ((b : Int), (d : Int), rowM y i (b * d), ()) = true := by
  have k1 : a * b ≤ c * (a * b) := Nat.le_mul_of_pos_left _ h.c1
  have k2 : b * d ≤ c * (b * d) := Nat.le_mul_of_pos_left _ h.c1
  have k3 : a * d ≤ c * (a * d) := Nat.le_mul_of_pos_left _ h.c1
  have k4 : b ≤ a * b := Nat.le_mul_of_pos_left _ h.a1
  have := h.bx
  have := h.bY
  have := h.bz
  unfold okM2 prdOk
  apply decide_eq_true
  simp only [Int.toNat_natCast]
  have := h.d1
  exact ⟨⟨by omega, by omega, trivial, by omega⟩, by omega, by omega, by omega, by omega, rowM_len h.hx hi, rowM_len h.hy hi⟩
theorem prodM_eq {a b d : Nat} {x y : List Int} : prodM ((a : Int), (b : Int), x, ()) ((b : Int), (d : Int), y, ()) = prodL a b d x y := rfl
def stMx (hp : LHp) (m1 m2 : List (Y6).den) (c i : Int) : Nat → List Int → LSt
  | 0, _ => stMb hp m1 m2 c i
  | _ + 1, o => stMd hp m1 m2 c i o
theorem mmb_one {t1 t2 : Int} {d1 d2 d3 x y : List Int} {c a b d : Nat} (h : OkB c a b d x y) {i : Nat} (hi : i < c) (n : Nat) (K : AEx → LSt → Option (AEnd × LHp)) :
    lp gMb cf_mmb (cL (cL (cR (cL (cR (cR (cR (cR (cR C_mmb))))))))) (n + 1) (stMx (hpMc true t1 d1 x t2 d2 y d3) (mats x a b c) (mats y b d c) c i i (batL a b d x y i)) K = lp gMb cf_mmb (cL (cL (cR (cL (cR (cR (cR (cR (cR C_mmb))))))))) n (stMx (hpMc true t1 d1 x t2 d2 y d3) (mats x a b c) (mats y b d c) c ((i + 1 : Nat) : Int) (i + 1) (batL a b d x y (i + 1))) K := by
  have hb := row_le (C := a * d) hi
  have := h.bz
  have hcc : c ≤ c * (a * d) := Nat.le_mul_of_pos_right _ (Nat.mul_pos h.a1 h.d1)
  have e0 : IntKind.i64.wrap ((i : Int) + 1) = ((i + 1 : Nat) : Int) := by rw [wrap64 (by omega) (by omega)]; omega
  have g1 := mats_get (x := x) (a := a) (b := b) hi
  have g2 := mats_get (x := y) (a := b) (b := d) hi
  have i1 : idx (mats x a b c) (i : Int) = some ((a : Int), (b : Int), rowM x i (a * b), ()) := by unfold idx; rw [if_pos (by omega), Int.toNat_natCast, g1]
  have i2 : idx (mats y b d c) (i : Int) = some ((b : Int), (d : Int), rowM y i (b * d), ()) := by unfold idx; rw [if_pos (by omega), Int.toNat_natCast, g2]
  have hlen := batL_len a b d x y i
  have hp : (prodL a b d (rowM x i (a * b)) (rowM y i (b * d))).length = a * d := prodL_length
  cases i with
  | zero =>
    show lp gMb cf_mmb (cL (cL (cR (cL (cR (cR (cR (cR (cR C_mmb))))))))) (n + 1) (stMb _ _ _ _ _) K = _
    rw [mmb_st0, decide_eq_true (show ((0 : Nat) : Int) < (c : Int) by omega), cond_true, i1, Option.bind_some, Int.toNat_natCast, g1, Option.bind_some, i2, Option.bind_some, g2, Option.bind_some, okM2_ok h hi, cond_true, prodM_eq, decide_eq_true (show 0 + (prodL a b d (rowM x 0 (a * b)) (rowM y 0 (b * d))).length ≤ 65536 by omega), cond_true, e0, batL_succ]
    rfl
  | succ j =>
    show lp gMb cf_mmb (cL (cL (cR (cL (cR (cR (cR (cR (cR C_mmb))))))))) (n + 1) (stMd _ _ _ _ _ _) K = _
    rw [mmb_st1, decide_eq_true (show ((j + 1 : Nat) : Int) < (c : Int) by omega), cond_true, i1, Option.bind_some, Int.toNat_natCast, g1, Option.bind_some, i2, Option.bind_some, g2, Option.bind_some, okM2_ok h hi, cond_true, prodM_eq, decide_eq_true (show (batL a b d x y (j + 1)).length + (prodL a b d (rowM x (j + 1) (a * b)) (rowM y (j + 1) (b * d))).length ≤ 65536 by omega), cond_true, e0, batL_succ (c := j + 1)]
    rfl
theorem mmb_all {t1 t2 : Int} {d1 d2 d3 x y : List Int} {c a b d : Nat} (h : OkB c a b d x y) : lp gMb cf_mmb (cL (cL (cR (cL (cR (cR (cR (cR (cR C_mmb))))))))) fu (stMb (hpMc true t1 d1 x t2 d2 y d3) (mats x a b c) (mats y b d c) c 0) MbK = some (.ret [.os 2 0], hpMc true t1 d1 x t2 d2 y d3 ++ [(2, .arr 2 i64T 0 false (batL a b d x y c))]) := by
  have hfu : fu = 18446744073709551616 := rfl
  have hcc : c ≤ c * (a * d) := Nat.le_mul_of_pos_right _ (Nat.mul_pos h.a1 h.d1)
  have := h.bz
  have := h.c1
  have key := lp_to (T := fun n s => lp gMb cf_mmb (cL (cL (cR (cL (cR (cR (cR (cR (cR C_mmb))))))))) n s MbK) (f := fun i : Nat => stMx (hpMc true t1 d1 x t2 d2 y d3) (mats x a b c) (mats y b d c) c i i (batL a b d x y i)) c fu (by omega) (fun i hi n => mmb_one h hi n _)
  refine Eq.trans key ?_
  obtain ⟨m', hm'⟩ : ∃ m', fu - c = m' + 1 := ⟨fu - c - 1, by omega⟩
  rw [hm']
  obtain ⟨c', rfl⟩ : ∃ c', c = c' + 1 := ⟨c - 1, by omega⟩
  show lp gMb cf_mmb (cL (cL (cR (cL (cR (cR (cR (cR (cR C_mmb))))))))) (m' + 1) (stMd _ _ _ _ _ _) MbK = _
  rw [mmb_st1, decide_eq_false (Int.lt_irrefl _), cond_false]
  exact mmb_x _ _ _ _ _ _ _ _ _ _ _ _
theorem mmb_run {t1 t2 : Int} {x y : List Int} {c a b d : Nat} {e f : Int} (hc : countE [(c : Int)] = 0) (h : OkB c a b d x y) : runC gMb Tryz.f40 6 [(6, [8, 9, 10, 32, 33])] [.os 1 0, .os 0 0] (hpMb t1 [(c : Int), a, b] x t2 [(c : Int), b, d] y [(c : Int), e, f]) ah = some (.ret [.os 2 0], hpMc true t1 [(c : Int), a, b] x t2 [(c : Int), b, d] y [(c : Int), e, f] ++ [(2, .arr 2 i64T 0 false (batL a b d x y c))]) := by
  have ok1 : okMr c a b c x = true := by
    unfold okMr
    apply decide_eq_true
    simp only [Int.toNat_natCast]
    have := h.a1
    have := h.b1
    exact ⟨⟨by omega, by omega, by omega, trivial⟩, hc, h.bx, h.hx⟩
  have ok2 : okMr c b d c y = true := by
    unfold okMr
    apply decide_eq_true
    simp only [Int.toNat_natCast]
    have := h.d1
    have := h.b1
    exact ⟨⟨by omega, by omega, by omega, trivial⟩, hc, h.bY, h.hy⟩
  have hN : countN [(c : Int)] = c := by
    obtain ⟨_, _, _, p4⟩ := count_ok hc
    rw [p4]
    show 1 * (c : Int) = c
    rw [Int.one_mul]
  have key : runC gMb Tryz.f40 6 [(6, [8, 9, 10, 32, 33])] [.os 1 0, .os 0 0] (hpMb t1 [(c : Int), a, b] x t2 [(c : Int), b, d] y [(c : Int), e, f]) ah = lp gMb cf_mmb (cL (cL (cR (cL (cR (cR (cR (cR (cR C_mmb))))))))) fu (stMb (hpMc true t1 [(c : Int), a, b] x t2 [(c : Int), b, d] y [(c : Int), e, f]) (mats x a b c) (mats y b d c) c 0) MbK := (mmb_eq t1 c a b t2 c b d c e f x y).trans (by
    rw [ok1, ok2, cond_true, cond_true, hN, Int.toNat_natCast, Int.toNat_natCast, Int.toNat_natCast, Int.toNat_natCast]
    show _ = _
    kernel_rfl)
  exact key.trans (mmb_all h)
def okBb (c1 a b c2 p q c : Int) (x y : List Int) : Bool := decide ((1 ≤ c ∧ 1 ≤ a ∧ 1 ≤ b ∧ 1 ≤ q ∧ c1 = c ∧ c2 = c ∧ p = b) ∧ countE [c] = 0 ∧ x.length = c.toNat * (a.toNat * b.toNat) ∧ y.length = c.toNat * (b.toNat * q.toNat) ∧ c.toNat * (a.toNat * b.toNat) ≤ 65536 ∧ c.toNat * (b.toNat * q.toNat) ≤ 65536 ∧ c.toNat * (a.toNat * q.toNat) ≤ 65536)
def mmbT : List AV → LHp → Tq
  | [.os 1 0, .os 0 0], [(0, .arr 3 (.int .i64) 0 false [c, e, f]), (1, .arr 25 ((.pair (.int .i64) (.pair (.slice (.int .i64)) (.pair (.slice (.int .i64)) .unit)))) 0 false [(t1, [c1, a, b], x, ()), (t2, [c2, p, q], y, ())])] =>
    .br (okBb c1 a b c2 p q c x y) (.leaf (.ret [.os 2 0]) (hpMc true t1 [c, a, b] x t2 [c, b, q] y [c, e, f] ++ [(2, .arr 2 i64T 0 false (batL a.toNat b.toNat q.toNat x y c.toNat))])) .no
  | _, _ => .no
theorem mmbT_ok : FnE.OK e0.P e0.gam 40 (treeE mmbT) := by
  have h1 : FnE.OK e0.P e0.gam 40 (execFnC gMb Tryz.f40 6 [(6, [8, 9, 10, 32, 33])]) := execFnC_ok gMb_good hmix Tryz.func40 Tryz.call40 (by decide +kernel) rfl
  refine ⟨fun _ _ _ => Tq.eq _ _, fun args hs ae hs' h => ?_⟩
  have h' : (mmbT args hs).run ah = some (ae, hs') := h
  clear h
  unfold mmbT at h'
  split at h'
  · rename_i c e f t1 c1 a b x t2 c2 p q y
    obtain ⟨hb, h2⟩ := Tq.br_no h'
    obtain ⟨⟨k1, k2, k3, k4, k5, k6, k7⟩, k8, k9, l1, l2, l3, l4⟩ := of_decide_eq_true hb
    subst k5 k6 k7
    obtain ⟨c, rfl⟩ := Int.eq_ofNat_of_zero_le (show (0 : Int) ≤ c2 by omega)
    obtain ⟨a, rfl⟩ := Int.eq_ofNat_of_zero_le (show (0 : Int) ≤ a by omega)
    obtain ⟨b, rfl⟩ := Int.eq_ofNat_of_zero_le (show (0 : Int) ≤ p by omega)
    obtain ⟨q, rfl⟩ := Int.eq_ofNat_of_zero_le (show (0 : Int) ≤ q by omega)
    simp only [Int.toNat_natCast] at k9 l1 l2 l3 l4 h2
    cases h2
    exact h1.okC (mmb_run k8 ⟨by omega, by omega, by omega, by omega, k9, l1, l2, l3, l4⟩)
  · cases h'
noncomputable def C_ldb : Code := codeOf Tryz.f23
noncomputable def cf_ldb : Cfg := ⟨43, 6, 2, [], true⟩
noncomputable def gLb3 : Env := (g203.add 39 (treeE bgbT)).add 40 (treeE mmbT)
theorem gLb3_good : gLb3.Good := (g203_good.add bgbT_ok).add mmbT_ok
theorem ldb_eq (t1 c a b t2 c2 p q : Int) (x y : List Int) : runC gLb3 Tryz.f23 6 [] [nodeA strMM [] [122] (.os 1 0) .nils, .os 0 0] (hpL false t1 [c, a, b] x t2 [c2, p, q] y) ah =
  bif decide (c2 = c ∧ x.length ≤ 9223372036854775807 ∧ y.length ≤ 9223372036854775807) then 
    bif bgnE3 t1 c a b x t2 p q y != 0 then 
      bif bgnE3 t1 c a b x t2 p q y != 0 then some (AEnd.ret [(I 0).pr (AV.nils.pr (AV.nils.pr (AV.d Ty.unit PUnit.unit))), I (bgnE3 t1 c a b x t2 p q y)], [(0, AObj.arr 25 ((i64T).pair ((i64T).slice.pair ((i64T).slice.pair Ty.unit))) 0 false [(t1, [c, a, b], x, PUnit.unit), (t2, [c, p, q], y, PUnit.unit)]), (1, AObj.arr 9 Ty.str 0 false [[120], [121]])])
      else none
    else 
      bif okBb c a b c p q c x y then some (AEnd.ret [(I t1).pr ((AV.os 2 0).pr ((AV.os 3 0).pr (AV.d Ty.unit PUnit.unit))), I 0], [(0, AObj.arr 25 ((i64T).pair ((i64T).slice.pair ((i64T).slice.pair Ty.unit))) 0 false [(t1, [c, a, b], x, PUnit.unit), (t2, [c, b, q], y, PUnit.unit)]), (1, AObj.arr 9 Ty.str 0 false [[120], [121]]), (2, AObj.arr 3 (i64T) 0 true [c, a, q]), (3, AObj.arr 2 (i64T) 0 false (batL a.toNat b.toNat q.toNat x y c.toNat))])
      else none
  else none := by kernel_rfl
end Go.Proofs.XGT
/- linear.Do of two rows of matrices, told; the law LinearBatch: its code, run. -/
namespace Go.Proofs.XGT
open Go.Vm Go
set_option maxRecDepth 100000
set_option maxHeartbeats 4000000
theorem okB_of {t1 c a b t2 p q : Int} {x y : List Int} (h : bgnE3 t1 c a b x t2 p q y = 0) : ∃ C A B D : Nat, c = C ∧ a = A ∧ b = B ∧ p = B ∧ q = D ∧ OkB C A B D x y ∧ countE [(C : Int)] = 0 ∧ t1 = 1 ∧ t2 = 1 ∧ tenE 1 [(C : Int), A, B] x = 0 ∧ tenE 1 [(C : Int), B, D] y = 0 := by
  unfold bgnE3 at h
  cases e1 : tenE t1 [c, a, b] x != 0 with
  | true => rw [e1] at h; exact absurd (show (1 : Int) = 0 from h) (by decide)
  | false =>
    cases e2 : tenE t2 [c, p, q] y != 0 with
    | true => rw [e1, e2] at h; exact absurd (show (1 : Int) = 0 from h) (by decide)
    | false =>
      cases e3 : t1 != 1 with
      | true => rw [e1, e2, e3] at h; exact absurd (show (4 : Int) = 0 from h) (by decide)
      | false =>
        cases e4 : t2 != 1 with
        | true => rw [e1, e2, e3, e4] at h; exact absurd (show (4 : Int) = 0 from h) (by decide)
        | false =>
          cases e5 : !b == p with
          | true => rw [e1, e2, e3, e4, e5] at h; exact absurd (show (4 : Int) = 0 from h) (by decide)
          | false =>
            rw [e1, e2, e3, e4, e5] at h
            have h : countE [c, a, q] = 0 := h
            have e1 : tenE t1 [c, a, b] x = 0 := by simpa using e1
            have e2 : tenE t2 [c, p, q] y = 0 := by simpa using e2
            have e3 : t1 = 1 := by simpa using e3
            have e4 : t2 = 1 := by simpa using e4
            have hbc : b = p := by
              simp only [Bool.not_eq_false', beq_iff_eq] at e5
              exact e5
            subst e3 e4 hbc
            obtain ⟨_, n1, n2, _⟩ := ten_ok e1
            obtain ⟨_, m1, m2, _⟩ := ten_ok e2
            obtain ⟨p1, _, p3, p4⟩ := count_ok n1
            obtain ⟨q1, _, q3, q4⟩ := count_ok m1
            obtain ⟨r1, _, r3, r4⟩ := count_ok h
            have ep : ∀ u v w : Int, prodI [u, v, w] = u * (v * w) := fun u v w => by show 1 * u * v * w = _; rw [Int.one_mul, Int.mul_assoc]
            rw [ep] at p3 p4 q3 q4 r3 r4
            have hc := p1 c (by simp)
            have ha := p1 a (by simp)
            have hb := p1 b (by simp)
            have hq := q1 q (by simp)
            obtain ⟨C, rfl⟩ := Int.eq_ofNat_of_zero_le (show (0 : Int) ≤ c by omega)
            obtain ⟨A, rfl⟩ := Int.eq_ofNat_of_zero_le (show (0 : Int) ≤ a by omega)
            obtain ⟨B, rfl⟩ := Int.eq_ofNat_of_zero_le (show (0 : Int) ≤ b by omega)
            obtain ⟨D, rfl⟩ := Int.eq_ofNat_of_zero_le (show (0 : Int) ≤ q by omega)
            rw [← Int.natCast_mul, ← Int.natCast_mul] at p3 p4 q3 q4 r3
            exact ⟨C, A, B, D, rfl, rfl, rfl, rfl, rfl, ⟨by omega, by omega, by omega, by omega, by omega, by omega, by omega, by omega, by omega⟩, countE_head n1, rfl, rfl, e1, e2⟩
theorem okBb_of {t1 c a b t2 p q : Int} {x y : List Int} (h : bgnE3 t1 c a b x t2 p q y = 0) : okBb c a b c p q c x y = true := by
  obtain ⟨C, A, B, D, rfl, rfl, rfl, rfl, rfl, hk, hc, _⟩ := okB_of h
  unfold okBb
  apply decide_eq_true
  simp only [Int.toNat_natCast]
  have := hk.c1
  have := hk.a1
  have := hk.b1
  have := hk.d1
  exact ⟨⟨by omega, by omega, by omega, by omega, trivial, trivial, trivial⟩, hc, hk.hx, hk.hy, hk.bx, hk.bY, hk.bz⟩
def fBM (c a b q : Int) (x y : List Int) : List Int := batL a.toNat b.toNat q.toNat x y c.toNat
def ldo3T : List AV → LHp → Tq
  | [n, .os 0 0], [(0, .arr 25 ((.pair (.int .i64) (.pair (.slice (.int .i64)) (.pair (.slice (.int .i64)) .unit)))) 0 false [(t1, [c, a, b], x, ()), (t2, [c2, p, q], y, ())]), (1, .arr 9 .str 0 false ins)] =>
    (match nodeP n with
    | some (op, nm, out, .os 1 0, .nils) => gate (decide (op = strMM) && decide (nm = []) && decide (out = [122]) && decide (ins = [[120], [121]]))
        (.br (decide (c2 = c ∧ x.length ≤ maxLen ∧ y.length ≤ maxLen)) (.br (bgnE3 t1 c a b x t2 p q y != 0) (.leaf (.ret [zeroTL, I (bgnE3 t1 c a b x t2 p q y)]) (hpL false t1 [c, a, b] x t2 [c, p, q] y)) (.leaf (.ret [okTL t1, I 0]) (hpL false t1 [c, a, b] x t2 [c, b, q] y ++ [(2, .arr 3 i64T 0 true [c, a, q]), (3, .arr 2 i64T 0 false (fBM c a b q x y))]))) .no)
    | _ => .no)
  | _, _ => .no
theorem ldo3T_ok : FnE.OK e0.P e0.gam 23 (treeE ldo3T) := by
  have h1 : FnE.OK e0.P e0.gam 23 (execFnC gLb3 Tryz.f23 6 []) := execFnC_ok gLb3_good hmix Tryz.func23 Tryz.call23 (by decide +kernel) rfl
  refine ⟨fun _ _ _ => Tq.eq _ _, fun args hs ae hs' h => ?_⟩
  have h' : (ldo3T args hs).run ah = some (ae, hs') := h
  clear h
  unfold ldo3T at h'
  split at h'
  · rename_i t1 c a b x t2 c2 p q y ins
    split at h'
    · rename_i hn
      rw [nodeP_some hn]
      obtain ⟨hb, h2⟩ := gate_run h'
      clear h'
      simp only [Bool.and_eq_true, decide_eq_true_eq] at hb
      obtain ⟨⟨⟨b1, b2⟩, b3⟩, b4⟩ := hb
      subst b1 b2 b3 b4
      obtain ⟨hl, h3⟩ := Tq.br_no h2
      have hl' := of_decide_eq_true hl
      refine h1.okC ((ldb_eq t1 c a b t2 c2 p q x y).trans (Eq.trans ?_ h3))
      rw [decide_eq_true (show c2 = c ∧ x.length ≤ 9223372036854775807 ∧ y.length ≤ 9223372036854775807 from hl')]
      cases hb : bgnE3 t1 c a b x t2 p q y != 0 with
      | true =>
        rfl
      | false =>
        rw [okBb_of (show bgnE3 t1 c a b x t2 p q y = 0 by simpa using hb)]
        rfl
    · cases h'
  · cases h'
def ldoB (a : List AV) (h : LHp) : Tq := orT (ldo3T a h) (ldoF a h)
theorem ldoB_ok : FnE.OK e0.P e0.gam 23 (treeE ldoB) := treeE_or ldo3T_ok ldoF_ok
noncomputable def C_lba : Code := codeOf Tryz.f9
noncomputable def cf_lba : Cfg := ⟨206, 8, 0, [], true⟩
noncomputable def gLba : Env := ((g210.add 23 (treeE ldoB)).add 18 (treeElse smdtF y18)).add 21 (fnE livlF)
theorem gLba_good : gLba.Good := ((g210_good.add ldoB_ok).add (treeElse_ok smdtE_ok y18_ok)).add livlE_ok
theorem lba_0 (t1 t2 w : Int) (x yd y : List Int) : runC gLba Tryz.f9 8 [] [.d (Y0) (t1, [], x, ()), .d (Y0) (t2, yd, y, ()), I w] [] ah =
  bif decide (Int.ofNat x.length > 600) then some (AEnd.ret [B true], [])
  else 
    bif decide (Int.ofNat y.length > 600) then some (AEnd.ret [B true], [])
    else some (AEnd.ret [B true], []) := by kernel_rfl
theorem lba_1 (t1 t2 w a : Int) (x yd y : List Int) : runC gLba Tryz.f9 8 [] [.d (Y0) (t1, [a], x, ()), .d (Y0) (t2, yd, y, ()), I w] [] ah =
  bif decide (Int.ofNat x.length > 600) then some (AEnd.ret [B true], [])
  else 
    bif decide (Int.ofNat y.length > 600) then some (AEnd.ret [B true], [])
    else some (AEnd.ret [B true], []) := by kernel_rfl
theorem lba_2 (t1 t2 w a b : Int) (x yd y : List Int) : runC gLba Tryz.f9 8 [] [.d (Y0) (t1, [a, b], x, ()), .d (Y0) (t2, yd, y, ()), I w] [] ah =
  bif decide (Int.ofNat x.length > 600) then some (AEnd.ret [B true], [])
  else 
    bif decide (Int.ofNat y.length > 600) then some (AEnd.ret [B true], [])
    else some (AEnd.ret [B true], []) := by kernel_rfl
theorem lba_4 (t1 t2 w a b c d : Int) (r x yd y : List Int) : runC gLba Tryz.f9 8 [] [.d (Y0) (t1, a :: b :: c :: d :: r, x, ()), .d (Y0) (t2, yd, y, ()), I w] [] ah =
  bif decide (Int.ofNat x.length > 600) then some (AEnd.ret [B true], [])
  else 
    bif decide (Int.ofNat y.length > 600) then some (AEnd.ret [B true], [])
    else some (AEnd.ret [B true], []) := by kernel_rfl
theorem lbb_0 (t1 t2 w a b c : Int) (x y : List Int) : runC gLba Tryz.f9 8 [] [.d (Y0) (t1, [c, a, b], x, ()), .d (Y0) (t2, [], y, ()), I w] [] ah =
  bif decide (Int.ofNat x.length > 600) then some (AEnd.ret [B true], [])
  else 
    bif decide (Int.ofNat y.length > 600) then some (AEnd.ret [B true], [])
    else some (AEnd.ret [B true], []) := by kernel_rfl
theorem lbb_1 (t1 t2 w a b c p : Int) (x y : List Int) : runC gLba Tryz.f9 8 [] [.d (Y0) (t1, [c, a, b], x, ()), .d (Y0) (t2, [p], y, ()), I w] [] ah =
  bif decide (Int.ofNat x.length > 600) then some (AEnd.ret [B true], [])
  else 
    bif decide (Int.ofNat y.length > 600) then some (AEnd.ret [B true], [])
    else some (AEnd.ret [B true], []) := by kernel_rfl
theorem lbb_2 (t1 t2 w a b c p q : Int) (x y : List Int) : runC gLba Tryz.f9 8 [] [.d (Y0) (t1, [c, a, b], x, ()), .d (Y0) (t2, [p, q], y, ()), I w] [] ah =
  bif decide (Int.ofNat x.length > 600) then some (AEnd.ret [B true], [])
  else 
    bif decide (Int.ofNat y.length > 600) then some (AEnd.ret [B true], [])
    else some (AEnd.ret [B true], []) := by kernel_rfl
theorem lbb_4 (t1 t2 w a b c p q s u : Int) (r x y : List Int) : runC gLba Tryz.f9 8 [] [.d (Y0) (t1, [c, a, b], x, ()), .d (Y0) (t2, p :: q :: s :: u :: r, y, ()), I w] [] ah =
  bif decide (Int.ofNat x.length > 600) then some (AEnd.ret [B true], [])
  else 
    bif decide (Int.ofNat y.length > 600) then some (AEnd.ret [B true], [])
    else some (AEnd.ret [B true], []) := by kernel_rfl
theorem lba_in (t1 t2 w c a b c2 p q : Int) (x y : List Int) : runC gLba Tryz.f9 8 [] [.d (Y0) (t1, [c, a, b], x, ()), .d (Y0) (t2, [c2, p, q], y, ()), I w] [] ah =
  bif decide (Int.ofNat x.length > 600) then some (AEnd.ret [B true], [])
  else 
    bif decide (Int.ofNat y.length > 600) then some (AEnd.ret [B true], [])
    else 
      bif c != c2 then some (AEnd.ret [B true], [])
      else 
        bif decide (c2 = c ∧ x.length ≤ 9223372036854775807 ∧ y.length ≤ 9223372036854775807) then 
          bif bgnE3 t1 c a b x t2 p q y != 0 then 
            bif bgnE3 t1 c a b x t2 p q y != 0 then some (AEnd.ret [B true], [])
            else 
              bif decide (c < 1) then some (AEnd.ret [B true], [])
              else 
                bif decide (w < 0) then (if c = 0 then none else some ((IntKind.i64.wrap (0 - IntKind.i64.wrap (w + 1))).tmod c)).bind fun v8 =>
                    bif 0 != IntKind.i64.wrap (c * IntKind.i64.wrap (a * q)) then some (AEnd.ret [B false], [])
                    else 
                      bif Int.ofNat x.length != IntKind.i64.wrap (c * IntKind.i64.wrap (a * b)) then some (AEnd.ret [B false], [])
                      else 
                        bif Int.ofNat y.length != IntKind.i64.wrap (c2 * IntKind.i64.wrap (p * q)) then some (AEnd.ret [B false], [])
                        else (if 0 ≤ IntKind.i64.wrap (v8 * IntKind.i64.wrap (a * b)) ∧ IntKind.i64.wrap (v8 * IntKind.i64.wrap (a * b)) ≤ IntKind.i64.wrap (IntKind.i64.wrap (v8 * IntKind.i64.wrap (a * b)) + IntKind.i64.wrap (a * b)) ∧ IntKind.i64.wrap (IntKind.i64.wrap (v8 * IntKind.i64.wrap (a * b)) + IntKind.i64.wrap (a * b)) ≤ Int.ofNat x.length then some (List.drop (IntKind.i64.wrap (v8 * IntKind.i64.wrap (a * b))).toNat (List.take (IntKind.i64.wrap (IntKind.i64.wrap (v8 * IntKind.i64.wrap (a * b)) + IntKind.i64.wrap (a * b))).toNat x)) else none).bind fun v12 =>
                            (if 0 ≤ IntKind.i64.wrap (v8 * IntKind.i64.wrap (p * q)) ∧ IntKind.i64.wrap (v8 * IntKind.i64.wrap (p * q)) ≤ IntKind.i64.wrap (IntKind.i64.wrap (v8 * IntKind.i64.wrap (p * q)) + IntKind.i64.wrap (p * q)) ∧ IntKind.i64.wrap (IntKind.i64.wrap (v8 * IntKind.i64.wrap (p * q)) + IntKind.i64.wrap (p * q)) ≤ Int.ofNat y.length then some (List.drop (IntKind.i64.wrap (v8 * IntKind.i64.wrap (p * q))).toNat (List.take (IntKind.i64.wrap (IntKind.i64.wrap (v8 * IntKind.i64.wrap (p * q)) + IntKind.i64.wrap (p * q))).toNat y)) else none).bind fun v13 =>
                              bif decide (v12.length ≤ 9223372036854775807 ∧ v13.length ≤ 9223372036854775807) then 
                                bif bgnE t1 a b v12 t2 p q v13 != 0 then 
                                  bif bgnE t1 a b v12 t2 p q v13 == 0 then 
                                    bif IntKind.i64.wrap (v8 * IntKind.i64.wrap (a * q)) == 0 && IntKind.i64.wrap (IntKind.i64.wrap (v8 * IntKind.i64.wrap (a * q)) + IntKind.i64.wrap (a * q)) == 0 then some (AEnd.ret [B false], [])
                                    else none
                                  else some (AEnd.ret [B false], [])
                                else 
                                  bif IntKind.i64.wrap (v8 * IntKind.i64.wrap (a * q)) == 0 && IntKind.i64.wrap (IntKind.i64.wrap (v8 * IntKind.i64.wrap (a * q)) + IntKind.i64.wrap (a * q)) == 0 then 
                                    bif t1 != 1 then some (AEnd.ret [B false], [])
                                    else 
                                      bif a != a then some (AEnd.ret [B false], [])
                                      else 
                                        bif q != q then some (AEnd.ret [B false], [])
                                        else 
                                          bif Int.ofNat (fMM a b q v12 v13).length != 0 then some (AEnd.ret [B false], [])
                                          else 
                                            bif decide (0 < Int.ofNat (fMM a b q v12 v13).length) then (idx (fMM a b q v12 v13) 0).bind fun v22 =>
                                                ((fMM a b q v12 v13)[0]?).bind fun v23 =>
                                                  none
                                            else some (AEnd.ret [B true], [])
                                  else none
                              else none
                else (if c = 0 then none else some (w.tmod c)).bind fun v8 =>
                    bif 0 != IntKind.i64.wrap (c * IntKind.i64.wrap (a * q)) then some (AEnd.ret [B false], [])
                    else 
                      bif Int.ofNat x.length != IntKind.i64.wrap (c * IntKind.i64.wrap (a * b)) then some (AEnd.ret [B false], [])
                      else 
                        bif Int.ofNat y.length != IntKind.i64.wrap (c2 * IntKind.i64.wrap (p * q)) then some (AEnd.ret [B false], [])
                        else (if 0 ≤ IntKind.i64.wrap (v8 * IntKind.i64.wrap (a * b)) ∧ IntKind.i64.wrap (v8 * IntKind.i64.wrap (a * b)) ≤ IntKind.i64.wrap (IntKind.i64.wrap (v8 * IntKind.i64.wrap (a * b)) + IntKind.i64.wrap (a * b)) ∧ IntKind.i64.wrap (IntKind.i64.wrap (v8 * IntKind.i64.wrap (a * b)) + IntKind.i64.wrap (a * b)) ≤ Int.ofNat x.length then some (List.drop (IntKind.i64.wrap (v8 * IntKind.i64.wrap (a * b))).toNat (List.take (IntKind.i64.wrap (IntKind.i64.wrap (v8 * IntKind.i64.wrap (a * b)) + IntKind.i64.wrap (a * b))).toNat x)) else none).bind fun v12 =>
                            (if 0 ≤ IntKind.i64.wrap (v8 * IntKind.i64.wrap (p * q)) ∧ IntKind.i64.wrap (v8 * IntKind.i64.wrap (p * q)) ≤ IntKind.i64.wrap (IntKind.i64.wrap (v8 * IntKind.i64.wrap (p * q)) + IntKind.i64.wrap (p * q)) ∧ IntKind.i64.wrap (IntKind.i64.wrap (v8 * IntKind.i64.wrap (p * q)) + IntKind.i64.wrap (p * q)) ≤ Int.ofNat y.length then some (List.drop (IntKind.i64.wrap (v8 * IntKind.i64.wrap (p * q))).toNat (List.take (IntKind.i64.wrap (IntKind.i64.wrap (v8 * IntKind.i64.wrap (p * q)) + IntKind.i64.wrap (p * q))).toNat y)) else none).bind fun v13 =>
                              bif decide (v12.length ≤ 9223372036854775807 ∧ v13.length ≤ 9223372036854775807) then 
                                bif bgnE t1 a b v12 t2 p q v13 != 0 then 
                                  bif bgnE t1 a b v12 t2 p q v13 == 0 then 
                                    bif IntKind.i64.wrap (v8 * IntKind.i64.wrap (a * q)) == 0 && IntKind.i64.wrap (IntKind.i64.wrap (v8 * IntKind.i64.wrap (a * q)) + IntKind.i64.wrap (a * q)) == 0 then some (AEnd.ret [B false], [])
                                    else none
                                  else some (AEnd.ret [B false], [])
                                else 
                                  bif IntKind.i64.wrap (v8 * IntKind.i64.wrap (a * q)) == 0 && IntKind.i64.wrap (IntKind.i64.wrap (v8 * IntKind.i64.wrap (a * q)) + IntKind.i64.wrap (a * q)) == 0 then 
                                    bif t1 != 1 then some (AEnd.ret [B false], [])
                                    else 
                                      bif a != a then some (AEnd.ret [B false], [])
                                      else 
                                        bif q != q then some (AEnd.ret [B false], [])
                                        else 
                                          bif Int.ofNat (fMM a b q v12 v13).length != 0 then some (AEnd.ret [B false], [])
                                          else 
                                            bif decide (0 < Int.ofNat (fMM a b q v12 v13).length) then (idx (fMM a b q v12 v13) 0).bind fun v22 =>
                                                ((fMM a b q v12 v13)[0]?).bind fun v23 =>
                                                  none
                                            else some (AEnd.ret [B true], [])
                                  else none
                              else none
          else 
            bif decide (c < 1) then some (AEnd.ret [B true], [])
            else 
              bif decide (w < 0) then (if c = 0 then none else some ((IntKind.i64.wrap (0 - IntKind.i64.wrap (w + 1))).tmod c)).bind fun v7 =>
                  bif Int.ofNat (fBM c a b q x y).length != IntKind.i64.wrap (c * IntKind.i64.wrap (a * q)) then some (AEnd.ret [B false], [])
                  else 
                    bif Int.ofNat x.length != IntKind.i64.wrap (c * IntKind.i64.wrap (a * b)) then some (AEnd.ret [B false], [])
                    else 
                      bif Int.ofNat y.length != IntKind.i64.wrap (c2 * IntKind.i64.wrap (p * q)) then some (AEnd.ret [B false], [])
                      else (if 0 ≤ IntKind.i64.wrap (v7 * IntKind.i64.wrap (a * b)) ∧ IntKind.i64.wrap (v7 * IntKind.i64.wrap (a * b)) ≤ IntKind.i64.wrap (IntKind.i64.wrap (v7 * IntKind.i64.wrap (a * b)) + IntKind.i64.wrap (a * b)) ∧ IntKind.i64.wrap (IntKind.i64.wrap (v7 * IntKind.i64.wrap (a * b)) + IntKind.i64.wrap (a * b)) ≤ Int.ofNat x.length then some (List.drop (IntKind.i64.wrap (v7 * IntKind.i64.wrap (a * b))).toNat (List.take (IntKind.i64.wrap (IntKind.i64.wrap (v7 * IntKind.i64.wrap (a * b)) + IntKind.i64.wrap (a * b))).toNat x)) else none).bind fun v11 =>
                          (if 0 ≤ IntKind.i64.wrap (v7 * IntKind.i64.wrap (p * q)) ∧ IntKind.i64.wrap (v7 * IntKind.i64.wrap (p * q)) ≤ IntKind.i64.wrap (IntKind.i64.wrap (v7 * IntKind.i64.wrap (p * q)) + IntKind.i64.wrap (p * q)) ∧ IntKind.i64.wrap (IntKind.i64.wrap (v7 * IntKind.i64.wrap (p * q)) + IntKind.i64.wrap (p * q)) ≤ Int.ofNat y.length then some (List.drop (IntKind.i64.wrap (v7 * IntKind.i64.wrap (p * q))).toNat (List.take (IntKind.i64.wrap (IntKind.i64.wrap (v7 * IntKind.i64.wrap (p * q)) + IntKind.i64.wrap (p * q))).toNat y)) else none).bind fun v12 =>
                            bif decide (v11.length ≤ 9223372036854775807 ∧ v12.length ≤ 9223372036854775807) then 
                              bif bgnE t1 a b v11 t2 p q v12 != 0 then 
                                bif bgnE t1 a b v11 t2 p q v12 == 0 then (if 0 ≤ IntKind.i64.wrap (v7 * IntKind.i64.wrap (a * q)) ∧ IntKind.i64.wrap (v7 * IntKind.i64.wrap (a * q)) ≤ IntKind.i64.wrap (IntKind.i64.wrap (v7 * IntKind.i64.wrap (a * q)) + IntKind.i64.wrap (a * q)) ∧ IntKind.i64.wrap (IntKind.i64.wrap (v7 * IntKind.i64.wrap (a * q)) + IntKind.i64.wrap (a * q)) ≤ Int.ofNat (fBM c a b q x y).length then some (List.drop (IntKind.i64.wrap (v7 * IntKind.i64.wrap (a * q))).toNat (List.take (IntKind.i64.wrap (IntKind.i64.wrap (v7 * IntKind.i64.wrap (a * q)) + IntKind.i64.wrap (a * q))).toNat (fBM c a b q x y))) else none).bind fun v16 =>
                                    some (AEnd.ret [B false], [])
                                else some (AEnd.ret [B false], [])
                              else (if 0 ≤ IntKind.i64.wrap (v7 * IntKind.i64.wrap (a * q)) ∧ IntKind.i64.wrap (v7 * IntKind.i64.wrap (a * q)) ≤ IntKind.i64.wrap (IntKind.i64.wrap (v7 * IntKind.i64.wrap (a * q)) + IntKind.i64.wrap (a * q)) ∧ IntKind.i64.wrap (IntKind.i64.wrap (v7 * IntKind.i64.wrap (a * q)) + IntKind.i64.wrap (a * q)) ≤ Int.ofNat (fBM c a b q x y).length then some (List.drop (IntKind.i64.wrap (v7 * IntKind.i64.wrap (a * q))).toNat (List.take (IntKind.i64.wrap (IntKind.i64.wrap (v7 * IntKind.i64.wrap (a * q)) + IntKind.i64.wrap (a * q))).toNat (fBM c a b q x y))) else none).bind fun v15 =>
                                  bif decide (2 ≤ 9223372036854775807 ∧ (fMM a b q v11 v12).length ≤ 9223372036854775807 ∧ t1 = 1 ∧ [a, q] = [a, q] ∧ fMM a b q v11 v12 = v15) then some (AEnd.ret [B true], [])
                                  else none
                            else none
              else (if c = 0 then none else some (w.tmod c)).bind fun v7 =>
                  bif Int.ofNat (fBM c a b q x y).length != IntKind.i64.wrap (c * IntKind.i64.wrap (a * q)) then some (AEnd.ret [B false], [])
                  else 
                    bif Int.ofNat x.length != IntKind.i64.wrap (c * IntKind.i64.wrap (a * b)) then some (AEnd.ret [B false], [])
                    else 
                      bif Int.ofNat y.length != IntKind.i64.wrap (c2 * IntKind.i64.wrap (p * q)) then some (AEnd.ret [B false], [])
                      else (if 0 ≤ IntKind.i64.wrap (v7 * IntKind.i64.wrap (a * b)) ∧ IntKind.i64.wrap (v7 * IntKind.i64.wrap (a * b)) ≤ IntKind.i64.wrap (IntKind.i64.wrap (v7 * IntKind.i64.wrap (a * b)) + IntKind.i64.wrap (a * b)) ∧ IntKind.i64.wrap (IntKind.i64.wrap (v7 * IntKind.i64.wrap (a * b)) + IntKind.i64.wrap (a * b)) ≤ Int.ofNat x.length then some (List.drop (IntKind.i64.wrap (v7 * IntKind.i64.wrap (a * b))).toNat (List.take (IntKind.i64.wrap (IntKind.i64.wrap (v7 * IntKind.i64.wrap (a * b)) + IntKind.i64.wrap (a * b))).toNat x)) else none).bind fun v11 =>
                          (if 0 ≤ IntKind.i64.wrap (v7 * IntKind.i64.wrap (p * q)) ∧ IntKind.i64.wrap (v7 * IntKind.i64.wrap (p * q)) ≤ IntKind.i64.wrap (IntKind.i64.wrap (v7 * IntKind.i64.wrap (p * q)) + IntKind.i64.wrap (p * q)) ∧ IntKind.i64.wrap (IntKind.i64.wrap (v7 * IntKind.i64.wrap (p * q)) + IntKind.i64.wrap (p * q)) ≤ Int.ofNat y.length then some (List.drop (IntKind.i64.wrap (v7 * IntKind.i64.wrap (p * q))).toNat (List.take (IntKind.i64.wrap (IntKind.i64.wrap (v7 * IntKind.i64.wrap (p * q)) + IntKind.i64.wrap (p * q))).toNat y)) else none).bind fun v12 =>
                            bif decide (v11.length ≤ 9223372036854775807 ∧ v12.length ≤ 9223372036854775807) then 
                              bif bgnE t1 a b v11 t2 p q v12 != 0 then 
                                bif bgnE t1 a b v11 t2 p q v12 == 0 then (if 0 ≤ IntKind.i64.wrap (v7 * IntKind.i64.wrap (a * q)) ∧ IntKind.i64.wrap (v7 * IntKind.i64.wrap (a * q)) ≤ IntKind.i64.wrap (IntKind.i64.wrap (v7 * IntKind.i64.wrap (a * q)) + IntKind.i64.wrap (a * q)) ∧ IntKind.i64.wrap (IntKind.i64.wrap (v7 * IntKind.i64.wrap (a * q)) + IntKind.i64.wrap (a * q)) ≤ Int.ofNat (fBM c a b q x y).length then some (List.drop (IntKind.i64.wrap (v7 * IntKind.i64.wrap (a * q))).toNat (List.take (IntKind.i64.wrap (IntKind.i64.wrap (v7 * IntKind.i64.wrap (a * q)) + IntKind.i64.wrap (a * q))).toNat (fBM c a b q x y))) else none).bind fun v16 =>
                                    some (AEnd.ret [B false], [])
                                else some (AEnd.ret [B false], [])
                              else (if 0 ≤ IntKind.i64.wrap (v7 * IntKind.i64.wrap (a * q)) ∧ IntKind.i64.wrap (v7 * IntKind.i64.wrap (a * q)) ≤ IntKind.i64.wrap (IntKind.i64.wrap (v7 * IntKind.i64.wrap (a * q)) + IntKind.i64.wrap (a * q)) ∧ IntKind.i64.wrap (IntKind.i64.wrap (v7 * IntKind.i64.wrap (a * q)) + IntKind.i64.wrap (a * q)) ≤ Int.ofNat (fBM c a b q x y).length then some (List.drop (IntKind.i64.wrap (v7 * IntKind.i64.wrap (a * q))).toNat (List.take (IntKind.i64.wrap (IntKind.i64.wrap (v7 * IntKind.i64.wrap (a * q)) + IntKind.i64.wrap (a * q))).toNat (fBM c a b q x y))) else none).bind fun v15 =>
                                  bif decide (2 ≤ 9223372036854775807 ∧ (fMM a b q v11 v12).length ≤ 9223372036854775807 ∧ t1 = 1 ∧ [a, q] = [a, q] ∧ fMM a b q v11 v12 = v15) then some (AEnd.ret [B true], [])
                                  else none
                            else none
        else none := by kernel_rfl
end Go.Proofs.XGT
/- The law LinearBatch answers true, whatever the tensors and the place. -/
namespace Go.Proofs.XGT
open Go.Vm Go
set_option maxRecDepth 100000
set_option maxHeartbeats 1000000
theorem batL_row {a b d : Nat} {x y : List Int} {i : Nat} : ∀ c, i < c → ((batL a b d x y c).drop (i * (a * d))).take (a * d) = prodL a b d (rowM x i (a * b)) (rowM y i (b * d))
  | 0, h => by omega
  | c + 1, h => by
    have hl := batL_len a b d x y c
    have hp : (prodL a b d (rowM x c (a * b)) (rowM y c (b * d))).length = a * d := prodL_length
    rw [batL_succ]
    by_cases hc : i < c
    · have hb := row_le (C := a * d) hc
      rw [List.drop_append_of_le_length (by omega), List.take_append_of_le_length (by rw [List.length_drop]; omega)]
      exact batL_row c hc
    · obtain rfl : i = c := by omega
      rw [← hl, List.drop_left]
      exact List.take_of_length_le (by omega)
theorem lba_tail {t1 t2 : Int} {C A B D : Nat} {x y : List Int} (h : OkB C A B D x y) (h1 : t1 = 1) (h2 : t2 = 1) (hx : tenE 1 [(C : Int), A, B] x = 0) (hy : tenE 1 [(C : Int), B, D] y = 0) {i : Nat} (hi : i < C) : (bif Int.ofNat (fBM (C : Int) (A : Int) (B : Int) (D : Int) x y).length != IntKind.i64.wrap ((C : Int) * IntKind.i64.wrap ((A : Int) * (D : Int))) then some (AEnd.ret [AV.d .bool false], [])
else 
  bif Int.ofNat x.length != IntKind.i64.wrap ((C : Int) * IntKind.i64.wrap ((A : Int) * (B : Int))) then some (AEnd.ret [AV.d .bool false], [])
  else 
    bif Int.ofNat y.length != IntKind.i64.wrap ((C : Int) * IntKind.i64.wrap ((B : Int) * (D : Int))) then some (AEnd.ret [AV.d .bool false], [])
    else (if 0 ≤ IntKind.i64.wrap ((i : Int) * IntKind.i64.wrap ((A : Int) * (B : Int))) ∧ IntKind.i64.wrap ((i : Int) * IntKind.i64.wrap ((A : Int) * (B : Int))) ≤ IntKind.i64.wrap (IntKind.i64.wrap ((i : Int) * IntKind.i64.wrap ((A : Int) * (B : Int))) + IntKind.i64.wrap ((A : Int) * (B : Int))) ∧ IntKind.i64.wrap (IntKind.i64.wrap ((i : Int) * IntKind.i64.wrap ((A : Int) * (B : Int))) + IntKind.i64.wrap ((A : Int) * (B : Int))) ≤ Int.ofNat x.length then some (List.drop (IntKind.i64.wrap ((i : Int) * IntKind.i64.wrap ((A : Int) * (B : Int)))).toNat (List.take (IntKind.i64.wrap (IntKind.i64.wrap ((i : Int) * IntKind.i64.wrap ((A : Int) * (B : Int))) + IntKind.i64.wrap ((A : Int) * (B : Int)))).toNat x)) else none).bind fun v11 =>
        (if 0 ≤ IntKind.i64.wrap ((i : Int) * IntKind.i64.wrap ((B : Int) * (D : Int))) ∧ IntKind.i64.wrap ((i : Int) * IntKind.i64.wrap ((B : Int) * (D : Int))) ≤ IntKind.i64.wrap (IntKind.i64.wrap ((i : Int) * IntKind.i64.wrap ((B : Int) * (D : Int))) + IntKind.i64.wrap ((B : Int) * (D : Int))) ∧ IntKind.i64.wrap (IntKind.i64.wrap ((i : Int) * IntKind.i64.wrap ((B : Int) * (D : Int))) + IntKind.i64.wrap ((B : Int) * (D : Int))) ≤ Int.ofNat y.length then some (List.drop (IntKind.i64.wrap ((i : Int) * IntKind.i64.wrap ((B : Int) * (D : Int)))).toNat (List.take (IntKind.i64.wrap (IntKind.i64.wrap ((i : Int) * IntKind.i64.wrap ((B : Int) * (D : Int))) + IntKind.i64.wrap ((B : Int) * (D : Int)))).toNat y)) else none).bind fun v12 =>
          bif decide (v11.length ≤ 9223372036854775807 ∧ v12.length ≤ 9223372036854775807) then 
            bif bgnE t1 (A : Int) (B : Int) v11 t2 (B : Int) (D : Int) v12 != 0 then 
              bif bgnE t1 (A : Int) (B : Int) v11 t2 (B : Int) (D : Int) v12 == 0 then (if 0 ≤ IntKind.i64.wrap ((i : Int) * IntKind.i64.wrap ((A : Int) * (D : Int))) ∧ IntKind.i64.wrap ((i : Int) * IntKind.i64.wrap ((A : Int) * (D : Int))) ≤ IntKind.i64.wrap (IntKind.i64.wrap ((i : Int) * IntKind.i64.wrap ((A : Int) * (D : Int))) + IntKind.i64.wrap ((A : Int) * (D : Int))) ∧ IntKind.i64.wrap (IntKind.i64.wrap ((i : Int) * IntKind.i64.wrap ((A : Int) * (D : Int))) + IntKind.i64.wrap ((A : Int) * (D : Int))) ≤ Int.ofNat (fBM (C : Int) (A : Int) (B : Int) (D : Int) x y).length then some (List.drop (IntKind.i64.wrap ((i : Int) * IntKind.i64.wrap ((A : Int) * (D : Int)))).toNat (List.take (IntKind.i64.wrap (IntKind.i64.wrap ((i : Int) * IntKind.i64.wrap ((A : Int) * (D : Int))) + IntKind.i64.wrap ((A : Int) * (D : Int)))).toNat (fBM (C : Int) (A : Int) (B : Int) (D : Int) x y))) else none).bind fun v16 =>
                  some (AEnd.ret [AV.d .bool false], [])
              else some (AEnd.ret [AV.d .bool false], [])
            else (if 0 ≤ IntKind.i64.wrap ((i : Int) * IntKind.i64.wrap ((A : Int) * (D : Int))) ∧ IntKind.i64.wrap ((i : Int) * IntKind.i64.wrap ((A : Int) * (D : Int))) ≤ IntKind.i64.wrap (IntKind.i64.wrap ((i : Int) * IntKind.i64.wrap ((A : Int) * (D : Int))) + IntKind.i64.wrap ((A : Int) * (D : Int))) ∧ IntKind.i64.wrap (IntKind.i64.wrap ((i : Int) * IntKind.i64.wrap ((A : Int) * (D : Int))) + IntKind.i64.wrap ((A : Int) * (D : Int))) ≤ Int.ofNat (fBM (C : Int) (A : Int) (B : Int) (D : Int) x y).length then some (List.drop (IntKind.i64.wrap ((i : Int) * IntKind.i64.wrap ((A : Int) * (D : Int)))).toNat (List.take (IntKind.i64.wrap (IntKind.i64.wrap ((i : Int) * IntKind.i64.wrap ((A : Int) * (D : Int))) + IntKind.i64.wrap ((A : Int) * (D : Int)))).toNat (fBM (C : Int) (A : Int) (B : Int) (D : Int) x y))) else none).bind fun v15 =>
                bif decide (2 ≤ 9223372036854775807 ∧ (fMM (A : Int) (B : Int) (D : Int) v11 v12).length ≤ 9223372036854775807 ∧ t1 = 1 ∧ [(A : Int), (D : Int)] = [(A : Int), (D : Int)] ∧ fMM (A : Int) (B : Int) (D : Int) v11 v12 = v15) then some (AEnd.ret [AV.d .bool true], [])
                else none
          else none : Option (AEnd × LHp)) = some (.ret [AV.d .bool true], []) := by
  subst h1 h2
  have b1 := row_le (C := A * B) hi
  have b2 := row_le (C := B * D) hi
  have b3 := row_le (C := A * D) hi
  have k1 : A * B ≤ C * (A * B) := Nat.le_mul_of_pos_left _ h.c1
  have k2 : B * D ≤ C * (B * D) := Nat.le_mul_of_pos_left _ h.c1
  have k3 : A * D ≤ C * (A * D) := Nat.le_mul_of_pos_left _ h.c1
  have hbx := h.bx
  have hbY := h.bY
  have hbz := h.bz
  have lx := h.hx
  have ly := h.hy
  have hf : (fBM (C : Int) A B D x y).length = C * (A * D) := by unfold fBM; rw [batL_len]; simp only [Int.toNat_natCast]
  have w1 : IntKind.i64.wrap ((A : Int) * D) = ((A * D : Nat) : Int) := by rw [← Int.natCast_mul]; exact wrap64 (by omega) (by omega)
  have w2 : IntKind.i64.wrap ((A : Int) * B) = ((A * B : Nat) : Int) := by rw [← Int.natCast_mul]; exact wrap64 (by omega) (by omega)
  have w3 : IntKind.i64.wrap ((B : Int) * D) = ((B * D : Nat) : Int) := by rw [← Int.natCast_mul]; exact wrap64 (by omega) (by omega)
  have w4 : IntKind.i64.wrap ((C : Int) * ((A * D : Nat) : Int)) = ((C * (A * D) : Nat) : Int) := by rw [← Int.natCast_mul]; exact wrap64 (by omega) (by omega)
  have w5 : IntKind.i64.wrap ((C : Int) * ((A * B : Nat) : Int)) = ((C * (A * B) : Nat) : Int) := by rw [← Int.natCast_mul]; exact wrap64 (by omega) (by omega)
  have w6 : IntKind.i64.wrap ((C : Int) * ((B * D : Nat) : Int)) = ((C * (B * D) : Nat) : Int) := by rw [← Int.natCast_mul]; exact wrap64 (by omega) (by omega)
  have v1 : IntKind.i64.wrap ((i : Int) * ((A * D : Nat) : Int)) = ((i * (A * D) : Nat) : Int) := by rw [← Int.natCast_mul]; exact wrap64 (by omega) (by omega)
  have v2 : IntKind.i64.wrap ((i : Int) * ((A * B : Nat) : Int)) = ((i * (A * B) : Nat) : Int) := by rw [← Int.natCast_mul]; exact wrap64 (by omega) (by omega)
  have v3 : IntKind.i64.wrap ((i : Int) * ((B * D : Nat) : Int)) = ((i * (B * D) : Nat) : Int) := by rw [← Int.natCast_mul]; exact wrap64 (by omega) (by omega)
  have v4 : IntKind.i64.wrap (((i * (A * D) : Nat) : Int) + ((A * D : Nat) : Int)) = ((i * (A * D) + A * D : Nat) : Int) := by rw [← Int.natCast_add]; exact wrap64 (by omega) (by omega)
  have v5 : IntKind.i64.wrap (((i * (A * B) : Nat) : Int) + ((A * B : Nat) : Int)) = ((i * (A * B) + A * B : Nat) : Int) := by rw [← Int.natCast_add]; exact wrap64 (by omega) (by omega)
  have v6 : IntKind.i64.wrap (((i * (B * D) : Nat) : Int) + ((B * D : Nat) : Int)) = ((i * (B * D) + B * D : Nat) : Int) := by rw [← Int.natCast_add]; exact wrap64 (by omega) (by omega)
  have c1 : (Int.ofNat (fBM (C : Int) A B D x y).length != ((C * (A * D) : Nat) : Int)) = false := by rw [bne_eq_false_iff_eq, hf]; rfl
  have c2 : (Int.ofNat x.length != ((C * (A * B) : Nat) : Int)) = false := by rw [bne_eq_false_iff_eq, lx]; rfl
  have c3 : (Int.ofNat y.length != ((C * (B * D) : Nat) : Int)) = false := by rw [bne_eq_false_iff_eq, ly]; rfl
  have d1 : List.drop (i * (A * B)) (List.take (i * (A * B) + A * B) x) = rowM x i (A * B) := by rw [List.drop_take, Nat.add_sub_cancel_left]; rfl
  have d2 : List.drop (i * (B * D)) (List.take (i * (B * D) + B * D) y) = rowM y i (B * D) := by rw [List.drop_take, Nat.add_sub_cancel_left]; rfl
  have d3 : List.drop (i * (A * D)) (List.take (i * (A * D) + A * D) (fBM (C : Int) A B D x y)) = fMM A B D (rowM x i (A * B)) (rowM y i (B * D)) := by
    rw [List.drop_take, Nat.add_sub_cancel_left]
    unfold fBM fMM
    simp only [Int.toNat_natCast]
    exact batL_row C hi
  have r1 : (rowM x i (A * B)).length = A * B := rowM_len lx hi
  have r2 : (rowM y i (B * D)).length = B * D := rowM_len ly hi
  have hA := h.a1
  have hB := h.b1
  have hD := h.d1
  have n1 := countE_mk (xs := [(A : Int), (B : Int)]) (fun v hv => by
    simp at hv
    rcases hv with rfl | rfl <;> omega) (by simp) (by rw [ep2, ← Int.natCast_mul]; omega)
  have n2 := countE_mk (xs := [(B : Int), (D : Int)]) (fun v hv => by
    simp at hv
    rcases hv with rfl | rfl <;> omega) (by simp) (by rw [ep2, ← Int.natCast_mul]; omega)
  have n3 := countE_mk (xs := [(A : Int), (D : Int)]) (fun v hv => by
    simp at hv
    rcases hv with rfl | rfl <;> omega) (by simp) (by rw [ep2, ← Int.natCast_mul]; omega)
  have tx : tenE 1 [(A : Int), (B : Int)] (rowM x i (A * B)) = 0 := tenE_mk (ten_ok hx).1 n1.1 (by rw [n1.2, ep2, r1, Int.natCast_mul]) (fun v hv => (ten_ok hx).2.2.2 v (List.mem_of_mem_drop (List.mem_of_mem_take hv)))
  have ty : tenE 1 [(B : Int), (D : Int)] (rowM y i (B * D)) = 0 := tenE_mk (ten_ok hy).1 n2.1 (by rw [n2.2, ep2, r2, Int.natCast_mul]) (fun v hv => (ten_ok hy).2.2.2 v (List.mem_of_mem_drop (List.mem_of_mem_take hv)))
  have hbg : bgnE 1 A B (rowM x i (A * B)) 1 B D (rowM y i (B * D)) = 0 := by
    unfold bgnE
    rw [tx, ty, n3.1]
    simp
  have hml : (fMM A B D (rowM x i (A * B)) (rowM y i (B * D))).length ≤ 65536 := by
    unfold fMM
    rw [prodL_length]
    simp only [Int.toNat_natCast]
    omega
  rw [w1, w2, w3, w4, w5, w6, v1, v2, v3, v4, v5, v6, c1, c2, c3, cond_false, cond_false, cond_false, if_pos ⟨by omega, by omega, by rw [lx]; simp only [Int.ofNat_eq_natCast]; omega⟩, Option.bind_some, if_pos ⟨by omega, by omega, by rw [ly]; simp only [Int.ofNat_eq_natCast]; omega⟩, Option.bind_some]
  simp only [Int.toNat_natCast, d1, d2, d3, hbg, bne_self_eq_false, cond_false, r1, r2, hf]
  rw [if_pos ⟨by omega, by omega, by simp only [Int.ofNat_eq_natCast]; omega⟩, Option.bind_some, decide_eq_true (show A * B ≤ 9223372036854775807 ∧ B * D ≤ 9223372036854775807 from ⟨by omega, by omega⟩), cond_true]
  simp only [true_and]
  rw [decide_eq_true ⟨by decide, by omega, by trivial⟩]
  rfl
theorem lba_true (t1 t2 w : Int) (xd x yd y : List Int) (hw : -9223372036854775808 ≤ w ∧ w ≤ 9223372036854775807) (h1 : x.length ≤ maxLen) (h2 : y.length ≤ maxLen) : runC gLba Tryz.f9 8 [] [.d (Y0) (t1, xd, x, ()), .d (Y0) (t2, yd, y, ()), I w] [] ah = some (.ret [B true], []) := by
  have both : ∀ {r : Option (AEnd × LHp)}, r = (bif decide (Int.ofNat x.length > 600) then some (AEnd.ret [B true], []) else bif decide (Int.ofNat y.length > 600) then some (AEnd.ret [B true], []) else some (AEnd.ret [B true], [])) → r = some (AEnd.ret [B true], []) := by
    intro r hr
    rw [hr]
    cases decide (Int.ofNat x.length > 600) <;> cases decide (Int.ofNat y.length > 600) <;> rfl
  match xd, yd with
  | [], yd => exact both (lba_0 t1 t2 w x yd y)
  | [a], yd => exact both (lba_1 t1 t2 w a x yd y)
  | [a, b], yd => exact both (lba_2 t1 t2 w a b x yd y)
  | a :: b :: c :: d :: r, yd => exact both (lba_4 t1 t2 w a b c d r x yd y)
  | [c, a, b], [] => exact both (lbb_0 t1 t2 w a b c x y)
  | [c, a, b], [p] => exact both (lbb_1 t1 t2 w a b c p x y)
  | [c, a, b], [p, q] => exact both (lbb_2 t1 t2 w a b c p q x y)
  | [c, a, b], p :: q :: s :: u :: r => exact both (lbb_4 t1 t2 w a b c p q s u r x y)
  | [c, a, b], [c2, p, q] =>
    rw [lba_in]
    cases decide (Int.ofNat x.length > 600) with
    | true => rfl
    | false =>
      cases decide (Int.ofNat y.length > 600) with
      | true => rfl
      | false =>
        rw [cond_false, cond_false]
        cases hcc : c != c2 with
        | true => rfl
        | false =>
          obtain rfl : c = c2 := by simpa using hcc
          rw [cond_false, decide_eq_true (show c = c ∧ x.length ≤ 9223372036854775807 ∧ y.length ≤ 9223372036854775807 from ⟨rfl, h1, h2⟩), cond_true]
          cases hb : bgnE3 t1 c a b x t2 p q y != 0 with
          | true => rfl
          | false =>
            obtain ⟨C, A, B', D, rfl, rfl, rfl, rfl, rfl, hk, hc0, e1, e2, hx, hy⟩ := okB_of (show bgnE3 t1 c a b x t2 p q y = 0 by simpa using hb)
            have hC := hk.c1
            have hCC : C ≤ 65536 := by
              have := Nat.le_mul_of_pos_right C (Nat.mul_pos hk.a1 hk.b1)
              have := hk.bx
              omega
            rw [cond_false, decide_eq_false (show ¬ ((C : Int) < 1) by omega), cond_false]
            by_cases hr : w < 0
            · have w1 : IntKind.i64.wrap (w + 1) = w + 1 := wrap64 (by omega) (by omega)
              have w2 : IntKind.i64.wrap (0 - (w + 1)) = ((-(w + 1)).toNat : Int) := by rw [wrap64 (by omega) (by omega)]; omega
              rw [decide_eq_true hr, cond_true, if_neg (by omega), Option.bind_some, w1, w2, ← Int.ofNat_tmod]
              exact lba_tail hk e1 e2 hx hy (Nat.mod_lt _ (by omega))
            · obtain ⟨r, rfl⟩ := Int.eq_ofNat_of_zero_le (show (0 : Int) ≤ w by omega)
              rw [decide_eq_false hr, cond_false, if_neg (by omega), Option.bind_some, ← Int.ofNat_tmod]
              exact lba_tail hk e1 e2 hx hy (Nat.mod_lt _ (by omega))
theorem lba_call (t1 : Int) (xd x : List Int) (_ : xd.length ≤ maxLen) (h1 : x.length ≤ maxLen) (t2 : Int) (yd y : List Int) (_ : yd.length ≤ maxLen) (h2 : y.length ≤ maxLen) (w : Int) (hv : (Lit.int .i64 w).wf = true) : FnH Tryz.prog (Env.gam e0) 9 [.d (Y0) (t1, xd, x, ()), .d (Y0) (t2, yd, y, ()), I w] (hget []) (fun ae h1 => ae = .ret [B true] ∧ h1 = hget []) :=
  runC_call gLba_good hmix Tryz.func9 Tryz.call9 (by decide +kernel) rfl (lba_true t1 t2 w xd x yd y (by
    simp [Lit.wf, IntKind.min, IntKind.max, IntKind.signed, IntKind.bits] at hv
    omega) h1 h2)
end Go.Proofs.XGT
