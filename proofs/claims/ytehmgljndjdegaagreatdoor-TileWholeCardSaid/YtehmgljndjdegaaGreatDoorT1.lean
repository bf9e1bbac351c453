import Derived.Test.YtehmgljndjdegaaGreatDoorGen3
import Derived.Test.YtehmgljndjdegaaGreatDoorVZ
namespace Go.Proofs.XG3
open Go.Vm Go
set_option maxRecDepth 100000
set_option maxHeartbeats 4000000

/-- one piece -/
def stp (n c z lo : Int) : Y0.den := (n, lo, (if lo + z < c then lo + z else c), ())

def cf6 : Cfg := ⟨42, 6, 0, [(5, [0, 1, 2, 8, 9])], true⟩
noncomputable def C6 : Code := codeOf Tryz.f6
noncomputable def L6 : Code := cL (cL (cR (cL (cR (cR (cR C6))))))
noncomputable def D6 : Code := cR (cR (cR (cR C6)))
def st6 (n c z lo : Int) (xs : List Y0.den) : LSt := ⟨mkFr 6 [(0, I n), (1, I c), (2, I z), (8, .os 0 0), (9, I lo)], [(0, .arr 30 Y0 0 false xs)], 1⟩
def st60 (n c z : Int) : LSt := ⟨mkFr 6 [(0, I n), (1, I c), (2, I z), (8, .nils), (9, I 0)], [], 0⟩

theorem body6 (n c z lo : Int) (xs : List Y0.den) : bodyB e0 cf6 L6 (st6 n c z lo xs) =
    bif decide (lo < c) then (app xs [(n, lo, (if IntKind.i64.wrap (lo + z) < c then IntKind.i64.wrap (lo + z) else c), ())]).bind fun zs => some (.next (st6 n c z (IntKind.i64.wrap (lo + z)) zs))
    else some (.done (.exit 0, (((st6 n c z lo xs).set 24 (I lo)).set 25 (I c)).set 26 (.d .bool false))) := by kernel_rfl
theorem body60 (n c z : Int) : bodyB e0 cf6 L6 (st60 n c z) =
    bif decide ((0 : Int) < c) then some (.next (st6 n c z (IntKind.i64.wrap (0 + z)) [(n, 0, (if IntKind.i64.wrap (0 + z) < c then IntKind.i64.wrap (0 + z) else c), ())]))
    else some (.done (.exit 0, (((st60 n c z).set 24 (I 0)).set 25 (I c)).set 26 (.d .bool false))) := by kernel_rfl

def errP : AEnd × LHp := (.ret [.nils, I 1], [])
noncomputable def K6 : AEx → LSt → Option (AEnd × LHp) := blkK 0 (seqK e0 cf6 D6 (endK Tryz.prog 0 Tryz.f6.results.toList))
theorem entry6 (n c z : Int) : execB e0 Tryz.f6 6 [(5, [0, 1, 2, 8, 9])] [I n, I c, I z] [] =
    bif decide (n < 0) then some errP else bif decide ((if z < c then z else c) < 1) then some errP else bif decide ((if z > c then z else c) > 65536) then some errP
    else (loopM (bodyB e0 cf6 L6) fu (st60 n c z)).bind fun es => K6 es.1 es.2 := by kernel_rfl
theorem exit6 (n c z lo : Int) (xs : List Y0.den) : K6 (.exit 0) ((((st6 n c z lo xs).set 24 (I lo)).set 25 (I c)).set 26 (.d .bool false)) = some (.ret [.os 0 0, I 0], [(0, .arr 30 Y0 0 false xs)]) := by kernel_rfl

def pcs (n c z : Int) (i : Nat) : List Y0.den := (List.range i).map fun (j : Nat) => stp n c z ((j : Int) * z)
theorem pcs_succ (n c z : Int) (i : Nat) : pcs n c z (i + 1) = pcs n c z i ++ [stp n c z ((i : Int) * z)] := by
  unfold pcs; rw [List.range_succ, List.map_append]; rfl
def cnt (c z : Int) : Nat := (c.toNat + z.toNat - 1) / z.toNat
theorem cnt_lt {c z : Int} (hc : 1 ≤ c) (hz : 1 ≤ z) (i : Nat) : i < cnt c z ↔ (i : Int) * z < c := by
  unfold cnt
  have h1 : i < (c.toNat + z.toNat - 1) / z.toNat ↔ (i + 1) * z.toNat ≤ c.toNat + z.toNat - 1 := by
    rw [← Nat.succ_le_iff]; exact Nat.le_div_iff_mul_le (by omega)
  rw [h1, Nat.add_mul, Nat.one_mul]
  have h2 : ((i * z.toNat : Nat) : Int) = (i : Int) * z := by rw [Int.natCast_mul, Int.toNat_of_nonneg (by omega)]
  omega

def bad (n c z : Int) : Bool := decide (n < 0) || decide (c < 1) || decide (65536 < c) || decide (z < 1) || decide (65536 < z)
theorem bad_false {n c z : Int} (h : bad n c z = false) : 0 ≤ n ∧ 1 ≤ c ∧ c ≤ 65536 ∧ 1 ≤ z ∧ z ≤ 65536 := by
  simp only [bad, Bool.or_eq_false_iff, decide_eq_false_iff_not] at h
  omega

def stf (s0 : LSt) (s1 : Int → List Y0.den → LSt) (n c z : Int) : Nat → LSt
  | 0 => s0
  | i + 1 => s1 (((i + 1 : Nat) : Int) * z) (pcs n c z (i + 1))

/-- the loop's run -/
theorem run_steps {B : LSt → Option (Stp LSt (AEx × LSt))} {n c z : Int} {s0 : LSt} {s1 : Int → List Y0.den → LSt} {r : Int → List Y0.den → AEx × LSt} (hc : 1 ≤ c) (hc2 : c ≤ 65536) (hz : 1 ≤ z) (hz2 : z ≤ 65536)
    (h0 : B s0 = bif decide ((0 : Int) < c) then some (.next (s1 (IntKind.i64.wrap (0 + z)) [(n, 0, (if IntKind.i64.wrap (0 + z) < c then IntKind.i64.wrap (0 + z) else c), ())])) else none)
    (h1 : ∀ lo xs, B (s1 lo xs) = bif decide (lo < c) then (app xs [(n, lo, (if IntKind.i64.wrap (lo + z) < c then IntKind.i64.wrap (lo + z) else c), ())]).bind fun zs => some (.next (s1 (IntKind.i64.wrap (lo + z)) zs)) else some (.done (r lo xs))) :
    loopM B fu s0 = some (r ((cnt c z : Nat) * z) (pcs n c z (cnt c z))) := by
  have hw : ∀ lo : Int, 0 ≤ lo → lo < c → IntKind.i64.wrap (lo + z) = lo + z := fun lo a b => wrap64 (by omega) (by omega)
  have hN : 0 < cnt c z := (cnt_lt hc hz 0).2 (by simp; omega)
  have hNle : cnt c z ≤ 65536 := by
    rcases Nat.lt_or_ge 65536 (cnt c z) with h | h
    · have h4 : ((65536 : Nat) : Int) * z < c := (cnt_lt hc hz 65536).1 h
      have h3 : ((65536 : Nat) : Int) * 1 ≤ ((65536 : Nat) : Int) * z := Int.mul_le_mul_of_nonneg_left hz (by omega)
      omega
    · exact h
  obtain ⟨N, hNe⟩ : ∃ N, cnt c z = N + 1 := ⟨cnt c z - 1, by omega⟩
  have hlen : ∀ i, (pcs n c z i).length = i := fun i => by simp [pcs]
  have key := loopM_run (B := B) (f := stf s0 s1 n c z) (r := r ((cnt c z : Nat) * z) (pcs n c z (cnt c z))) (cnt c z) fu (by unfold fu; omega) (fun i hi => ?_) ?_
  · exact key
  · have hlt := (cnt_lt hc hz i).1 hi
    cases i with
    | zero =>
      show B s0 = some (.next (s1 (((0 + 1 : Nat) : Int) * z) (pcs n c z (0 + 1))))
      rw [h0, decide_eq_true (by omega : (0 : Int) < c), hw 0 (by omega) (by omega), pcs_succ]
      have e1 : ((0 + 1 : Nat) : Int) * z = 0 + z := by omega
      have e2 : ((0 : Nat) : Int) * z = 0 := by omega
      rw [e1, e2]
      rfl
    | succ i =>
      show B (s1 (((i + 1 : Nat) : Int) * z) (pcs n c z (i + 1))) = some (.next (s1 (((i + 1 + 1 : Nat) : Int) * z) (pcs n c z (i + 1 + 1))))
      rw [h1]
      have hnn : (0 : Int) ≤ ((i + 1 : Nat) : Int) * z := Int.mul_nonneg (by omega) (by omega)
      rw [decide_eq_true hlt, hw _ hnn hlt, app_eq (by rw [hlen]; simp only [List.length_singleton]; unfold lim; omega)]
      simp only [cond_true, Option.bind_some]
      have e : ((i + 1 + 1 : Nat) : Int) * z = ((i + 1 : Nat) : Int) * z + z := by
        rw [Int.natCast_add (i + 1) 1, Int.add_mul]; omega
      rw [pcs_succ n c z (i + 1), e]
      rfl
  · rw [hNe]
    show B (s1 (((N + 1 : Nat) : Int) * z) (pcs n c z (N + 1))) = _
    rw [h1]
    have hge : ¬ (((N + 1 : Nat) : Int) * z < c) := fun h => by
      have := (cnt_lt hc hz (N + 1)).2 h; omega
    rw [decide_eq_false hge]
    rfl

def stepsP (n c z : Int) : AEnd × LHp := bif bad n c z then errP else (.ret [.os 0 0, I 0], [(0, .arr 30 Y0 0 false (pcs n c z (cnt c z)))])

theorem steps6 (n c z : Int) : execB e0 Tryz.f6 6 [(5, [0, 1, 2, 8, 9])] [I n, I c, I z] [] = some (stepsP n c z) := by
  rw [entry6]
  unfold stepsP
  cases hb : bad n c z with
  | true =>
    simp only [bad, Bool.or_eq_true, decide_eq_true_eq] at hb
    by_cases h1 : n < 0
    · rw [decide_eq_true h1]; rfl
    · rw [decide_eq_false h1]
      by_cases h2 : (if z < c then z else c) < 1
      · rw [decide_eq_true h2]; rfl
      · rw [decide_eq_false h2]
        have h3 : (if z > c then z else c) > 65536 := by split at h2 <;> split <;> omega
        rw [decide_eq_true h3]; rfl
  | false =>
    obtain ⟨a1, a2, a3, a4, a5⟩ := bad_false hb
    rw [decide_eq_false (by omega : ¬ n < 0), decide_eq_false (by split <;> omega : ¬ (if z < c then z else c) < 1), decide_eq_false (by split <;> omega : ¬ (if z > c then z else c) > 65536)]
    simp only [cond_false]
    rw [run_steps (n := n) (s1 := fun lo xs => st6 n c z lo xs) (r := fun lo xs => (.exit 0, (((st6 n c z lo xs).set 24 (I lo)).set 25 (I c)).set 26 (.d .bool false))) a2 a3 a4 a5
      (by rw [body60, decide_eq_true (by omega : (0 : Int) < c)]; rfl) (fun lo xs => body6 n c z lo xs)]
    simp only [Option.bind_some]
    rw [exit6]

/-! ### the document's steps -/
def cf7 : Cfg := ⟨46, 6, 0, [(5, [0, 1, 2, 8, 9])], true⟩
noncomputable def C7 : Code := codeOf Tryz.f7
noncomputable def L7 : Code := cL (cL (cR (cL (cR (cR (cR C7))))))
noncomputable def K7 : AEx → LSt → Option (AEnd × LHp) := blkK 0 (seqK e0 cf7 (cR (cR (cR (cR C7)))) (endK Tryz.prog 0 Tryz.f7.results.toList))
theorem body7 (n c z lo : Int) (xs : List Y0.den) : bodyB e0 cf7 L7 (st6 n c z lo xs) =
    bif decide (lo < c) then (app xs [(n, lo, (if IntKind.i64.wrap (lo + z) < c then IntKind.i64.wrap (lo + z) else c), ())]).bind fun zs => some (.next (st6 n c z (IntKind.i64.wrap (lo + z)) zs))
    else some (.done (.exit 0, (((st6 n c z lo xs).set 28 (I lo)).set 29 (I c)).set 30 (.d .bool false))) := by kernel_rfl
theorem body70 (n c z : Int) : bodyB e0 cf7 L7 (st60 n c z) =
    bif decide ((0 : Int) < c) then some (.next (st6 n c z (IntKind.i64.wrap (0 + z)) [(n, 0, (if IntKind.i64.wrap (0 + z) < c then IntKind.i64.wrap (0 + z) else c), ())]))
    else some (.done (.exit 0, (((st60 n c z).set 28 (I 0)).set 29 (I c)).set 30 (.d .bool false))) := by kernel_rfl
theorem entry7 (n c z : Int) : execB e0 Tryz.f7 6 [(5, [0, 1, 2, 8, 9])] [I n, I c, I z] [] =
    bif decide (n < 0) then some errP else bif decide (c < 1) then some errP else bif decide (c > 65536) then some errP else bif decide (z < 1) then some errP else bif decide (z > 65536) then some errP
    else (loopM (bodyB e0 cf7 L7) fu (st60 n c z)).bind fun es => K7 es.1 es.2 := by kernel_rfl
theorem exit7 (n c z lo : Int) (xs : List Y0.den) : K7 (.exit 0) ((((st6 n c z lo xs).set 28 (I lo)).set 29 (I c)).set 30 (.d .bool false)) = some (.ret [.os 0 0, I 0], [(0, .arr 30 Y0 0 false xs)]) := by kernel_rfl

theorem steps7 (n c z : Int) : execB e0 Tryz.f7 6 [(5, [0, 1, 2, 8, 9])] [I n, I c, I z] [] = some (stepsP n c z) := by
  rw [entry7]
  unfold stepsP
  cases hb : bad n c z with
  | true =>
    simp only [bad, Bool.or_eq_true, decide_eq_true_eq] at hb
    by_cases h1 : n < 0
    · rw [decide_eq_true h1]; rfl
    · rw [decide_eq_false h1]
      by_cases h2 : c < 1
      · rw [decide_eq_true h2]; rfl
      · rw [decide_eq_false h2]
        by_cases h3 : c > 65536
        · rw [decide_eq_true h3]; rfl
        · rw [decide_eq_false h3]
          by_cases h4 : z < 1
          · rw [decide_eq_true h4]; rfl
          · rw [decide_eq_false h4, decide_eq_true (by omega : z > 65536)]; rfl
  | false =>
    obtain ⟨a1, a2, a3, a4, a5⟩ := bad_false hb
    rw [decide_eq_false (by omega : ¬ n < 0), decide_eq_false (by omega : ¬ c < 1), decide_eq_false (by omega : ¬ c > 65536), decide_eq_false (by omega : ¬ z < 1), decide_eq_false (by omega : ¬ z > 65536)]
    simp only [cond_false]
    rw [run_steps (n := n) (s1 := fun lo xs => st6 n c z lo xs) (r := fun lo xs => (.exit 0, (((st6 n c z lo xs).set 28 (I lo)).set 29 (I c)).set 30 (.d .bool false))) a2 a3 a4 a5
      (by rw [body70, decide_eq_true (by omega : (0 : Int) < c)]; rfl) (fun lo xs => body7 n c z lo xs)]
    simp only [Option.bind_some]
    rw [exit7]

/-! ### are two lists of steps the same -/
def cf8 : Cfg := ⟨26, 5, 2, [(4, [0, 1, 5])], true⟩
noncomputable def C8 : Code := codeOf Tryz.f8
noncomputable def L8 : Code := cL (cL (cR (cL (cR (cR C8)))))
noncomputable def K8 : AEx → LSt → Option (AEnd × LHp) := blkK 0 (seqK e0 cf8 (cR (cR (cR C8))) (endK Tryz.prog 2 Tryz.f8.results.toList))
def hp8 (xs ys : List Y0.den) : LHp := [(0, .arr 30 Y0 0 false ys), (1, .arr 30 Y0 0 false xs)]
def st8 (xs ys : List Y0.den) (i : Int) : LSt := ⟨mkFr 5 [(0, .os 1 0), (1, .os 0 0), (5, I i)], hp8 xs ys, 4⟩
def sx8 (xs ys : List Y0.den) (i : Int) : LSt := ⟨mkFr 5 [(0, .os 1 0), (1, .os 0 0), (5, I i), (11, I i), (12, .os 1 0), (13, I (Int.ofNat xs.length)), (14, .d .bool false)], hp8 xs ys, 4⟩
def sr8 (xs ys : List Y0.den) (i : Int) (a b : Y0.den) : LSt := ⟨mkFr 5 [(0, .os 1 0), (1, .os 0 0), (4, .d .bool false), (5, I i), (11, I i), (12, .os 1 0), (13, I (Int.ofNat xs.length)), (14, .d .bool true), (17, .os 1 0), (18, I i), (19, .oe 1 0 i.toNat),
  (20, .d Y0 a), (21, .os 0 0), (22, I i), (23, .oe 0 0 i.toNat), (24, .d Y0 b), (25, .d .bool true)], hp8 xs ys, 4⟩
theorem body8 (xs ys : List Y0.den) (i : Int) : bodyB e0 cf8 L8 (st8 xs ys i) =
    bif decide (i < Int.ofNat xs.length) then (idx xs i).bind fun _ => (xs[i.toNat]?).bind fun a => (idx ys i).bind fun _ => (ys[i.toNat]?).bind fun b =>
      bif !eqI Y0 a b then some (.done (.ret, sr8 xs ys i a b)) else some (.next (st8 xs ys (IntKind.i64.wrap (i + 1))))
    else some (.done (.exit 0, sx8 xs ys i)) := by kernel_rfl
theorem entry8 (xs ys : List Y0.den) : execB e0 Tryz.f8 5 [(4, [0, 1, 5])] [.os 1 0, .os 0 0] (hp8 xs ys) =
    bif Int.ofNat xs.length != Int.ofNat ys.length then some (.ret [.d .bool false], hp8 xs ys)
    else (loopM (bodyB e0 cf8 L8) fu (st8 xs ys 0)).bind fun es => K8 es.1 es.2 := by kernel_rfl
theorem exit8 (xs ys : List Y0.den) (i : Int) : K8 (.exit 0) (sx8 xs ys i) = some (.ret [.d .bool true], hp8 xs ys) := by kernel_rfl
theorem nil8 : execB e0 Tryz.f8 5 [(4, [0, 1, 5])] [.nils, .nils] [] = some (.ret [.d .bool true], []) := by kernel_rfl

theorem eqI_Y0 (a : Y0.den) : eqI Y0 a a = true := by
  obtain ⟨a, b, c, d⟩ := a
  simp [eqI]

theorem same8 (xs : List Y0.den) (hl : xs.length ≤ 4294967296) : execB e0 Tryz.f8 5 [(4, [0, 1, 5])] [.os 1 0, .os 0 0] (hp8 xs xs) = some (.ret [.d .bool true], hp8 xs xs) := by
  rw [entry8]
  simp only [bne_self_eq_false, cond_false]
  have key := loopM_run (B := bodyB e0 cf8 L8) (f := fun i => st8 xs xs (i : Int)) (r := (.exit 0, sx8 xs xs ((xs.length : Nat) : Int))) xs.length fu (by unfold fu; omega) (fun i hi => ?_) ?_
  · rw [show st8 xs xs 0 = (fun i : Nat => st8 xs xs (i : Int)) 0 from rfl, key]
    simp only [Option.bind_some]
    rw [exit8]
  · have hg : xs[i]? = some xs[i] := List.getElem?_eq_getElem hi
    have hidx : idx xs (i : Int) = some xs[i] := by unfold idx; rw [if_pos (by omega), Int.toNat_natCast, hg]
    show bodyB e0 cf8 L8 (st8 xs xs (i : Int)) = _
    rw [body8, decide_eq_true (show (i : Int) < Int.ofNat xs.length from Int.ofNat_lt.2 hi), hidx, Int.toNat_natCast, hg]
    simp only [cond_true, Option.bind_some, eqI_Y0, Bool.not_true, cond_false]
    rw [wrap64 (by omega) (by omega)]
    rfl
  · show bodyB e0 cf8 L8 (st8 xs xs ((xs.length : Nat) : Int)) = _
    rw [body8, decide_eq_false (show ¬ ((xs.length : Nat) : Int) < Int.ofNat xs.length from Int.lt_irrefl _)]
    rfl

/-! ### as pure answers -/
theorem x0_ok6 : FnE.OK e0.P e0.gam 6 x6 := x6_ok
noncomputable def x7' : FnE := execFn e0 Tryz.f7 6 [(5, [0, 1, 2, 8, 9])]
theorem x7'_ok : FnE.OK e0.P e0.gam 7 x7' := execFn_ok e0_good hmix Tryz.func7 Tryz.call7 (by kernel_rfl) (by kernel_rfl)
noncomputable def x8' : FnE := execFn e0 Tryz.f8 5 [(4, [0, 1, 5])]
theorem x8'_ok : FnE.OK e0.P e0.gam 8 x8' := execFn_ok e0_good hmix Tryz.func8 Tryz.call8 (by kernel_rfl) (by kernel_rfl)

def stepsE : FnE := { run := fun args hs k =>
  match args, hs with
  | [.d (.int .i64) n, .d (.int .i64) c, .d (.int .i64) z], [] => bif bad n c z then k (.ret [.nils, I 1]) [] else k (.ret [.os 0 0, I 0]) [(0, .arr 30 Y0 0 false (pcs n c z (cnt c z)))]
  | _, _ => none }
theorem stepsE_some {R : Type} {args : List AV} {hs : LHp} {k : AEnd → LHp → Option R} {r : R} (h : stepsE.run args hs k = some r) : ∃ n c z, args = [I n, I c, I z] ∧ hs = [] ∧ k (stepsP n c z).1 (stepsP n c z).2 = some r := by
  simp only [stepsE] at h
  split at h
  · rename_i n c z
    refine ⟨n, c, z, rfl, rfl, ?_⟩
    unfold stepsP errP
    cases hb : bad n c z with
    | true => rw [hb] at h; exact h
    | false => rw [hb] at h; exact h
  · cases h
theorem stepsE_run {R : Type} (n c z : Int) (k : AEnd → LHp → Option R) : stepsE.run [I n, I c, I z] [] k = k (stepsP n c z).1 (stepsP n c z).2 := by
  simp only [stepsE, stepsP, errP]
  cases bad n c z <;> rfl
theorem stepsE_nat {R : Type} (args : List AV) (hs : LHp) (k : AEnd → LHp → Option R) (r : R) (h : stepsE.run args hs k = some r) : ∃ ae hs', stepsE.run args hs (fun a h => some (a, h)) = some (ae, hs') ∧ k ae hs' = some r := by
  obtain ⟨n, c, z, rfl, rfl, hk⟩ := stepsE_some h
  exact ⟨_, _, stepsE_run n c z _, hk⟩
theorem stepsE_ok6 : FnE.OK e0.P e0.gam 6 stepsE := FnE.OK.of x0_ok6 stepsE_nat fun args hs ae hs' h => by
  obtain ⟨n, c, z, rfl, rfl, hk⟩ := stepsE_some h
  cases hk
  show (execB e0 Tryz.f6 6 [(5, [0, 1, 2, 8, 9])] [I n, I c, I z] []).bind _ = _
  rw [steps6]
  rfl
theorem stepsE_ok7 : FnE.OK e0.P e0.gam 7 stepsE := FnE.OK.of x7'_ok stepsE_nat fun args hs ae hs' h => by
  obtain ⟨n, c, z, rfl, rfl, hk⟩ := stepsE_some h
  cases hk
  show (execB e0 Tryz.f7 6 [(5, [0, 1, 2, 8, 9])] [I n, I c, I z] []).bind _ = _
  rw [steps7]
  rfl

def sameE : FnE := { run := fun args hs k =>
  match args, hs with
  | [.nils, .nils], [] => k (.ret [.d .bool true]) []
  | [.os 1 0, .os 0 0], [(0, .arr 30 (.pair (.int .i64) (.pair (.int .i64) (.pair (.int .i64) .unit))) 0 false xs), (1, .arr 30 (.pair (.int .i64) (.pair (.int .i64) (.pair (.int .i64) .unit))) 0 false ys)] =>
    bif decide (xs = ys) && decide (xs.length ≤ 4294967296) then k (.ret [.d .bool true]) (hp8 xs ys) else none
  | _, _ => none }
theorem sameE_some {R : Type} {args : List AV} {hs : LHp} {k : AEnd → LHp → Option R} {r : R} (h : sameE.run args hs k = some r) :
    (args = [.nils, .nils] ∧ hs = [] ∧ k (.ret [.d .bool true]) [] = some r) ∨ ∃ xs : List Y0.den, args = [.os 1 0, .os 0 0] ∧ hs = hp8 xs xs ∧ xs.length ≤ 4294967296 ∧ k (.ret [.d .bool true]) (hp8 xs xs) = some r := by
  simp only [sameE] at h
  split at h
  · exact .inl ⟨rfl, rfl, h⟩
  · rename_i xs ys
    cases hb : decide (xs = ys) && decide (xs.length ≤ 4294967296) with
    | false => rw [hb] at h; cases h
    | true =>
      rw [hb] at h
      simp only [Bool.and_eq_true, decide_eq_true_eq] at hb
      obtain ⟨rfl, hl⟩ := hb
      exact .inr ⟨xs, rfl, rfl, hl, h⟩
  · cases h
theorem sameE_ok : FnE.OK e0.P e0.gam 8 sameE := by
  refine FnE.OK.of x8'_ok (fun args hs k r h => ?_) fun args hs ae hs' h => ?_
  · rcases sameE_some h with ⟨rfl, rfl, hk⟩ | ⟨xs, rfl, rfl, hl, hk⟩
    · exact ⟨_, _, rfl, hk⟩
    · refine ⟨.ret [.d .bool true], hp8 xs xs, ?_, hk⟩
      show (bif decide (xs = xs) && decide (xs.length ≤ 4294967296) then _ else _) = _
      rw [decide_eq_true rfl, decide_eq_true hl]
      rfl
  · rcases sameE_some h with ⟨rfl, rfl, hk⟩ | ⟨xs, rfl, rfl, hl, hk⟩
    · cases hk
      show (execB e0 Tryz.f8 5 [(4, [0, 1, 5])] [.nils, .nils] []).bind _ = _
      rw [nil8]; rfl
    · cases hk
      show (execB e0 Tryz.f8 5 [(4, [0, 1, 5])] [.os 1 0, .os 0 0] (hp8 xs xs)).bind _ = _
      rw [same8 xs hl]; rfl

/-- a function that is called with nothing and answers true -/
def trueE : FnE := { run := fun args hs k => match args, hs with | [], [] => k (.ret [.d .bool true]) [] | _, _ => none }
theorem trueE_ok {P : Program} {Γ : Nat → Option AV} {f : FuncId} {g : FnE} (h : FnE.OK P Γ f g) (hr : g.run [] [] (fun a h => some (a, h)) = some (.ret [.d .bool true], [])) : FnE.OK P Γ f trueE := by
  have hs : ∀ {R : Type} {args : List AV} {hs : LHp} {k : AEnd → LHp → Option R} {r : R}, trueE.run args hs k = some r → args = [] ∧ hs = [] ∧ k (.ret [.d .bool true]) [] = some r := by
    intro R args hs k r h
    simp only [trueE] at h
    split at h
    · exact ⟨rfl, rfl, h⟩
    · cases h
  refine FnE.OK.of h (fun args hs0 k r h => ?_) fun args hs0 ae hs' h => ?_
  · obtain ⟨rfl, rfl, hk⟩ := hs h
    exact ⟨_, _, rfl, hk⟩
  · obtain ⟨rfl, rfl, hk⟩ := hs h
    cases hk
    exact hr
end Go.Proofs.XG3
