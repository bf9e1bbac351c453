/- numbers of dims, told. -/
import Derived.Test.YtbijfcooljoogaaGreatDoorGUn

namespace Go.Proofs.XGT
open Go.Vm Go
set_option maxRecDepth 100000
set_option maxHeartbeats 4000000
theorem count_ok {xs : List Int} (h : countE xs = 0) : (∀ x ∈ xs, 1 ≤ x) ∧ xs.length ≤ 6 ∧ prodI xs ≤ 65536 ∧ countN xs = prodI xs := by
  unfold countE at h
  unfold countN
  cases h1 : decide (idxP (fun d => decide (d < 1)) xs ≥ 0) with
  | true => rw [h1] at h; exact absurd (show (4 : Int) = 0 from h) (by decide)
  | false =>
    rw [h1] at h
    cases h2 : decide (Int.ofNat xs.length > 6) with
    | true => rw [h2] at h; exact absurd (show (6 : Int) = 0 from h) (by decide)
    | false =>
      rw [h2] at h
      cases h3 : bigI xs with
      | true => rw [h3] at h; exact absurd (show (6 : Int) = 0 from h) (by decide)
      | false =>
        refine ⟨fun x hx => ?_, ?_, ?_, rfl⟩
        · rw [idxP_ge, List.any_eq_false] at h1
          have := h1 x hx
          simp only [decide_eq_true_eq] at this
          omega
        · have := of_decide_eq_false h2
          have e : Int.ofNat xs.length = (xs.length : Int) := rfl
          omega
        · have := of_decide_eq_false h3
          omega
theorem ten_ok {t : Int} {xd dt : List Int} (h : tenE t xd dt = 0) : numOk t 0 = true ∧ countE xd = 0 ∧ (dt.length : Int) = countN xd ∧ ∀ x ∈ dt, numOk t x = true := by
  unfold tenE at h
  cases h1 : numOk t 0 with
  | false => rw [h1] at h; exact absurd (show (5 : Int) = 0 from h) (by decide)
  | true =>
    rw [h1] at h
    cases h2 : countE xd != 0 with
    | true =>
      rw [h2] at h
      have h' : countE xd = 0 := h
      rw [h'] at h2
      exact absurd h2 (by decide)
    | false =>
      rw [h2] at h
      cases h3 : Int.ofNat dt.length != countN xd with
      | true => rw [h3] at h; exact absurd (show (4 : Int) = 0 from h) (by decide)
      | false =>
        rw [h3] at h
        cases h4 : dt.any (fun x => !numOk t x) with
        | true => rw [h4] at h; exact absurd (show (4 : Int) = 0 from h) (by decide)
        | false =>
          refine ⟨rfl, by simpa using h2, by simpa using h3, fun x hx => ?_⟩
          rw [List.any_eq_false] at h4
          simpa using h4 x hx
theorem four {xs : List Int} (h : xs.length = 4) : ∃ a b c d, xs = [a, b, c, d] := by
  match xs, h with
  | [a, b, c, d], _ => exact ⟨a, b, c, d, rfl⟩
theorem mul_le_self {a b : Int} (ha : 1 ≤ a) (hb : 1 ≤ b) : a ≤ a * b ∧ b ≤ a * b ∧ 1 ≤ a * b := by
  have h1 := Int.mul_le_mul_of_nonneg_left hb (show 0 ≤ a by omega)
  have h2 := Int.mul_le_mul_of_nonneg_right ha (show 0 ≤ b by omega)
  rw [Int.mul_one] at h1
  rw [Int.one_mul] at h2
  exact ⟨h1, h2, by omega⟩
structure Four (a b c d : Int) : Prop where
  a1 : 1 ≤ a
  b1 : 1 ≤ b
  c1 : 1 ≤ c
  d1 : 1 ≤ d
  ab : 1 ≤ a * b ∧ a * b ≤ 65536
  cd : 1 ≤ c * d ∧ c * d ≤ 65536
  all : a * b * (c * d) ≤ 65536
  c2 : c ≤ 65536
  d2 : d ≤ 65536
theorem four_ok {a b c d : Int} (h : countE [a, b, c, d] = 0) : Four a b c d ∧ countN [a, b, c, d] = a * b * (c * d) := by
  obtain ⟨h1, _, h3, h4⟩ := count_ok h
  have ha := h1 a (by simp)
  have hb := h1 b (by simp)
  have hc := h1 c (by simp)
  have hd := h1 d (by simp)
  have e : prodI [a, b, c, d] = a * b * (c * d) := by
    show 1 * a * b * c * d = _
    rw [Int.one_mul, Int.mul_assoc (a * b) c d]
  rw [e] at h3 h4
  obtain ⟨g1, g2, g3⟩ := mul_le_self ha hb
  obtain ⟨k1, k2, k3⟩ := mul_le_self hc hd
  obtain ⟨l1, l2, l3⟩ := mul_le_self g3 k3
  exact ⟨⟨ha, hb, hc, hd, ⟨g3, by omega⟩, ⟨k3, by omega⟩, h3, by omega, by omega⟩, h4⟩
end Go.Proofs.XGT
/- conv.two: sums, quotients, the greater of two. -/
namespace Go.Proofs.XGT
open Go.Vm Go
set_option maxRecDepth 100000
set_option maxHeartbeats 4000000
noncomputable def C_two : Code := codeOf Tryz.f60
noncomputable def cf_two : Cfg := ⟨17, 5, 0, [], true⟩
theorem add_eq (x y : Int) : runC g158 Tryz.f60 5 [] [.d .str [65, 100, 100], I x, I y] [] ah =
  bif !numOk 1 x then some (AEnd.ret [I 0], [])
  else 
    bif !numOk 1 y then some (AEnd.ret [I 0], [])
    else 
      bif (FloatKind.f32.format.read (canonF FloatKind.f32 (IntKind.u32.wrap x).toNat)).order (FloatKind.f32.format.read (canonF FloatKind.f32 (IntKind.u32.wrap x).toNat)) != some Ordering.eq then 
        bif (FloatKind.f32.format.read (fop BinOp.add FloatKind.f32 (canonF FloatKind.f32 (IntKind.u32.wrap x).toNat) (canonF FloatKind.f32 (IntKind.u32.wrap y).toNat))).order (FloatKind.f32.format.read (fop BinOp.add FloatKind.f32 (canonF FloatKind.f32 (IntKind.u32.wrap x).toNat) (canonF FloatKind.f32 (IntKind.u32.wrap y).toNat))) != some Ordering.eq then some (AEnd.ret [I 2143289344], [])
        else 
          bif fNaN FloatKind.f32 (fop BinOp.add FloatKind.f32 (canonF FloatKind.f32 (IntKind.u32.wrap x).toNat) (canonF FloatKind.f32 (IntKind.u32.wrap y).toNat)) then none
          else some (AEnd.ret [I (IntKind.i64.wrap (Int.ofNat (fop BinOp.add FloatKind.f32 (canonF FloatKind.f32 (IntKind.u32.wrap x).toNat) (canonF FloatKind.f32 (IntKind.u32.wrap y).toNat))))], [])
      else 
        bif (FloatKind.f32.format.read (fop BinOp.add FloatKind.f32 (canonF FloatKind.f32 (IntKind.u32.wrap x).toNat) (canonF FloatKind.f32 (IntKind.u32.wrap y).toNat))).order (FloatKind.f32.format.read (fop BinOp.add FloatKind.f32 (canonF FloatKind.f32 (IntKind.u32.wrap x).toNat) (canonF FloatKind.f32 (IntKind.u32.wrap y).toNat))) != some Ordering.eq then some (AEnd.ret [I 2143289344], [])
        else 
          bif fNaN FloatKind.f32 (fop BinOp.add FloatKind.f32 (canonF FloatKind.f32 (IntKind.u32.wrap x).toNat) (canonF FloatKind.f32 (IntKind.u32.wrap y).toNat)) then none
          else some (AEnd.ret [I (IntKind.i64.wrap (Int.ofNat (fop BinOp.add FloatKind.f32 (canonF FloatKind.f32 (IntKind.u32.wrap x).toNat) (canonF FloatKind.f32 (IntKind.u32.wrap y).toNat))))], []) := by kernel_rfl
theorem max_eq (x y : Int) : runC g158 Tryz.f60 5 [] [.d .str [77, 97, 120], I x, I y] [] ah =
  bif !numOk 1 x then some (AEnd.ret [I 0], [])
  else 
    bif !numOk 1 y then some (AEnd.ret [I 0], [])
    else 
      bif (FloatKind.f32.format.read (canonF FloatKind.f32 (IntKind.u32.wrap x).toNat)).order (FloatKind.f32.format.read (canonF FloatKind.f32 (IntKind.u32.wrap x).toNat)) != some Ordering.eq then some (AEnd.ret [I 2143289344], [])
      else 
        bif (FloatKind.f32.format.read (canonF FloatKind.f32 (IntKind.u32.wrap y).toNat)).order (FloatKind.f32.format.read (canonF FloatKind.f32 (IntKind.u32.wrap y).toNat)) != some Ordering.eq then some (AEnd.ret [I 2143289344], [])
        else 
          bif (FloatKind.f32.format.read (canonF FloatKind.f32 (IntKind.u32.wrap x).toNat)).order (FloatKind.f32.format.read (canonF FloatKind.f32 (IntKind.u32.wrap y).toNat)) == some Ordering.eq then some (AEnd.ret [I (IntKind.i64.wrap (Int.ofNat (BitVec.ofInt 64 x &&& BitVec.ofInt 64 y).toNat))], [])
          else 
            bif (FloatKind.f32.format.read (canonF FloatKind.f32 (IntKind.u32.wrap x).toNat)).order (FloatKind.f32.format.read (canonF FloatKind.f32 (IntKind.u32.wrap y).toNat)) == some Ordering.gt then some (AEnd.ret [I x], [])
            else some (AEnd.ret [I y], []) := by kernel_rfl
theorem div_eq (x y : Int) : runC g158 Tryz.f60 5 [] [.d .str [68, 105, 118], I x, I y] [] ah =
  bif !numOk 1 x then some (AEnd.ret [I 0], [])
  else 
    bif !numOk 1 y then some (AEnd.ret [I 0], [])
    else 
      bif (FloatKind.f32.format.read (canonF FloatKind.f32 (IntKind.u32.wrap x).toNat)).order (FloatKind.f32.format.read (canonF FloatKind.f32 (IntKind.u32.wrap x).toNat)) != some Ordering.eq then 
        bif (FloatKind.f32.format.read (fop BinOp.quo FloatKind.f32 (canonF FloatKind.f32 (IntKind.u32.wrap x).toNat) (canonF FloatKind.f32 (IntKind.u32.wrap y).toNat))).order (FloatKind.f32.format.read (fop BinOp.quo FloatKind.f32 (canonF FloatKind.f32 (IntKind.u32.wrap x).toNat) (canonF FloatKind.f32 (IntKind.u32.wrap y).toNat))) != some Ordering.eq then some (AEnd.ret [I 2143289344], [])
        else 
          bif fNaN FloatKind.f32 (fop BinOp.quo FloatKind.f32 (canonF FloatKind.f32 (IntKind.u32.wrap x).toNat) (canonF FloatKind.f32 (IntKind.u32.wrap y).toNat)) then none
          else some (AEnd.ret [I (IntKind.i64.wrap (Int.ofNat (fop BinOp.quo FloatKind.f32 (canonF FloatKind.f32 (IntKind.u32.wrap x).toNat) (canonF FloatKind.f32 (IntKind.u32.wrap y).toNat))))], [])
      else 
        bif (FloatKind.f32.format.read (fop BinOp.quo FloatKind.f32 (canonF FloatKind.f32 (IntKind.u32.wrap x).toNat) (canonF FloatKind.f32 (IntKind.u32.wrap y).toNat))).order (FloatKind.f32.format.read (fop BinOp.quo FloatKind.f32 (canonF FloatKind.f32 (IntKind.u32.wrap x).toNat) (canonF FloatKind.f32 (IntKind.u32.wrap y).toNat))) != some Ordering.eq then some (AEnd.ret [I 2143289344], [])
        else 
          bif fNaN FloatKind.f32 (fop BinOp.quo FloatKind.f32 (canonF FloatKind.f32 (IntKind.u32.wrap x).toNat) (canonF FloatKind.f32 (IntKind.u32.wrap y).toNat)) then none
          else some (AEnd.ret [I (IntKind.i64.wrap (Int.ofNat (fop BinOp.quo FloatKind.f32 (canonF FloatKind.f32 (IntKind.u32.wrap x).toNat) (canonF FloatKind.f32 (IntKind.u32.wrap y).toNat))))], []) := by kernel_rfl
/-- the word of a number that came in -/
def cw (x : Int) : Nat := canonF FloatKind.f32 (IntKind.u32.wrap x).toNat
def resW (z : Nat) : Int := bif fNaN .f32 z then 2143289344 else IntKind.i64.wrap (Int.ofNat z)
/-- what a sum (quotient) of two words is, told of their numbers -/
def binW (op : BinOp) (x y : Int) : Int := bif numOk 1 x && numOk 1 y then resW (fop op .f32 (cw x) (cw y)) else 0
def rdW (x : Int) : Ieee.Datum := FloatKind.f32.format.read (cw x)
def maxW (x y : Int) : Int :=
  bif numOk 1 x && numOk 1 y then
    bif (rdW x).isNaN || (rdW y).isNaN then 2143289344
    else bif (rdW x).order (rdW y) == some .eq then IntKind.i64.wrap (Int.ofNat (BitVec.ofInt 64 x &&& BitVec.ofInt 64 y).toNat)
    else bif (rdW x).order (rdW y) == some .gt then x else y
  else 0
theorem order_self (d : Ieee.Datum) : (d.order d != some Ordering.eq) = d.isNaN := by
  cases d with
  | number s m e =>
    simp [Ieee.Datum.order, Ieee.Datum.isNaN, Int.min_self, Std.ReflCmp.compare_self]
  | infinity s =>
    cases s <;> simp [Ieee.Datum.order, Ieee.Datum.isNaN]
  | _ => simp [Ieee.Datum.order, Ieee.Datum.isNaN]
theorem bin_fin (op : BinOp) (x y : Int) : (bif (FloatKind.f32.format.read (fop op .f32 (cw x) (cw y))).order (FloatKind.f32.format.read (fop op .f32 (cw x) (cw y))) != some Ordering.eq then (some (AEnd.ret [I 2143289344], []) : Option (AEnd × LHp)) else bif fNaN .f32 (fop op .f32 (cw x) (cw y)) then none else some (AEnd.ret [I (IntKind.i64.wrap (Int.ofNat (fop op .f32 (cw x) (cw y))))], [])) = some (.ret [I (resW (fop op .f32 (cw x) (cw y)))], []) := by
  rw [order_self]
  unfold resW
  show (bif fNaN .f32 _ then _ else bif fNaN .f32 _ then _ else _) = _
  cases fNaN .f32 (fop op .f32 (cw x) (cw y)) <;> rfl
theorem add_run (x y : Int) : runC g158 Tryz.f60 5 [] [.d .str [65, 100, 100], I x, I y] [] ah = some (.ret [I (binW .add x y)], []) := by
  rw [add_eq]
  have h := bin_fin .add x y
  unfold cw at h
  unfold binW cw
  cases numOk 1 x with
  | false => rfl
  | true =>
    cases numOk 1 y with
    | false => rfl
    | true =>
      simp only [Bool.not_true, cond_false, Bool.and_true, cond_true]
      cases _ != some Ordering.eq with
      | false => exact h
      | true => exact h
theorem div_run (x y : Int) : runC g158 Tryz.f60 5 [] [.d .str [68, 105, 118], I x, I y] [] ah = some (.ret [I (binW .quo x y)], []) := by
  rw [div_eq]
  have h := bin_fin .quo x y
  unfold cw at h
  unfold binW cw
  cases numOk 1 x with
  | false => rfl
  | true =>
    cases numOk 1 y with
    | false => rfl
    | true =>
      simp only [Bool.not_true, cond_false, Bool.and_true, cond_true]
      cases (FloatKind.f32.format.read (canonF FloatKind.f32 (IntKind.u32.wrap x).toNat)).order (FloatKind.f32.format.read (canonF FloatKind.f32 (IntKind.u32.wrap x).toNat)) != some Ordering.eq with
      | false => exact h
      | true => exact h
theorem max_run (x y : Int) : runC g158 Tryz.f60 5 [] [.d .str [77, 97, 120], I x, I y] [] ah = some (.ret [I (maxW x y)], []) := by
  rw [max_eq, order_self, order_self]
  unfold maxW rdW cw
  cases numOk 1 x with
  | false => rfl
  | true =>
    cases numOk 1 y with
    | false => rfl
    | true =>
      simp only [Bool.not_true, cond_false, Bool.and_true, cond_true]
      cases (FloatKind.f32.format.read (canonF FloatKind.f32 (IntKind.u32.wrap x).toNat)).isNaN with
      | true => rfl
      | false =>
        cases (FloatKind.f32.format.read (canonF FloatKind.f32 (IntKind.u32.wrap y).toNat)).isNaN with
        | true => rfl
        | false =>
          simp only [Bool.false_or, cond_false]
          cases (FloatKind.f32.format.read (canonF FloatKind.f32 (IntKind.u32.wrap x).toNat)).order (FloatKind.f32.format.read (canonF FloatKind.f32 (IntKind.u32.wrap y).toNat)) == some Ordering.eq with
          | true => rfl
          | false =>
            cases (FloatKind.f32.format.read (canonF FloatKind.f32 (IntKind.u32.wrap x).toNat)).order (FloatKind.f32.format.read (canonF FloatKind.f32 (IntKind.u32.wrap y).toNat)) == some Ordering.gt <;> rfl
def twoF : List AV → LHp → Tq
  | [.d .str op, .d (.int .i64) x, .d (.int .i64) y], [] =>
    .br (decide (op = [65, 100, 100])) (.leaf (.ret [I (binW .add x y)]) []) (.br (decide (op = [77, 97, 120])) (.leaf (.ret [I (maxW x y)]) []) (.br (decide (op = [68, 105, 118])) (.leaf (.ret [I (binW .quo x y)]) []) .no))
  | _, _ => .no
theorem twoE_ok : FnE.OK e0.P e0.gam 60 (treeE twoF) := by
  have h1 : FnE.OK e0.P e0.gam 60 (execFnC g158 Tryz.f60 5 []) := y60_ok
  refine ⟨fun _ _ _ => Tq.eq _ _, fun args hs ae hs' h => ?_⟩
  have h' : (twoF args hs).run ah = some (ae, hs') := h
  clear h
  unfold twoF at h'
  split at h'
  · rename_i op x y
    simp only [Tq.run] at h'
    by_cases c1 : op = [65, 100, 100]
    · subst c1
      cases h'
      exact h1.okC (add_run x y)
    · rw [decide_eq_false c1] at h'
      by_cases c2 : op = [77, 97, 120]
      · subst c2
        cases h'
        exact h1.okC (max_run x y)
      · rw [decide_eq_false c2] at h'
        by_cases c3 : op = [68, 105, 118]
        · subst c3
          cases h'
          exact h1.okC (div_run x y)
        · rw [decide_eq_false c3] at h'
          cases h'
  · cases h'
end Go.Proofs.XGT
/- linear.two: sums and products of words. -/
namespace Go.Proofs.XGT
open Go.Vm Go
set_option maxRecDepth 100000
set_option maxHeartbeats 4000000
noncomputable def C_ltw : Code := codeOf Tryz.f73
noncomputable def cf_ltw : Cfg := ⟨17, 5, 0, [], true⟩
theorem ladd_eq (x y : Int) : runC g188 Tryz.f73 5 [] [.d .str [65, 100, 100], I x, I y] [] ah =
  bif !numOk 1 x then some (AEnd.ret [I 0], [])
  else 
    bif !numOk 1 y then some (AEnd.ret [I 0], [])
    else 
      bif (FloatKind.f32.format.read (canonF FloatKind.f32 (IntKind.u32.wrap x).toNat)).order (FloatKind.f32.format.read (canonF FloatKind.f32 (IntKind.u32.wrap x).toNat)) != some Ordering.eq then 
        bif (FloatKind.f32.format.read (fop BinOp.add FloatKind.f32 (canonF FloatKind.f32 (IntKind.u32.wrap x).toNat) (canonF FloatKind.f32 (IntKind.u32.wrap y).toNat))).order (FloatKind.f32.format.read (fop BinOp.add FloatKind.f32 (canonF FloatKind.f32 (IntKind.u32.wrap x).toNat) (canonF FloatKind.f32 (IntKind.u32.wrap y).toNat))) != some Ordering.eq then some (AEnd.ret [I 2143289344], [])
        else 
          bif fNaN FloatKind.f32 (fop BinOp.add FloatKind.f32 (canonF FloatKind.f32 (IntKind.u32.wrap x).toNat) (canonF FloatKind.f32 (IntKind.u32.wrap y).toNat)) then none
          else some (AEnd.ret [I (IntKind.i64.wrap (Int.ofNat (fop BinOp.add FloatKind.f32 (canonF FloatKind.f32 (IntKind.u32.wrap x).toNat) (canonF FloatKind.f32 (IntKind.u32.wrap y).toNat))))], [])
      else 
        bif (FloatKind.f32.format.read (fop BinOp.add FloatKind.f32 (canonF FloatKind.f32 (IntKind.u32.wrap x).toNat) (canonF FloatKind.f32 (IntKind.u32.wrap y).toNat))).order (FloatKind.f32.format.read (fop BinOp.add FloatKind.f32 (canonF FloatKind.f32 (IntKind.u32.wrap x).toNat) (canonF FloatKind.f32 (IntKind.u32.wrap y).toNat))) != some Ordering.eq then some (AEnd.ret [I 2143289344], [])
        else 
          bif fNaN FloatKind.f32 (fop BinOp.add FloatKind.f32 (canonF FloatKind.f32 (IntKind.u32.wrap x).toNat) (canonF FloatKind.f32 (IntKind.u32.wrap y).toNat)) then none
          else some (AEnd.ret [I (IntKind.i64.wrap (Int.ofNat (fop BinOp.add FloatKind.f32 (canonF FloatKind.f32 (IntKind.u32.wrap x).toNat) (canonF FloatKind.f32 (IntKind.u32.wrap y).toNat))))], []) := by kernel_rfl
theorem lmul_eq (x y : Int) : runC g188 Tryz.f73 5 [] [.d .str [77, 117, 108], I x, I y] [] ah =
  bif !numOk 1 x then some (AEnd.ret [I 0], [])
  else 
    bif !numOk 1 y then some (AEnd.ret [I 0], [])
    else 
      bif (FloatKind.f32.format.read (canonF FloatKind.f32 (IntKind.u32.wrap x).toNat)).order (FloatKind.f32.format.read (canonF FloatKind.f32 (IntKind.u32.wrap x).toNat)) != some Ordering.eq then 
        bif (FloatKind.f32.format.read (fop BinOp.mul FloatKind.f32 (canonF FloatKind.f32 (IntKind.u32.wrap x).toNat) (canonF FloatKind.f32 (IntKind.u32.wrap y).toNat))).order (FloatKind.f32.format.read (fop BinOp.mul FloatKind.f32 (canonF FloatKind.f32 (IntKind.u32.wrap x).toNat) (canonF FloatKind.f32 (IntKind.u32.wrap y).toNat))) != some Ordering.eq then some (AEnd.ret [I 2143289344], [])
        else 
          bif fNaN FloatKind.f32 (fop BinOp.mul FloatKind.f32 (canonF FloatKind.f32 (IntKind.u32.wrap x).toNat) (canonF FloatKind.f32 (IntKind.u32.wrap y).toNat)) then none
          else some (AEnd.ret [I (IntKind.i64.wrap (Int.ofNat (fop BinOp.mul FloatKind.f32 (canonF FloatKind.f32 (IntKind.u32.wrap x).toNat) (canonF FloatKind.f32 (IntKind.u32.wrap y).toNat))))], [])
      else 
        bif (FloatKind.f32.format.read (fop BinOp.mul FloatKind.f32 (canonF FloatKind.f32 (IntKind.u32.wrap x).toNat) (canonF FloatKind.f32 (IntKind.u32.wrap y).toNat))).order (FloatKind.f32.format.read (fop BinOp.mul FloatKind.f32 (canonF FloatKind.f32 (IntKind.u32.wrap x).toNat) (canonF FloatKind.f32 (IntKind.u32.wrap y).toNat))) != some Ordering.eq then some (AEnd.ret [I 2143289344], [])
        else 
          bif fNaN FloatKind.f32 (fop BinOp.mul FloatKind.f32 (canonF FloatKind.f32 (IntKind.u32.wrap x).toNat) (canonF FloatKind.f32 (IntKind.u32.wrap y).toNat)) then none
          else some (AEnd.ret [I (IntKind.i64.wrap (Int.ofNat (fop BinOp.mul FloatKind.f32 (canonF FloatKind.f32 (IntKind.u32.wrap x).toNat) (canonF FloatKind.f32 (IntKind.u32.wrap y).toNat))))], []) := by kernel_rfl
theorem ladd_run (x y : Int) : runC g188 Tryz.f73 5 [] [.d .str [65, 100, 100], I x, I y] [] ah = some (.ret [I (binW .add x y)], []) := by
  rw [ladd_eq]
  have h := bin_fin .add x y
  unfold cw at h
  unfold binW cw
  cases numOk 1 x with
  | false => rfl
  | true =>
    cases numOk 1 y with
    | false => rfl
    | true =>
      simp only [Bool.not_true, cond_false, Bool.and_true, cond_true]
      cases _ != some Ordering.eq with
      | false => exact h
      | true => exact h
theorem lmul_run (x y : Int) : runC g188 Tryz.f73 5 [] [.d .str [77, 117, 108], I x, I y] [] ah = some (.ret [I (binW .mul x y)], []) := by
  rw [lmul_eq]
  have h := bin_fin .mul x y
  unfold cw at h
  unfold binW cw
  cases numOk 1 x with
  | false => rfl
  | true =>
    cases numOk 1 y with
    | false => rfl
    | true =>
      simp only [Bool.not_true, cond_false, Bool.and_true, cond_true]
      cases _ != some Ordering.eq with
      | false => exact h
      | true => exact h
def ltwF : List AV → LHp → Option (AEnd × LHp)
  | [.d .str op, .d (.int .i64) x, .d (.int .i64) y], [] => bif op == [65, 100, 100] then some (.ret [I (binW .add x y)], []) else bif op == [77, 117, 108] then some (.ret [I (binW .mul x y)], []) else none
  | _, _ => none
theorem ltwE_ok : FnE.OK e0.P e0.gam 73 (fnE ltwF) := by
  have h1 : FnE.OK e0.P e0.gam 73 (execFnC g188 Tryz.f73 5 []) := y73_ok
  refine ⟨fun args hs k => ?_, fun args hs ae hs' h => ?_⟩
  · simp only [fnE]
    cases ltwF args hs <;> rfl
  · have h' : (ltwF args hs).bind (fun p => ah p.1 p.2) = some (ae, hs') := h
    clear h
    unfold ltwF at h'
    split at h'
    · rename_i op x y
      cases hb : op == [65, 100, 100] with
      | true =>
        rw [hb] at h'
        rw [eq_of_beq hb]
        exact h1.okC ((ladd_run x y).trans h')
      | false =>
        rw [hb] at h'
        cases hb2 : op == [77, 117, 108] with
        | true =>
          rw [hb2] at h'
          rw [eq_of_beq hb2]
          exact h1.okC ((lmul_run x y).trans h')
        | false => rw [hb2] at h'; cases h'
    · cases h'
end Go.Proofs.XGT
/- linear.matrix.block: its loops' steps. -/
namespace Go.Proofs.XGT
open Go.Vm Go
set_option maxRecDepth 100000
set_option maxHeartbeats 4000000
noncomputable def C_blk : Code := codeOf Tryz.f105
noncomputable def cf_blk : Cfg := ⟨68, 7, 1, [(2, [3, 4, 5, 6, 7, 10]), (6, [3, 4, 5, 6, 7, 10, 11, 12, 33, 34]), (10, [3, 4, 5, 6, 7, 10, 11, 12, 13, 14, 15, 33, 34])], true⟩
noncomputable def gBl : Env := g190.add 73 (fnE ltwF)
theorem gBl_good : gBl.Good := g190_good.add ltwE_ok
def mxA (r c : Int) (d : AV) : AV := .pr (I r) (.pr (I c) (.pr d (.d .unit ())))
def mxD (r c : Int) (d : List Int) : AV := .d (Y6) (r, c, d, ())
def hpB (xs : List Int) : LHp := [(0, .arr 2 i64T 0 false xs)]
theorem blk_eqH (hl : Hl) (M K C top left : Int) (a b xs : List Int) : runH gBl Tryz.f105 7 [(2, [3, 4, 5, 6, 7, 10]), (6, [3, 4, 5, 6, 7, 10, 11, 12, 33, 34]), (10, [3, 4, 5, 6, 7, 10, 11, 12, 13, 14, 15, 33, 34])] [2, 6, 10] hl [mxA M C (.os 0 0), mxD M K a, mxD K C b, I top, I left] (hpB xs) ah =
  hl (cL (cL (cR (cR C_blk)))) _ { fr := mkFr 7 [(3, I top), (4, I left), (5, AV.op 1 [] 0), (6, AV.op 2 [] 0), (7, AV.op 3 [] 0), (10, I top)], hp := [(0, AObj.arr 2 (i64T) 0 false xs), (1, AObj.box ((I M).pr ((I C).pr ((AV.os 0 0).pr (AV.d Ty.unit PUnit.unit))))), (2, AObj.box (AV.d ((i64T).pair ((i64T).pair ((i64T).slice.pair Ty.unit))) (M, K, a, PUnit.unit))), (3, AObj.box (AV.d ((i64T).pair ((i64T).pair ((i64T).slice.pair Ty.unit))) (K, C, b, PUnit.unit)))], nx := 5 } (blkK 0 (endC Tryz.prog 1 Tryz.f105.results.toList ah)) := by kernel_rfl
theorem blk_eq (M K C top left : Int) (a b xs : List Int) : runC gBl Tryz.f105 7 [(2, [3, 4, 5, 6, 7, 10]), (6, [3, 4, 5, 6, 7, 10, 11, 12, 33, 34]), (10, [3, 4, 5, 6, 7, 10, 11, 12, 13, 14, 15, 33, 34])] [mxA M C (.os 0 0), mxD M K a, mxD K C b, I top, I left] (hpB xs) ah =
  (hlp gBl cf_blk) (cL (cL (cR (cR C_blk)))) _ { fr := mkFr 7 [(3, I top), (4, I left), (5, AV.op 1 [] 0), (6, AV.op 2 [] 0), (7, AV.op 3 [] 0), (10, I top)], hp := [(0, AObj.arr 2 (i64T) 0 false xs), (1, AObj.box ((I M).pr ((I C).pr ((AV.os 0 0).pr (AV.d Ty.unit PUnit.unit))))), (2, AObj.box (AV.d ((i64T).pair ((i64T).pair ((i64T).slice.pair Ty.unit))) (M, K, a, PUnit.unit))), (3, AObj.box (AV.d ((i64T).pair ((i64T).pair ((i64T).slice.pair Ty.unit))) (K, C, b, PUnit.unit)))], nx := 5 } (blkK 0 (endC Tryz.prog 1 Tryz.f105.results.toList ah)) := runH_runC.trans (blk_eqH (hlp gBl cf_blk) M K C top left a b xs)
def stB (M K C top left : Int) (a b xs : List Int) (fr : List (Nat × AV)) : LSt := { fr := mkFr 7 ([(3, I top), (4, I left), (5, .op 1 [] 0), (6, .op 2 [] 0), (7, .op 3 [] 0)] ++ fr), hp := [(0, .arr 2 i64T 0 false xs), (1, .box (mxA M C (.os 0 0))), (2, .box (mxD M K a)), (3, .box (mxD K C b))], nx := 5 }
theorem blk_st0H (hl : Hl) (M K C top left i : Int) (a b xs : List Int) (n : Nat) {R : Type} (k : AEx → LSt → Option R) : lpH gBl cf_blk [2, 6, 10] hl (cL (cL (cR (cR C_blk)))) (n + 1) (stB M K C top left a b xs [(10, I i)]) k =
  bif decide (i < if M < IntKind.i64.wrap (top + 4) then M else IntKind.i64.wrap (top + 4)) then (win xs.length (IntKind.i64.wrap (i * C)) (Int.ofNat xs.length)).bind fun v1 =>
      (win v1.2 0 C).bind fun v2 =>
        bif (v1.1 + v1.2).ble xs.length then (if 0 ≤ IntKind.i64.wrap (i * K) ∧ IntKind.i64.wrap (i * K) ≤ Int.ofNat a.length ∧ Int.ofNat a.length ≤ Int.ofNat a.length then some (List.drop (IntKind.i64.wrap (i * K)).toNat (List.take (Int.ofNat a.length).toNat a)) else none).bind fun v4 =>
            (if (0 : Int) ≤ 0 ∧ 0 ≤ K ∧ K ≤ Int.ofNat v4.length then some (List.drop 0 (List.take K.toNat v4)) else none).bind fun v5 =>
              hl (cL (cL (cR (cR (cL (cL (cR (cL (cL (cR (cR C_blk))))))))))) _ { fr := mkFr 7 [(3, I top), (4, I left), (5, AV.op 1 [] 0), (6, AV.op 2 [] 0), (7, AV.op 3 [] 0), (10, I i), (11, AV.ow 0 0 (v1.1 + v2.1) v2.2), (12, AV.d (i64T).slice v5), (33, I K), (34, I 0)], hp := [(0, AObj.arr 2 (i64T) 0 false xs), (1, AObj.box ((I M).pr ((I C).pr ((AV.os 0 0).pr (AV.d Ty.unit PUnit.unit))))), (2, AObj.box (AV.d ((i64T).pair ((i64T).pair ((i64T).slice.pair Ty.unit))) (M, K, a, PUnit.unit))), (3, AObj.box (AV.d ((i64T).pair ((i64T).pair ((i64T).slice.pair Ty.unit))) (K, C, b, PUnit.unit)))], nx := 5 } (blkK 2 (blkK 1 (seqH gBl cf_blk [2, 6, 10] hl (cR (cR (cL (cL (cR (cR C_blk)))))) (nxtH gBl cf_blk [2, 6, 10] hl (cL (cL (cR (cR C_blk)))) n k))))
        else none
  else k (AEx.exit 0) { fr := mkFr 7 [(3, I top), (4, I left), (5, AV.op 1 [] 0), (6, AV.op 2 [] 0), (7, AV.op 3 [] 0), (10, I i), (17, I i), (18, I top), (19, I (IntKind.i64.wrap (top + 4))), (20, AV.op 1 [0] 0), (21, I M), (22, I (if M < IntKind.i64.wrap (top + 4) then M else IntKind.i64.wrap (top + 4))), (23, B false)], hp := [(0, AObj.arr 2 (i64T) 0 false xs), (1, AObj.box ((I M).pr ((I C).pr ((AV.os 0 0).pr (AV.d Ty.unit PUnit.unit))))), (2, AObj.box (AV.d ((i64T).pair ((i64T).pair ((i64T).slice.pair Ty.unit))) (M, K, a, PUnit.unit))), (3, AObj.box (AV.d ((i64T).pair ((i64T).pair ((i64T).slice.pair Ty.unit))) (K, C, b, PUnit.unit)))], nx := 5 } := by kernel_rfl
theorem blk_st0 (M K C top left i : Int) (a b xs : List Int) (n : Nat) {R : Type} (k : AEx → LSt → Option R) : lp gBl cf_blk (cL (cL (cR (cR C_blk)))) (n + 1) (stB M K C top left a b xs [(10, I i)]) k =
  bif decide (i < if M < IntKind.i64.wrap (top + 4) then M else IntKind.i64.wrap (top + 4)) then (win xs.length (IntKind.i64.wrap (i * C)) (Int.ofNat xs.length)).bind fun v1 =>
      (win v1.2 0 C).bind fun v2 =>
        bif (v1.1 + v1.2).ble xs.length then (if 0 ≤ IntKind.i64.wrap (i * K) ∧ IntKind.i64.wrap (i * K) ≤ Int.ofNat a.length ∧ Int.ofNat a.length ≤ Int.ofNat a.length then some (List.drop (IntKind.i64.wrap (i * K)).toNat (List.take (Int.ofNat a.length).toNat a)) else none).bind fun v4 =>
            (if (0 : Int) ≤ 0 ∧ 0 ≤ K ∧ K ≤ Int.ofNat v4.length then some (List.drop 0 (List.take K.toNat v4)) else none).bind fun v5 =>
              (hlp gBl cf_blk) (cL (cL (cR (cR (cL (cL (cR (cL (cL (cR (cR C_blk))))))))))) _ { fr := mkFr 7 [(3, I top), (4, I left), (5, AV.op 1 [] 0), (6, AV.op 2 [] 0), (7, AV.op 3 [] 0), (10, I i), (11, AV.ow 0 0 (v1.1 + v2.1) v2.2), (12, AV.d (i64T).slice v5), (33, I K), (34, I 0)], hp := [(0, AObj.arr 2 (i64T) 0 false xs), (1, AObj.box ((I M).pr ((I C).pr ((AV.os 0 0).pr (AV.d Ty.unit PUnit.unit))))), (2, AObj.box (AV.d ((i64T).pair ((i64T).pair ((i64T).slice.pair Ty.unit))) (M, K, a, PUnit.unit))), (3, AObj.box (AV.d ((i64T).pair ((i64T).pair ((i64T).slice.pair Ty.unit))) (K, C, b, PUnit.unit)))], nx := 5 } (blkK 2 (blkK 1 (seqH gBl cf_blk [2, 6, 10] (hlp gBl cf_blk) (cR (cR (cL (cL (cR (cR C_blk)))))) (nxtH gBl cf_blk [2, 6, 10] (hlp gBl cf_blk) (cL (cL (cR (cR C_blk)))) n k))))
        else none
  else k (AEx.exit 0) { fr := mkFr 7 [(3, I top), (4, I left), (5, AV.op 1 [] 0), (6, AV.op 2 [] 0), (7, AV.op 3 [] 0), (10, I i), (17, I i), (18, I top), (19, I (IntKind.i64.wrap (top + 4))), (20, AV.op 1 [0] 0), (21, I M), (22, I (if M < IntKind.i64.wrap (top + 4) then M else IntKind.i64.wrap (top + 4))), (23, B false)], hp := [(0, AObj.arr 2 (i64T) 0 false xs), (1, AObj.box ((I M).pr ((I C).pr ((AV.os 0 0).pr (AV.d Ty.unit PUnit.unit))))), (2, AObj.box (AV.d ((i64T).pair ((i64T).pair ((i64T).slice.pair Ty.unit))) (M, K, a, PUnit.unit))), (3, AObj.box (AV.d ((i64T).pair ((i64T).pair ((i64T).slice.pair Ty.unit))) (K, C, b, PUnit.unit)))], nx := 5 } := by
  have h := blk_st0H (hlp gBl cf_blk) M K C top left i a b xs n k
  simp only [lpH_lp] at h
  exact h
theorem blk_st1H (hl : Hl) (M K C top left i kk d : Int) (p q : Nat) (a b xs x : List Int) (n : Nat) {R : Type} (k : AEx → LSt → Option R) : lpH gBl cf_blk [2, 6, 10] hl (cL (cL (cR (cR (cL (cL (cR (cL (cL (cR (cR C_blk))))))))))) (n + 1) (stB M K C top left a b xs [(10, I i), (11, .ow 0 0 p q), (12, .d ((.slice (.int .i64))) x), (33, I d), (34, I kk)]) k =
  bif decide (kk < d) then (if 0 ≤ IntKind.i64.wrap (kk * C) ∧ IntKind.i64.wrap (kk * C) ≤ Int.ofNat b.length ∧ Int.ofNat b.length ≤ Int.ofNat b.length then some (List.drop (IntKind.i64.wrap (kk * C)).toNat (List.take (Int.ofNat b.length).toNat b)) else none).bind fun v1 =>
      (if (0 : Int) ≤ 0 ∧ 0 ≤ C ∧ C ≤ Int.ofNat v1.length then some (List.drop 0 (List.take C.toNat v1)) else none).bind fun v2 =>
        hl (cL (cL (cR (cR (cR (cL (cL (cR (cR (cL (cL (cR (cR (cL (cL (cR (cL (cL (cR (cR C_blk)))))))))))))))))))) _ { fr := mkFr 7 [(3, I top), (4, I left), (5, AV.op 1 [] 0), (6, AV.op 2 [] 0), (7, AV.op 3 [] 0), (10, I i), (11, AV.ow 0 0 p q), (12, AV.d (i64T).slice x), (13, I kk), (14, AV.d (i64T).slice v2), (15, I left), (33, I d), (34, I kk)], hp := [(0, AObj.arr 2 (i64T) 0 false xs), (1, AObj.box ((I M).pr ((I C).pr ((AV.os 0 0).pr (AV.d Ty.unit PUnit.unit))))), (2, AObj.box (AV.d ((i64T).pair ((i64T).pair ((i64T).slice.pair Ty.unit))) (M, K, a, PUnit.unit))), (3, AObj.box (AV.d ((i64T).pair ((i64T).pair ((i64T).slice.pair Ty.unit))) (K, C, b, PUnit.unit)))], nx := 5 } (blkK 4 (blkK 3 (seqH gBl cf_blk [2, 6, 10] hl (cR (cR (cR (cL (cL (cR (cR (cL (cL (cR (cL (cL (cR (cR C_blk)))))))))))))) (nxtH gBl cf_blk [2, 6, 10] hl (cL (cL (cR (cR (cL (cL (cR (cL (cL (cR (cR C_blk))))))))))) n k))))
  else k (AEx.exit 2) { fr := mkFr 7 [(3, I top), (4, I left), (5, AV.op 1 [] 0), (6, AV.op 2 [] 0), (7, AV.op 3 [] 0), (10, I i), (11, AV.ow 0 0 p q), (12, AV.d (i64T).slice x), (33, I d), (34, I kk), (35, B false)], hp := [(0, AObj.arr 2 (i64T) 0 false xs), (1, AObj.box ((I M).pr ((I C).pr ((AV.os 0 0).pr (AV.d Ty.unit PUnit.unit))))), (2, AObj.box (AV.d ((i64T).pair ((i64T).pair ((i64T).slice.pair Ty.unit))) (M, K, a, PUnit.unit))), (3, AObj.box (AV.d ((i64T).pair ((i64T).pair ((i64T).slice.pair Ty.unit))) (K, C, b, PUnit.unit)))], nx := 5 } := by kernel_rfl
theorem blk_st1 (M K C top left i kk d : Int) (p q : Nat) (a b xs x : List Int) (n : Nat) {R : Type} (k : AEx → LSt → Option R) : lp gBl cf_blk (cL (cL (cR (cR (cL (cL (cR (cL (cL (cR (cR C_blk))))))))))) (n + 1) (stB M K C top left a b xs [(10, I i), (11, .ow 0 0 p q), (12, .d ((.slice (.int .i64))) x), (33, I d), (34, I kk)]) k =
  bif decide (kk < d) then (if 0 ≤ IntKind.i64.wrap (kk * C) ∧ IntKind.i64.wrap (kk * C) ≤ Int.ofNat b.length ∧ Int.ofNat b.length ≤ Int.ofNat b.length then some (List.drop (IntKind.i64.wrap (kk * C)).toNat (List.take (Int.ofNat b.length).toNat b)) else none).bind fun v1 =>
      (if (0 : Int) ≤ 0 ∧ 0 ≤ C ∧ C ≤ Int.ofNat v1.length then some (List.drop 0 (List.take C.toNat v1)) else none).bind fun v2 =>
        (hlp gBl cf_blk) (cL (cL (cR (cR (cR (cL (cL (cR (cR (cL (cL (cR (cR (cL (cL (cR (cL (cL (cR (cR C_blk)))))))))))))))))))) _ { fr := mkFr 7 [(3, I top), (4, I left), (5, AV.op 1 [] 0), (6, AV.op 2 [] 0), (7, AV.op 3 [] 0), (10, I i), (11, AV.ow 0 0 p q), (12, AV.d (i64T).slice x), (13, I kk), (14, AV.d (i64T).slice v2), (15, I left), (33, I d), (34, I kk)], hp := [(0, AObj.arr 2 (i64T) 0 false xs), (1, AObj.box ((I M).pr ((I C).pr ((AV.os 0 0).pr (AV.d Ty.unit PUnit.unit))))), (2, AObj.box (AV.d ((i64T).pair ((i64T).pair ((i64T).slice.pair Ty.unit))) (M, K, a, PUnit.unit))), (3, AObj.box (AV.d ((i64T).pair ((i64T).pair ((i64T).slice.pair Ty.unit))) (K, C, b, PUnit.unit)))], nx := 5 } (blkK 4 (blkK 3 (seqH gBl cf_blk [2, 6, 10] (hlp gBl cf_blk) (cR (cR (cR (cL (cL (cR (cR (cL (cL (cR (cL (cL (cR (cR C_blk)))))))))))))) (nxtH gBl cf_blk [2, 6, 10] (hlp gBl cf_blk) (cL (cL (cR (cR (cL (cL (cR (cL (cL (cR (cR C_blk))))))))))) n k))))
  else k (AEx.exit 2) { fr := mkFr 7 [(3, I top), (4, I left), (5, AV.op 1 [] 0), (6, AV.op 2 [] 0), (7, AV.op 3 [] 0), (10, I i), (11, AV.ow 0 0 p q), (12, AV.d (i64T).slice x), (33, I d), (34, I kk), (35, B false)], hp := [(0, AObj.arr 2 (i64T) 0 false xs), (1, AObj.box ((I M).pr ((I C).pr ((AV.os 0 0).pr (AV.d Ty.unit PUnit.unit))))), (2, AObj.box (AV.d ((i64T).pair ((i64T).pair ((i64T).slice.pair Ty.unit))) (M, K, a, PUnit.unit))), (3, AObj.box (AV.d ((i64T).pair ((i64T).pair ((i64T).slice.pair Ty.unit))) (K, C, b, PUnit.unit)))], nx := 5 } := by
  have h := blk_st1H (hlp gBl cf_blk) M K C top left i kk d p q a b xs x n k
  simp only [lpH_lp] at h
  exact h
theorem blk_st2H (hl : Hl) (M K C top left i kk j d c : Int) (p q : Nat) (a b xs x y : List Int) (n : Nat) {R : Type} (k : AEx → LSt → Option R) : lpH gBl cf_blk [2, 6, 10] hl (cL (cL (cR (cR (cR (cL (cL (cR (cR (cL (cL (cR (cR (cL (cL (cR (cL (cL (cR (cR C_blk)))))))))))))))))))) (n + 1) (stB M K C top left a b xs [(10, I i), (11, .ow 0 0 p q), (12, .d ((.slice (.int .i64))) x), (13, I kk), (14, .d ((.slice (.int .i64))) y), (15, I j), (33, I d), (34, I c)]) k =
  bif decide (j < if C < IntKind.i64.wrap (left + 4) then C else IntKind.i64.wrap (left + 4)) then 
    bif true && (true && (decide (0 ≤ j) && decide (j < Int.ofNat q))) then (xs[p + j.toNat]?).bind fun v2 =>
        (xs[p + j.toNat]?).bind fun v3 =>
          (idx x kk).bind fun v4 =>
            (idx y j).bind fun v5 =>
              bif true && (true && (decide (0 ≤ j) && decide (j < Int.ofNat q))) then (xs[p + j.toNat]?).bind fun v7 =>
                  (setN xs (p + j.toNat) (binW BinOp.add v3 (binW BinOp.mul v4 v5))).bind fun v8 =>
                    lpH gBl cf_blk [2, 6, 10] hl (cL (cL (cR (cR (cR (cL (cL (cR (cR (cL (cL (cR (cR (cL (cL (cR (cL (cL (cR (cR C_blk)))))))))))))))))))) n { fr := mkFr 7 [(3, I top), (4, I left), (5, AV.op 1 [] 0), (6, AV.op 2 [] 0), (7, AV.op 3 [] 0), (10, I i), (11, AV.ow 0 0 p q), (12, AV.d (i64T).slice x), (13, I kk), (14, AV.d (i64T).slice y), (15, I (IntKind.i64.wrap (j + 1))), (33, I d), (34, I c)], hp := [(0, AObj.arr 2 (i64T) 0 false v8), (1, AObj.box ((I M).pr ((I C).pr ((AV.os 0 0).pr (AV.d Ty.unit PUnit.unit))))), (2, AObj.box (AV.d ((i64T).pair ((i64T).pair ((i64T).slice.pair Ty.unit))) (M, K, a, PUnit.unit))), (3, AObj.box (AV.d ((i64T).pair ((i64T).pair ((i64T).slice.pair Ty.unit))) (K, C, b, PUnit.unit)))], nx := 5 } k
              else none
    else none
  else k (AEx.exit 4) { fr := mkFr 7 [(3, I top), (4, I left), (5, AV.op 1 [] 0), (6, AV.op 2 [] 0), (7, AV.op 3 [] 0), (10, I i), (11, AV.ow 0 0 p q), (12, AV.d (i64T).slice x), (13, I kk), (14, AV.d (i64T).slice y), (15, I j), (33, I d), (34, I c), (41, I j), (42, I left), (43, I (IntKind.i64.wrap (left + 4))), (44, AV.op 1 [1] 1), (45, I C), (46, I (if C < IntKind.i64.wrap (left + 4) then C else IntKind.i64.wrap (left + 4))), (47, B false)], hp := [(0, AObj.arr 2 (i64T) 0 false xs), (1, AObj.box ((I M).pr ((I C).pr ((AV.os 0 0).pr (AV.d Ty.unit PUnit.unit))))), (2, AObj.box (AV.d ((i64T).pair ((i64T).pair ((i64T).slice.pair Ty.unit))) (M, K, a, PUnit.unit))), (3, AObj.box (AV.d ((i64T).pair ((i64T).pair ((i64T).slice.pair Ty.unit))) (K, C, b, PUnit.unit)))], nx := 5 } := by kernel_rfl
theorem blk_st2 (M K C top left i kk j d c : Int) (p q : Nat) (a b xs x y : List Int) (n : Nat) {R : Type} (k : AEx → LSt → Option R) : lp gBl cf_blk (cL (cL (cR (cR (cR (cL (cL (cR (cR (cL (cL (cR (cR (cL (cL (cR (cL (cL (cR (cR C_blk)))))))))))))))))))) (n + 1) (stB M K C top left a b xs [(10, I i), (11, .ow 0 0 p q), (12, .d ((.slice (.int .i64))) x), (13, I kk), (14, .d ((.slice (.int .i64))) y), (15, I j), (33, I d), (34, I c)]) k =
  bif decide (j < if C < IntKind.i64.wrap (left + 4) then C else IntKind.i64.wrap (left + 4)) then 
    bif true && (true && (decide (0 ≤ j) && decide (j < Int.ofNat q))) then (xs[p + j.toNat]?).bind fun v2 =>
        (xs[p + j.toNat]?).bind fun v3 =>
          (idx x kk).bind fun v4 =>
            (idx y j).bind fun v5 =>
              bif true && (true && (decide (0 ≤ j) && decide (j < Int.ofNat q))) then (xs[p + j.toNat]?).bind fun v7 =>
                  (setN xs (p + j.toNat) (binW BinOp.add v3 (binW BinOp.mul v4 v5))).bind fun v8 =>
                    lp gBl cf_blk (cL (cL (cR (cR (cR (cL (cL (cR (cR (cL (cL (cR (cR (cL (cL (cR (cL (cL (cR (cR C_blk)))))))))))))))))))) n { fr := mkFr 7 [(3, I top), (4, I left), (5, AV.op 1 [] 0), (6, AV.op 2 [] 0), (7, AV.op 3 [] 0), (10, I i), (11, AV.ow 0 0 p q), (12, AV.d (i64T).slice x), (13, I kk), (14, AV.d (i64T).slice y), (15, I (IntKind.i64.wrap (j + 1))), (33, I d), (34, I c)], hp := [(0, AObj.arr 2 (i64T) 0 false v8), (1, AObj.box ((I M).pr ((I C).pr ((AV.os 0 0).pr (AV.d Ty.unit PUnit.unit))))), (2, AObj.box (AV.d ((i64T).pair ((i64T).pair ((i64T).slice.pair Ty.unit))) (M, K, a, PUnit.unit))), (3, AObj.box (AV.d ((i64T).pair ((i64T).pair ((i64T).slice.pair Ty.unit))) (K, C, b, PUnit.unit)))], nx := 5 } k
              else none
    else none
  else k (AEx.exit 4) { fr := mkFr 7 [(3, I top), (4, I left), (5, AV.op 1 [] 0), (6, AV.op 2 [] 0), (7, AV.op 3 [] 0), (10, I i), (11, AV.ow 0 0 p q), (12, AV.d (i64T).slice x), (13, I kk), (14, AV.d (i64T).slice y), (15, I j), (33, I d), (34, I c), (41, I j), (42, I left), (43, I (IntKind.i64.wrap (left + 4))), (44, AV.op 1 [1] 1), (45, I C), (46, I (if C < IntKind.i64.wrap (left + 4) then C else IntKind.i64.wrap (left + 4))), (47, B false)], hp := [(0, AObj.arr 2 (i64T) 0 false xs), (1, AObj.box ((I M).pr ((I C).pr ((AV.os 0 0).pr (AV.d Ty.unit PUnit.unit))))), (2, AObj.box (AV.d ((i64T).pair ((i64T).pair ((i64T).slice.pair Ty.unit))) (M, K, a, PUnit.unit))), (3, AObj.box (AV.d ((i64T).pair ((i64T).pair ((i64T).slice.pair Ty.unit))) (K, C, b, PUnit.unit)))], nx := 5 } := by
  have h := blk_st2H (hlp gBl cf_blk) M K C top left i kk j d c p q a b xs x y n k
  simp only [lpH_lp] at h
  exact h
noncomputable def BK : AEx → LSt → Option (AEnd × LHp) := (blkK 0 (endC Tryz.prog 1 Tryz.f105.results.toList ah))
def fr1 (i kk d : Int) (p q : Nat) (x : List Int) : List (Nat × AV) := [(10, I i), (11, .ow 0 0 p q), (12, .d ((.slice (.int .i64))) x), (33, I d), (34, I kk)]
def fr1e (i kk d : Int) (p q : Nat) (x : List Int) : List (Nat × AV) := [(10, I i), (11, .ow 0 0 p q), (12, .d ((.slice (.int .i64))) x), (33, I d), (34, I kk), (35, B false)]
def fr2 (i kk j d : Int) (p q : Nat) (x y : List Int) : List (Nat × AV) := [(10, I i), (11, .ow 0 0 p q), (12, .d ((.slice (.int .i64))) x), (13, I kk), (14, .d ((.slice (.int .i64))) y), (15, I j), (33, I d), (34, I kk)]
def minW (a left : Int) : Int := if a < IntKind.i64.wrap (left + 4) then a else IntKind.i64.wrap (left + 4)
def fr2e (C left i kk j d : Int) (p q : Nat) (x y : List Int) : List (Nat × AV) := [(10, I i), (11, .ow 0 0 p q), (12, .d ((.slice (.int .i64))) x), (13, I kk), (14, .d ((.slice (.int .i64))) y), (15, I j), (33, I d), (34, I kk), (41, I j), (42, I left), (43, I (IntKind.i64.wrap (left + 4))), (44, AV.op 1 [1] 1), (45, I C), (46, I (minW C left)), (47, B false)]
def fr0e (M top i : Int) : List (Nat × AV) := [(10, I i), (17, I i), (18, I top), (19, I (IntKind.i64.wrap (top + 4))), (20, AV.op 1 [0] 0), (21, I M), (22, I (minW M top)), (23, B false)]
theorem bk2 (M K C top left : Int) (a b xs : List Int) (i kk j d : Int) (p q : Nat) (x y : List Int) (n : Nat) {R : Type} (k : AEx → LSt → Option R) : (blkK 4 (blkK 3 (seqH gBl cf_blk [2, 6, 10] (hlp gBl cf_blk) (cR (cR (cR (cL (cL (cR (cR (cL (cL (cR (cL (cL (cR (cR C_blk)))))))))))))) (nxtH gBl cf_blk [2, 6, 10] (hlp gBl cf_blk) (cL (cL (cR (cR (cL (cL (cR (cL (cL (cR (cR C_blk))))))))))) n k)))) (.exit 4) (stB M K C top left a b xs (fr2e C left i kk j d p q x y)) = lp gBl cf_blk (cL (cL (cR (cR (cL (cL (cR (cL (cL (cR (cR C_blk))))))))))) n (stB M K C top left a b xs (fr1 i (IntKind.i64.wrap (kk + 1)) d p q x)) k :=
  Eq.trans (b := lpH gBl cf_blk [2, 6, 10] (hlp gBl cf_blk) (cL (cL (cR (cR (cL (cL (cR (cL (cL (cR (cR C_blk))))))))))) n (stB M K C top left a b xs (fr1 i (IntKind.i64.wrap (kk + 1)) d p q x)) k) (by kernel_rfl) lpH_lp
theorem bk1 (M K C top left : Int) (a b xs : List Int) (i kk d : Int) (p q : Nat) (x : List Int) (n : Nat) {R : Type} (k : AEx → LSt → Option R) : (blkK 2 (blkK 1 (seqH gBl cf_blk [2, 6, 10] (hlp gBl cf_blk) (cR (cR (cL (cL (cR (cR C_blk)))))) (nxtH gBl cf_blk [2, 6, 10] (hlp gBl cf_blk) (cL (cL (cR (cR C_blk)))) n k)))) (.exit 2) (stB M K C top left a b xs (fr1e i kk d p q x)) = lp gBl cf_blk (cL (cL (cR (cR C_blk)))) n (stB M K C top left a b xs [(10, I (IntKind.i64.wrap (i + 1)))]) k :=
  Eq.trans (b := lpH gBl cf_blk [2, 6, 10] (hlp gBl cf_blk) (cL (cL (cR (cR C_blk)))) n (stB M K C top left a b xs [(10, I (IntKind.i64.wrap (i + 1)))]) k) (by kernel_rfl) lpH_lp
theorem BK_exit (M K C top left : Int) (a b xs : List Int) (i : Int) : BK (.exit 0) (stB M K C top left a b xs (fr0e M top i)) = some (.ret [], hpB xs) := by kernel_rfl
end Go.Proofs.XGT
/- linear.matrix.block: what it makes. -/
namespace Go.Proofs.XGT
open Go.Vm Go
set_option maxRecDepth 100000
set_option maxHeartbeats 1000000
def tab (n : Nat) (f : Nat → Int) : List Int := (List.range n).map f
theorem tab_get {n i : Nat} {f : Nat → Int} (h : i < n) : (tab n f)[i]? = some (f i) := by
  unfold tab
  rw [List.getElem?_map, List.getElem?_range h]
  rfl
theorem tab_length (n : Nat) (f : Nat → Int) : (tab n f).length = n := by simp [tab]
theorem tab_congr {n : Nat} {f g : Nat → Int} (h : ∀ p, p < n → f p = g p) : tab n f = tab n g := by
  unfold tab
  exact List.map_congr_left fun p hp => h p (List.mem_range.mp hp)
theorem tab_set {n i : Nat} {f : Nat → Int} {v : Int} (h : i < n) : setN (tab n f) i v = some (tab n fun p => if p = i then v else f p) := by
  have e : (tab n f).set i v = tab n fun p => if p = i then v else f p := by
    apply List.ext_getElem?
    intro q
    by_cases hq : q < n
    · rw [tab_get hq, List.getElem?_set, tab_get hq, tab_length]
      by_cases hqi : i = q
      · rw [if_pos hqi, if_pos h, if_pos hqi.symm]
      · rw [if_neg hqi, if_neg (Ne.symm hqi)]
    · rw [List.getElem?_eq_none (by rw [List.length_set, tab_length]; omega), List.getElem?_eq_none (by rw [tab_length]; omega)]
  unfold setN
  rw [tab_length, show Nat.blt i n = true from Nat.ble_eq_true_of_le h, cond_true, e]
def cellP (z : Int) (K C : Nat) (a b : List Int) (r c : Nat) : Nat → Int
  | 0 => z
  | n + 1 => binW .add (cellP z K C a b r c n) (binW .mul (a.getD (r * K + n) 0) (b.getD (n * C + c) 0))
def mT (M K C : Nat) (a b : List Int) (g : Nat → Int) (cnt : Nat → Nat) : List Int := tab (M * C) fun p => cellP (g p) K C a b (p / C) (p % C) (cnt p)
theorem mT_congr {M K C : Nat} {a b : List Int} {z : Nat → Int} {f g : Nat → Nat} (h : ∀ p, p < M * C → f p = g p) : mT M K C a b z f = mT M K C a b z g := tab_congr fun p hp => by rw [h p hp]
theorem get_row {a : List Int} {K i m : Nat} (hm : m < K) (ha : i * K + K ≤ a.length) : idx ((a.drop (i * K)).take K) (m : Int) = some (a.getD (i * K + m) 0) := by
  unfold idx
  rw [if_pos (by omega), Int.toNat_natCast, List.getElem?_take_of_lt hm, List.getElem?_drop, List.getElem?_eq_getElem (by omega), List.getD_eq_getElem?_getD, List.getElem?_eq_getElem (by omega)]
  rfl
theorem row_le {M C i : Nat} (h : i < M) : i * C + C ≤ M * C := by
  have := Nat.mul_le_mul_right C (show i + 1 ≤ M by omega)
  rw [Nat.add_mul, Nat.one_mul] at this
  exact this
theorem place_iff {C i j p : Nat} (hj : j < C) : p = i * C + j ↔ p / C = i ∧ p % C = j := by
  constructor
  · intro h
    subst h
    constructor
    · rw [Nat.mul_comm, Nat.mul_add_div (by omega), Nat.div_eq_of_lt hj, Nat.add_zero]
    · rw [Nat.mul_comm, Nat.mul_add_mod, Nat.mod_eq_of_lt hj]
  · intro h
    have := Nat.div_add_mod p C
    rw [h.1, h.2, Nat.mul_comm] at this
    exact this.symm
theorem minW_nat (a l : Nat) (h : l ≤ 65536) : minW (a : Int) (l : Int) = ((min a (l + 4) : Nat) : Int) := by
  unfold minW
  rw [wrap64 (by omega) (by omega), Nat.min_def]
  split <;> split <;> omega
section
variable {M K C : Nat} {a b : List Int} {g : Nat → Int}
theorem l2_one {top left i kk j : Nat} {cnt : Nat → Nat} (hM : M * C ≤ 65536) (ha : a.length = M * K) (hb : b.length = K * C) (hi : i < M) (hk : kk < K) (hj : j < C) (hj2 : j < left + 4) (hl : left ≤ 65536) (hc : cnt (i * C + j) = kk) (n : Nat) {R : Type} (k : AEx → LSt → Option R) :
    lp gBl cf_blk (cL (cL (cR (cR (cR (cL (cL (cR (cR (cL (cL (cR (cR (cL (cL (cR (cL (cL (cR (cR C_blk)))))))))))))))))))) (n + 1) (stB M K C top left a b (mT M K C a b g cnt) (fr2 i kk j K (i * C) C ((a.drop (i * K)).take K) ((b.drop (kk * C)).take C))) k =
    lp gBl cf_blk (cL (cL (cR (cR (cR (cL (cL (cR (cR (cL (cL (cR (cR (cL (cL (cR (cL (cL (cR (cR C_blk)))))))))))))))))))) n (stB M K C top left a b (mT M K C a b g fun p => if p = i * C + j then kk + 1 else cnt p) (fr2 i kk ((j + 1 : Nat) : Int) K (i * C) C ((a.drop (i * K)).take K) ((b.drop (kk * C)).take C))) k := by
  have hC : 1 ≤ C := by omega
  have b1 := row_le (C := C) hi
  have b2 := row_le (C := K) hi
  have b3 := row_le (C := C) hk
  have hCM : C ≤ M * C := Nat.le_mul_of_pos_left _ (by omega)
  have e0 : IntKind.i64.wrap ((j : Int) + 1) = ((j + 1 : Nat) : Int) := by rw [wrap64 (by omega) (by omega)]; omega
  have hg : (mT M K C a b g cnt)[i * C + j]? = some (cellP (g (i * C + j)) K C a b i j kk) := by
    unfold mT
    rw [tab_get (by omega), ((place_iff hj).mp rfl).1, ((place_iff hj).mp rfl).2, hc]
  have hs : setN (mT M K C a b g cnt) (i * C + j) (binW .add (cellP (g (i * C + j)) K C a b i j kk) (binW .mul (a.getD (i * K + kk) 0) (b.getD (kk * C + j) 0))) = some (mT M K C a b g fun p => if p = i * C + j then kk + 1 else cnt p) := by
    unfold mT
    rw [tab_set (by omega)]
    congr 1
    apply tab_congr
    intro p _
    show _ = cellP (g p) K C a b (p / C) (p % C) (if p = i * C + j then kk + 1 else cnt p)
    by_cases hp : p = i * C + j
    · rw [if_pos hp, if_pos hp, ((place_iff hj).mp hp).1, ((place_iff hj).mp hp).2, hp]
      rfl
    · rw [if_neg hp, if_neg hp]
  have hmin := minW_nat C left hl
  unfold minW at hmin
  refine (blk_st2 M K C top left i kk j K kk (i * C) C a b _ _ _ n k).trans ?_
  rw [hmin, decide_eq_true (show (j : Int) < ((min C (left + 4) : Nat) : Int) by rw [Nat.min_def]; split <;> omega), decide_eq_true (show 0 ≤ (j : Int) by omega), decide_eq_true (show (j : Int) < Int.ofNat C by simp only [Int.ofNat_eq_natCast]; omega)]
  simp only [cond_true, Bool.and_self, Int.toNat_natCast, hg, Option.bind_some, get_row hk (show i * K + K ≤ a.length by omega), get_row hj (show kk * C + C ≤ b.length by omega), hs, e0]
  rfl
theorem l2_end {top left i kk : Nat} {xs x y : List Int} {p q : Nat} (hl : left ≤ 65536) (hj2 : left ≤ C) (n : Nat) {R : Type} (k : AEx → LSt → Option R) :
    lp gBl cf_blk (cL (cL (cR (cR (cR (cL (cL (cR (cR (cL (cL (cR (cR (cL (cL (cR (cL (cL (cR (cR C_blk)))))))))))))))))))) (n + 1) (stB M K C top left a b xs (fr2 i kk (min C (left + 4) : Nat) K p q x y)) k = k (.exit 4) (stB M K C top left a b xs (fr2e C left i kk (min C (left + 4) : Nat) K p q x y)) := by
  have hmin := minW_nat C left hl
  unfold minW at hmin
  refine (blk_st2 M K C top left i kk _ K kk p q a b _ _ _ n k).trans ?_
  rw [hmin, decide_eq_false (show ¬ ((min C (left + 4) : Nat) : Int) < ((min C (left + 4) : Nat) : Int) by omega), cond_false]
  unfold fr2e minW
  rw [hmin]
  rfl
theorem l2_all {top left i kk : Nat} (hM : M * C ≤ 65536) (ha : a.length = M * K) (hb : b.length = K * C) (hi : i < M) (hk : kk < K) (hl : left ≤ C) {R : Type} (k : AEx → LSt → Option R) :
    ∀ (r j n : Nat) (cnt : Nat → Nat), j + r = min C (left + 4) → r < n → (∀ c, j ≤ c → c < min C (left + 4) → cnt (i * C + c) = kk) →
    lp gBl cf_blk (cL (cL (cR (cR (cR (cL (cL (cR (cR (cL (cL (cR (cR (cL (cL (cR (cL (cL (cR (cR C_blk)))))))))))))))))))) n (stB M K C top left a b (mT M K C a b g cnt) (fr2 i kk j K (i * C) C ((a.drop (i * K)).take K) ((b.drop (kk * C)).take C))) k =
    k (.exit 4) (stB M K C top left a b (mT M K C a b g fun p => if p / C = i ∧ j ≤ p % C ∧ p % C < min C (left + 4) then kk + 1 else cnt p) (fr2e C left i kk (min C (left + 4) : Nat) K (i * C) C ((a.drop (i * K)).take K) ((b.drop (kk * C)).take C))) := by
  have hCM : C ≤ M * C := Nat.le_mul_of_pos_left _ (by omega)
  intro r
  induction r with
  | zero =>
    intro j n cnt hj hn hc
    obtain ⟨n, rfl⟩ : ∃ m', n = m' + 1 := ⟨n - 1, by omega⟩
    obtain rfl : j = min C (left + 4) := by omega
    rw [l2_end (by omega) hl]
    congr 2
    apply mT_congr
    intro p _
    rw [if_neg (by omega)]
  | succ r ih =>
    intro j n cnt hj hn hc
    obtain ⟨n, rfl⟩ : ∃ m', n = m' + 1 := ⟨n - 1, by omega⟩
    have h1 : j < C := by have := Nat.min_le_left C (left + 4); omega
    have h2 : j < left + 4 := by have := Nat.min_le_right C (left + 4); omega
    rw [l2_one hM ha hb hi hk h1 h2 (by omega) (hc j (by omega) (by omega)), ih (j + 1) n _ (by omega) (by omega) (fun c h3 h4 => by rw [if_neg (by omega)]; exact hc c (by omega) h4)]
    congr 2
    apply mT_congr
    intro p _
    have hp := place_iff (i := i) (p := p) h1
    by_cases h3 : p = i * C + j
    · have h7 : p / C = i ∧ j ≤ p % C ∧ p % C < min C (left + 4) := ⟨(hp.mp h3).1, by have := (hp.mp h3).2; omega, by have := (hp.mp h3).2; omega⟩
      rw [if_pos h3, if_pos h7]
      split <;> rfl
    · rw [if_neg h3]
      by_cases h4 : p / C = i ∧ j ≤ p % C ∧ p % C < min C (left + 4)
      · rw [if_pos h4, if_pos ⟨h4.1, by
          have : p % C ≠ j := fun h => h3 (hp.mpr ⟨h4.1, h⟩)
          omega, h4.2.2⟩]
      · rw [if_neg h4, if_neg (fun h => h4 ⟨h.1, by omega, h.2.2⟩)]
theorem l1_all {top left i : Nat} (hM : M * C ≤ 65536) (hK : K ≤ 65536) (hKC : K * C ≤ 65536) (ha : a.length = M * K) (hb : b.length = K * C) (hi : i < M) (hl : left ≤ C) {R : Type} (k : AEx → LSt → Option R) :
    ∀ (r kk n : Nat) (cnt : Nat → Nat), kk + r = K → r < n → (∀ c, left ≤ c → c < min C (left + 4) → cnt (i * C + c) = kk) →
    lp gBl cf_blk (cL (cL (cR (cR (cL (cL (cR (cL (cL (cR (cR C_blk))))))))))) n (stB M K C top left a b (mT M K C a b g cnt) (fr1 i kk K (i * C) C ((a.drop (i * K)).take K))) k =
    k (.exit 2) (stB M K C top left a b (mT M K C a b g fun p => if p / C = i ∧ left ≤ p % C ∧ p % C < min C (left + 4) then K else cnt p) (fr1e i K K (i * C) C ((a.drop (i * K)).take K))) := by
  have hCM : C ≤ M * C := Nat.le_mul_of_pos_left _ (by omega)
  have hmm := Nat.min_le_left C (left + 4)
  have hmr := Nat.min_le_right C (left + 4)
  have hlm : left ≤ min C (left + 4) := Nat.le_min.mpr ⟨hl, by omega⟩
  intro r
  induction r with
  | zero =>
    intro kk n cnt hj hn hc
    obtain ⟨n, rfl⟩ : ∃ m', n = m' + 1 := ⟨n - 1, by omega⟩
    obtain rfl : kk = K := by omega
    refine (blk_st1 M kk C top left i kk kk (i * C) C a b _ _ n k).trans ?_
    rw [decide_eq_false (show ¬ ((kk : Int) < (kk : Int)) by omega), cond_false]
    show k (.exit 2) (stB M kk C top left a b (mT M kk C a b g cnt) (fr1e i kk kk (i * C) C ((a.drop (i * kk)).take kk))) = _
    congr 2
    apply mT_congr
    intro p _
    by_cases h4 : p / C = i ∧ left ≤ p % C ∧ p % C < min C (left + 4)
    · rw [if_pos h4, ← hc (p % C) h4.2.1 h4.2.2, ← (place_iff (i := i) (p := p) (j := p % C) (by omega)).mpr ⟨h4.1, rfl⟩]
    · rw [if_neg h4]
  | succ r ih =>
    intro kk n cnt hj hn hc
    obtain ⟨n, rfl⟩ : ∃ m', n = m' + 1 := ⟨n - 1, by omega⟩
    have b3 := row_le (C := C) (show kk < K by omega)
    have e0 : IntKind.i64.wrap ((kk : Int) + 1) = ((kk + 1 : Nat) : Int) := by rw [wrap64 (by omega) (by omega)]; omega
    have e1 : IntKind.i64.wrap ((kk : Int) * C) = ((kk * C : Nat) : Int) := by rw [← Int.natCast_mul]; exact wrap64 (by omega) (by omega)
    have c1 : 0 ≤ ((kk * C : Nat) : Int) ∧ ((kk * C : Nat) : Int) ≤ Int.ofNat b.length ∧ Int.ofNat b.length ≤ Int.ofNat b.length := ⟨by omega, by simp only [Int.ofNat_eq_natCast]; omega, Int.le_refl _⟩
    have c2 : (0 : Int) ≤ 0 ∧ 0 ≤ (C : Int) ∧ (C : Int) ≤ Int.ofNat (List.drop (kk * C) b).length := ⟨Int.le_refl _, by omega, by simp only [Int.ofNat_eq_natCast, List.length_drop]; omega⟩
    refine (blk_st1 M K C top left i kk K (i * C) C a b _ _ n k).trans ?_
    rw [decide_eq_true (show ((kk : Int) < (K : Int)) by omega), cond_true, e1, if_pos c1]
    simp only [Option.bind_some, Int.toNat_natCast, show (Int.ofNat b.length).toNat = b.length from rfl, List.take_length, if_pos c2, List.drop_zero]
    refine (l2_all (top := top) hM ha hb hi (show kk < K by omega) hl _ (min C (left + 4) - left) left fu cnt (by omega) (by have : fu = 18446744073709551616 := rfl; omega) hc).trans ?_
    rw [bk2, e0]
    refine (ih (kk + 1) n _ (by omega) (by omega) fun c h3 h4 => ?_).trans ?_
    · rw [if_pos ⟨((place_iff (i := i) (p := i * C + c) (j := c) (by omega)).mp rfl).1, by rw [((place_iff (i := i) (p := i * C + c) (j := c) (by omega)).mp rfl).2]; omega, by rw [((place_iff (i := i) (p := i * C + c) (j := c) (by omega)).mp rfl).2]; omega⟩]
    · congr 2
      apply mT_congr
      intro p _
      by_cases h4 : p / C = i ∧ left ≤ p % C ∧ p % C < min C (left + 4)
      · rw [if_pos h4, if_pos h4]
      · rw [if_neg h4, if_neg h4, if_neg h4]
theorem l0_all {top left : Nat} (hM : M * C ≤ 65536) (hMK : M * K ≤ 65536) (hK : K ≤ 65536) (hKC : K * C ≤ 65536) (hC : 1 ≤ C) (ha : a.length = M * K) (hb : b.length = K * C) (hl : left ≤ C) (ht : top ≤ M) {R : Type} (k : AEx → LSt → Option R) :
    ∀ (r i n : Nat) (cnt : Nat → Nat), i + r = min M (top + 4) → r < n → (∀ s c, i ≤ s → s < min M (top + 4) → left ≤ c → c < min C (left + 4) → cnt (s * C + c) = 0) →
    lp gBl cf_blk (cL (cL (cR (cR C_blk)))) n (stB M K C top left a b (mT M K C a b g cnt) [(10, I i)]) k =
    k (.exit 0) (stB M K C top left a b (mT M K C a b g fun p => if (i ≤ p / C ∧ p / C < min M (top + 4)) ∧ left ≤ p % C ∧ p % C < min C (left + 4) then K else cnt p) (fr0e M top (min M (top + 4) : Nat))) := by
  have hMM : M ≤ M * C := Nat.le_mul_of_pos_right _ (by omega)
  have hmm := Nat.min_le_left C (left + 4)
  have hmr := Nat.min_le_right C (left + 4)
  have hmm2 := Nat.min_le_left M (top + 4)
  have hmin := minW_nat M top (by omega)
  intro r
  induction r with
  | zero =>
    intro i n cnt hj hn hc
    obtain ⟨n, rfl⟩ : ∃ m', n = m' + 1 := ⟨n - 1, by omega⟩
    obtain rfl : i = min M (top + 4) := by omega
    have hmin2 := hmin
    unfold minW at hmin2
    refine (blk_st0 M K C top left _ a b _ n k).trans ?_
    rw [hmin2, decide_eq_false (show ¬ ((min M (top + 4) : Nat) : Int) < ((min M (top + 4) : Nat) : Int) by omega), cond_false]
    unfold fr0e
    rw [hmin]
    show k (.exit 0) (stB M K C top left a b (mT M K C a b g cnt) _) = _
    congr 2
    apply mT_congr
    intro p _
    rw [if_neg (by omega)]
  | succ r ih =>
    intro i n cnt hj hn hc
    obtain ⟨n, rfl⟩ : ∃ m', n = m' + 1 := ⟨n - 1, by omega⟩
    have hiM : i < M := by omega
    have b1 := row_le (C := C) hiM
    have b2 := row_le (C := K) hiM
    have e0 : IntKind.i64.wrap ((i : Int) + 1) = ((i + 1 : Nat) : Int) := by rw [wrap64 (by omega) (by omega)]; omega
    have e1 : IntKind.i64.wrap ((i : Int) * C) = ((i * C : Nat) : Int) := by rw [← Int.natCast_mul]; exact wrap64 (by omega) (by omega)
    have e2 : IntKind.i64.wrap ((i : Int) * K) = ((i * K : Nat) : Int) := by rw [← Int.natCast_mul]; exact wrap64 (by omega) (by omega)
    have hlen : (mT M K C a b g cnt).length = M * C := tab_length _ _
    have w1 : win (mT M K C a b g cnt).length ((i * C : Nat) : Int) (Int.ofNat (mT M K C a b g cnt).length) = some (i * C, M * C - i * C) := by
      unfold win
      rw [hlen, decide_eq_true (show 0 ≤ ((i * C : Nat) : Int) by omega), decide_eq_true (show ((i * C : Nat) : Int) < Int.ofNat (M * C) by simp only [Int.ofNat_eq_natCast]; omega), decide_eq_true (show Int.ofNat (M * C) ≤ ((M * C : Nat) : Int) by simp only [Int.ofNat_eq_natCast]; omega)]
      simp only [Bool.and_self, cond_true, Int.toNat_natCast]
      congr 2
      simp only [Int.ofNat_eq_natCast]
      omega
    have w2 : win (M * C - i * C) 0 (C : Int) = some (0, C) := by
      unfold win
      rw [decide_eq_true (show (0 : Int) ≤ 0 by omega), decide_eq_true (show (0 : Int) < (C : Int) by omega), decide_eq_true (show (C : Int) ≤ ((M * C - i * C : Nat) : Int) by omega)]
      simp only [Bool.and_self, cond_true]
      rfl
    have c1 : 0 ≤ ((i * K : Nat) : Int) ∧ ((i * K : Nat) : Int) ≤ Int.ofNat a.length ∧ Int.ofNat a.length ≤ Int.ofNat a.length := ⟨by omega, by simp only [Int.ofNat_eq_natCast]; omega, Int.le_refl _⟩
    have c2 : (0 : Int) ≤ 0 ∧ 0 ≤ (K : Int) ∧ (K : Int) ≤ Int.ofNat (List.drop (i * K) a).length := ⟨Int.le_refl _, by omega, by simp only [Int.ofNat_eq_natCast, List.length_drop]; omega⟩
    have hble : (i * C + (M * C - i * C)).ble (mT M K C a b g cnt).length = true := by rw [hlen]; exact Nat.ble_eq_true_of_le (by omega)
    have hmin2 := hmin
    unfold minW at hmin2
    refine (blk_st0 M K C top left i a b _ n k).trans ?_
    rw [hmin2, decide_eq_true (show ((i : Int) < ((min M (top + 4) : Nat) : Int)) by omega), cond_true, e1, e2, w1]
    simp only [Option.bind_some, w2, hble, cond_true, if_pos c1, Int.toNat_natCast, show (Int.ofNat a.length).toNat = a.length from rfl, List.take_length, if_pos c2, List.drop_zero]
    refine (l1_all (top := top) hM hK hKC ha hb hiM hl _ K 0 fu cnt (by omega) (by have : fu = 18446744073709551616 := rfl; omega) (fun c h3 h4 => hc i c (by omega) (by omega) h3 h4)).trans ?_
    rw [bk1, e0]
    refine (ih (i + 1) n _ (by omega) (by omega) fun s c h1 h2 h3 h4 => ?_).trans ?_
    · rw [if_neg (fun h => by
        have := ((place_iff (i := s) (p := s * C + c) (j := c) (by omega)).mp rfl).1
        omega)]
      exact hc s c (by omega) h2 h3 h4
    · congr 2
      apply mT_congr
      intro p _
      by_cases h4 : left ≤ p % C ∧ p % C < min C (left + 4)
      · by_cases h5 : i + 1 ≤ p / C ∧ p / C < min M (top + 4)
        · rw [if_pos ⟨h5, h4⟩, if_pos ⟨⟨by omega, h5.2⟩, h4⟩]
        · rw [if_neg (fun h => h5 h.1)]
          by_cases h6 : p / C = i
          · rw [if_pos ⟨h6, h4⟩, if_pos ⟨⟨by omega, by omega⟩, h4⟩]
          · rw [if_neg (fun h => h6 h.1), if_neg (fun h => h5 ⟨by omega, h.1.2⟩)]
      · rw [if_neg (fun h => h4 h.2), if_neg (fun h => h4 h.2), if_neg (fun h => h4 h.2)]
theorem blk_run {top left : Nat} {cnt : Nat → Nat} (hM : M * C ≤ 65536) (hMK : M * K ≤ 65536) (hK : K ≤ 65536) (hKC : K * C ≤ 65536) (hC : 1 ≤ C) (ha : a.length = M * K) (hb : b.length = K * C) (hl : left ≤ C) (ht : top ≤ M) (hc : ∀ s c, top ≤ s → s < min M (top + 4) → left ≤ c → c < min C (left + 4) → cnt (s * C + c) = 0) :
    runC gBl Tryz.f105 7 [(2, [3, 4, 5, 6, 7, 10]), (6, [3, 4, 5, 6, 7, 10, 11, 12, 33, 34]), (10, [3, 4, 5, 6, 7, 10, 11, 12, 13, 14, 15, 33, 34])] [mxA M C (.os 0 0), mxD M K a, mxD K C b, I top, I left] (hpB (mT M K C a b g cnt)) ah =
    some (.ret [], hpB (mT M K C a b g fun p => if (top ≤ p / C ∧ p / C < min M (top + 4)) ∧ left ≤ p % C ∧ p % C < min C (left + 4) then K else cnt p)) := by
  have hmm2 := Nat.min_le_left M (top + 4)
  have hmr2 := Nat.min_le_right M (top + 4)
  have hlm : top ≤ min M (top + 4) := Nat.le_min.mpr ⟨ht, by omega⟩
  refine (blk_eq M K C top left a b _).trans ?_
  refine (l0_all hM hMK hK hKC hC ha hb hl ht BK (min M (top + 4) - top) top fu cnt (by omega) (by have : fu = 18446744073709551616 := rfl; omega) hc).trans ?_
  exact BK_exit M K C top left a b _ _
end
/-- what a block makes of what stands there -/
def inB (M C top left p : Nat) : Bool := decide ((top ≤ p / C ∧ p / C < min M (top + 4)) ∧ left ≤ p % C ∧ p % C < min C (left + 4))
def blkR (M K C top left : Nat) (a b xs : List Int) : List Int := mT M K C a b (fun p => xs.getD p 0) fun p => bif inB M C top left p then K else 0
def blkOk (M C M2 K K2 C2 top left : Int) (a b xs : List Int) : Bool :=
  decide ((0 ≤ M ∧ M2 = M ∧ 0 ≤ K ∧ K2 = K ∧ 1 ≤ C ∧ C2 = C ∧ 0 ≤ top ∧ top ≤ M ∧ 0 ≤ left ∧ left ≤ C) ∧ K ≤ 65536 ∧ M.toNat * C.toNat ≤ 65536 ∧ M.toNat * K.toNat ≤ 65536 ∧ K.toNat * C.toNat ≤ 65536 ∧ a.length = M.toNat * K.toNat ∧ b.length = K.toNat * C.toNat ∧ xs.length = M.toNat * C.toNat)
theorem mT_self {M K C : Nat} {a b xs : List Int} (h : xs.length = M * C) : mT M K C a b (fun p => xs.getD p 0) (fun _ => 0) = xs := by
  apply List.ext_getElem?
  intro q
  unfold mT
  by_cases hq : q < M * C
  · rw [tab_get hq, List.getElem?_eq_getElem (by omega)]
    show some (xs.getD q 0) = _
    rw [List.getD_eq_getElem?_getD, List.getElem?_eq_getElem (by omega)]
    rfl
  · rw [List.getElem?_eq_none (by rw [tab_length]; omega), List.getElem?_eq_none (by omega)]
def blkT : List AV → LHp → Tq
  | [.pr (.d (.int .i64) M) (.pr (.d (.int .i64) C) (.pr (.os 0 0) (.d .unit ()))), .d ((.pair (.int .i64) (.pair (.int .i64) (.pair (.slice (.int .i64)) .unit)))) (M2, K, a, ()), .d ((.pair (.int .i64) (.pair (.int .i64) (.pair (.slice (.int .i64)) .unit)))) (K2, C2, b, ()), .d (.int .i64) top, .d (.int .i64) left], [(0, .arr tt (.int .i64) 0 false xs)] =>
    bif tt == 2 then .br (blkOk M C M2 K K2 C2 top left a b xs) (.leaf (.ret []) (hpB (blkR M.toNat K.toNat C.toNat top.toNat left.toNat a b xs))) .no else .no
  | _, _ => .no
theorem blkR_eq {M K C top left : Nat} {a b xs : List Int} : (mT M K C a b (fun p => xs.getD p 0) fun p => if (top ≤ p / C ∧ p / C < min M (top + 4)) ∧ left ≤ p % C ∧ p % C < min C (left + 4) then K else 0) = blkR M K C top left a b xs := by
  unfold blkR
  apply mT_congr
  intro p _
  unfold inB
  split
  · rename_i hp
    rw [decide_eq_true hp]
    rfl
  · rename_i hp
    rw [decide_eq_false hp]
    rfl
theorem blk_nat {M K C top left : Nat} {a b xs : List Int} (h12 : M * C ≤ 65536) (h13 : M * K ≤ 65536) (h11 : K ≤ 65536) (h14 : K * C ≤ 65536) (h5 : 1 ≤ C) (h15 : a.length = M * K) (h16 : b.length = K * C) (h10 : left ≤ C) (h8 : top ≤ M) (h17 : xs.length = M * C) :
    runC gBl Tryz.f105 7 [(2, [3, 4, 5, 6, 7, 10]), (6, [3, 4, 5, 6, 7, 10, 11, 12, 33, 34]), (10, [3, 4, 5, 6, 7, 10, 11, 12, 13, 14, 15, 33, 34])] [mxA M C (.os 0 0), mxD M K a, mxD K C b, I top, I left] (hpB xs) ah = some (.ret [], hpB (blkR M K C top left a b xs)) := by
  have h := blk_run (M := M) (K := K) (C := C) (a := a) (b := b) (g := fun p => xs.getD p 0) (top := top) (left := left) (cnt := fun _ => 0) h12 h13 h11 h14 h5 h15 h16 h10 h8 (fun _ _ _ _ _ _ => rfl)
  rw [mT_self h17, blkR_eq] at h
  exact h
theorem blk_tree {M C M2 K K2 C2 top left : Int} {a b xs : List Int} (h : blkOk M C M2 K K2 C2 top left a b xs = true) :
    runC gBl Tryz.f105 7 [(2, [3, 4, 5, 6, 7, 10]), (6, [3, 4, 5, 6, 7, 10, 11, 12, 33, 34]), (10, [3, 4, 5, 6, 7, 10, 11, 12, 13, 14, 15, 33, 34])] [mxA M C (.os 0 0), mxD M2 K a, mxD K2 C2 b, I top, I left] (hpB xs) ah = some (.ret [], hpB (blkR M.toNat K.toNat C.toNat top.toNat left.toNat a b xs)) := by
  have h0 := of_decide_eq_true h
  obtain ⟨⟨h1, h2, h3, h4, h5, h6, h7, h8, h9, h10⟩, h11, h12, h13, h14, h15, h16, h17⟩ := h0
  clear h
  rw [h2, h4, h6]
  obtain ⟨m, rfl⟩ := Int.eq_ofNat_of_zero_le h1
  obtain ⟨k, rfl⟩ := Int.eq_ofNat_of_zero_le h3
  obtain ⟨c, rfl⟩ := Int.eq_ofNat_of_zero_le (show 0 ≤ C by omega)
  obtain ⟨t, rfl⟩ := Int.eq_ofNat_of_zero_le h7
  obtain ⟨l, rfl⟩ := Int.eq_ofNat_of_zero_le h9
  rw [Int.toNat_natCast, Int.toNat_natCast, Int.toNat_natCast, Int.toNat_natCast, Int.toNat_natCast]
  rw [Int.toNat_natCast] at h12 h13 h14 h15 h16 h17
  rw [Int.toNat_natCast] at h12 h13 h14 h15 h16 h17
  exact blk_nat h12 h13 (by omega) h14 (by omega) h15 h16 (by omega) (by omega) h17
theorem blkT_ok : FnE.OK e0.P e0.gam 105 (treeE blkT) := by
  have h1 : FnE.OK e0.P e0.gam 105 (execFnC gBl Tryz.f105 7 [(2, [3, 4, 5, 6, 7, 10]), (6, [3, 4, 5, 6, 7, 10, 11, 12, 33, 34]), (10, [3, 4, 5, 6, 7, 10, 11, 12, 13, 14, 15, 33, 34])]) := execFnC_ok gBl_good hmix Tryz.func105 Tryz.call105 (by decide +kernel) rfl
  refine ⟨fun _ _ _ => Tq.eq _ _, fun args hs ae hs' h => ?_⟩
  have h' : (blkT args hs).run ah = some (ae, hs') := h
  clear h
  unfold blkT at h'
  split at h'
  · rename_i tt xs
    cases ht : tt == 2 with
    | true =>
      rw [ht, cond_true] at h'
      obtain ⟨hb, h2⟩ := Tq.br_no h'
      cases h2
      rw [eq_of_beq ht]
      exact h1.okC (blk_tree hb)
    | false => rw [ht] at h'; cases h'
  · cases h'
end Go.Proofs.XGT
/- linear.product: its loops' steps. -/
namespace Go.Proofs.XGT
open Go.Vm Go
set_option maxRecDepth 100000
set_option maxHeartbeats 4000000
noncomputable def C_prd : Code := codeOf Tryz.f70
noncomputable def cf_prd : Cfg := ⟨39, 6, 0, [(3, [2, 3, 5, 6]), (6, [2, 3, 5, 6, 7])], true⟩
noncomputable def gPr : Env := g191.add 105 (treeE blkT)
theorem gPr_good : gPr.Good := g191_good.add blkT_ok
theorem prd_eqH (hl : Hl) (M K K2 C : Int) (a b : List Int) : runH gPr Tryz.f70 6 [(3, [2, 3, 5, 6]), (6, [2, 3, 5, 6, 7])] [3, 6] hl [mxD M K a, mxD K2 C b] [] ah =
  (if 0 ≤ IntKind.i64.wrap (M * C) ∧ IntKind.i64.wrap (M * C) ≤ 4294967296 then some (List.replicate (IntKind.i64.wrap (M * C)).toNat 0) else none).bind fun v0 =>
    hl (cL (cL (cR (cL (cR (cR C_prd)))))) _ { fr := mkFr 6 [(2, AV.op 0 [] 0), (3, AV.op 1 [] 0), (5, AV.op 2 [] 0), (6, I 0)], hp := [(0, AObj.box (AV.d ((i64T).pair ((i64T).pair ((i64T).slice.pair Ty.unit))) (M, K, a, PUnit.unit))), (1, AObj.box (AV.d ((i64T).pair ((i64T).pair ((i64T).slice.pair Ty.unit))) (K2, C, b, PUnit.unit))), (2, AObj.box ((I M).pr ((I C).pr ((AV.os 3 0).pr (AV.d Ty.unit PUnit.unit))))), (3, AObj.arr 2 (i64T) 0 false v0)], nx := 4 } (blkK 0 (seqH gPr cf_prd [3, 6] hl (cR (cR (cR C_prd))) (endC Tryz.prog 0 Tryz.f70.results.toList ah))) := by kernel_rfl
theorem prd_eq (M K K2 C : Int) (a b : List Int) : runC gPr Tryz.f70 6 [(3, [2, 3, 5, 6]), (6, [2, 3, 5, 6, 7])] [mxD M K a, mxD K2 C b] [] ah =
  (if 0 ≤ IntKind.i64.wrap (M * C) ∧ IntKind.i64.wrap (M * C) ≤ 4294967296 then some (List.replicate (IntKind.i64.wrap (M * C)).toNat 0) else none).bind fun v0 =>
    (hlp gPr cf_prd) (cL (cL (cR (cL (cR (cR C_prd)))))) _ { fr := mkFr 6 [(2, AV.op 0 [] 0), (3, AV.op 1 [] 0), (5, AV.op 2 [] 0), (6, I 0)], hp := [(0, AObj.box (AV.d ((i64T).pair ((i64T).pair ((i64T).slice.pair Ty.unit))) (M, K, a, PUnit.unit))), (1, AObj.box (AV.d ((i64T).pair ((i64T).pair ((i64T).slice.pair Ty.unit))) (K2, C, b, PUnit.unit))), (2, AObj.box ((I M).pr ((I C).pr ((AV.os 3 0).pr (AV.d Ty.unit PUnit.unit))))), (3, AObj.arr 2 (i64T) 0 false v0)], nx := 4 } (blkK 0 (seqH gPr cf_prd [3, 6] (hlp gPr cf_prd) (cR (cR (cR C_prd))) (endC Tryz.prog 0 Tryz.f70.results.toList ah))) := runH_runC.trans (prd_eqH (hlp gPr cf_prd) M K K2 C a b)
def stP (M K K2 C : Int) (a b xs : List Int) (fr : List (Nat × AV)) : LSt := { fr := mkFr 6 ([(2, .op 0 [] 0), (3, .op 1 [] 0), (5, .op 2 [] 0)] ++ fr), hp := [(0, .box (mxD M K a)), (1, .box (mxD K2 C b)), (2, .box (mxA M C (.os 3 0))), (3, .arr 2 i64T 0 false xs)], nx := 4 }
theorem prd_st0H (hl : Hl) (M K K2 C top : Int) (a b xs : List Int) (n : Nat) {R : Type} (k : AEx → LSt → Option R) : lpH gPr cf_prd [3, 6] hl (cL (cL (cR (cL (cR (cR C_prd)))))) (n + 1) (stP M K K2 C a b xs [(6, I top)]) k =
  bif decide (top < M) then hl (cL (cL (cR (cL (cL (cR (cL (cL (cR (cL (cR (cR C_prd)))))))))))) _ { fr := mkFr 6 [(2, AV.op 0 [] 0), (3, AV.op 1 [] 0), (5, AV.op 2 [] 0), (6, I top), (7, I 0)], hp := [(0, AObj.box (AV.d ((i64T).pair ((i64T).pair ((i64T).slice.pair Ty.unit))) (M, K, a, PUnit.unit))), (1, AObj.box (AV.d ((i64T).pair ((i64T).pair ((i64T).slice.pair Ty.unit))) (K2, C, b, PUnit.unit))), (2, AObj.box ((I M).pr ((I C).pr ((AV.os 3 0).pr (AV.d Ty.unit PUnit.unit))))), (3, AObj.arr 2 (i64T) 0 false xs)], nx := 4 } (blkK 2 (blkK 1 (seqH gPr cf_prd [3, 6] hl (cR (cR (cL (cL (cR (cL (cR (cR C_prd)))))))) (nxtH gPr cf_prd [3, 6] hl (cL (cL (cR (cL (cR (cR C_prd)))))) n k))))
  else k (AEx.exit 0) { fr := mkFr 6 [(2, AV.op 0 [] 0), (3, AV.op 1 [] 0), (5, AV.op 2 [] 0), (6, I top), (19, I top), (20, AV.op 2 [0] 0), (21, I M), (22, B false)], hp := [(0, AObj.box (AV.d ((i64T).pair ((i64T).pair ((i64T).slice.pair Ty.unit))) (M, K, a, PUnit.unit))), (1, AObj.box (AV.d ((i64T).pair ((i64T).pair ((i64T).slice.pair Ty.unit))) (K2, C, b, PUnit.unit))), (2, AObj.box ((I M).pr ((I C).pr ((AV.os 3 0).pr (AV.d Ty.unit PUnit.unit))))), (3, AObj.arr 2 (i64T) 0 false xs)], nx := 4 } := by kernel_rfl
theorem prd_st0 (M K K2 C top : Int) (a b xs : List Int) (n : Nat) {R : Type} (k : AEx → LSt → Option R) : lp gPr cf_prd (cL (cL (cR (cL (cR (cR C_prd)))))) (n + 1) (stP M K K2 C a b xs [(6, I top)]) k =
  bif decide (top < M) then (hlp gPr cf_prd) (cL (cL (cR (cL (cL (cR (cL (cL (cR (cL (cR (cR C_prd)))))))))))) _ { fr := mkFr 6 [(2, AV.op 0 [] 0), (3, AV.op 1 [] 0), (5, AV.op 2 [] 0), (6, I top), (7, I 0)], hp := [(0, AObj.box (AV.d ((i64T).pair ((i64T).pair ((i64T).slice.pair Ty.unit))) (M, K, a, PUnit.unit))), (1, AObj.box (AV.d ((i64T).pair ((i64T).pair ((i64T).slice.pair Ty.unit))) (K2, C, b, PUnit.unit))), (2, AObj.box ((I M).pr ((I C).pr ((AV.os 3 0).pr (AV.d Ty.unit PUnit.unit))))), (3, AObj.arr 2 (i64T) 0 false xs)], nx := 4 } (blkK 2 (blkK 1 (seqH gPr cf_prd [3, 6] (hlp gPr cf_prd) (cR (cR (cL (cL (cR (cL (cR (cR C_prd)))))))) (nxtH gPr cf_prd [3, 6] (hlp gPr cf_prd) (cL (cL (cR (cL (cR (cR C_prd)))))) n k))))
  else k (AEx.exit 0) { fr := mkFr 6 [(2, AV.op 0 [] 0), (3, AV.op 1 [] 0), (5, AV.op 2 [] 0), (6, I top), (19, I top), (20, AV.op 2 [0] 0), (21, I M), (22, B false)], hp := [(0, AObj.box (AV.d ((i64T).pair ((i64T).pair ((i64T).slice.pair Ty.unit))) (M, K, a, PUnit.unit))), (1, AObj.box (AV.d ((i64T).pair ((i64T).pair ((i64T).slice.pair Ty.unit))) (K2, C, b, PUnit.unit))), (2, AObj.box ((I M).pr ((I C).pr ((AV.os 3 0).pr (AV.d Ty.unit PUnit.unit))))), (3, AObj.arr 2 (i64T) 0 false xs)], nx := 4 } := by
  have h := prd_st0H (hlp gPr cf_prd) M K K2 C top a b xs n k
  simp only [lpH_lp] at h
  exact h
theorem prd_st1H (hl : Hl) (M K K2 C top left : Int) (a b xs : List Int) (n : Nat) {R : Type} (k : AEx → LSt → Option R) : lpH gPr cf_prd [3, 6] hl (cL (cL (cR (cL (cL (cR (cL (cL (cR (cL (cR (cR C_prd)))))))))))) (n + 1) (stP M K K2 C a b xs [(6, I top), (7, I left)]) k =
  bif decide (left < C) then 
    bif blkOk M C M K K2 C top left a b xs then lpH gPr cf_prd [3, 6] hl (cL (cL (cR (cL (cL (cR (cL (cL (cR (cL (cR (cR C_prd)))))))))))) n { fr := mkFr 6 [(2, AV.op 0 [] 0), (3, AV.op 1 [] 0), (5, AV.op 2 [] 0), (6, I top), (7, I (IntKind.i64.wrap (left + 4)))], hp := [(0, AObj.box (AV.d ((i64T).pair ((i64T).pair ((i64T).slice.pair Ty.unit))) (M, K, a, PUnit.unit))), (1, AObj.box (AV.d ((i64T).pair ((i64T).pair ((i64T).slice.pair Ty.unit))) (K2, C, b, PUnit.unit))), (2, AObj.box ((I M).pr ((I C).pr ((AV.os 3 0).pr (AV.d Ty.unit PUnit.unit))))), (3, AObj.arr 2 (i64T) 0 false (blkR M.toNat K.toNat C.toNat top.toNat left.toNat a b xs))], nx := 4 } k
    else none
  else k (AEx.exit 2) { fr := mkFr 6 [(2, AV.op 0 [] 0), (3, AV.op 1 [] 0), (5, AV.op 2 [] 0), (6, I top), (7, I left), (25, I left), (26, AV.op 2 [1] 1), (27, I C), (28, B false)], hp := [(0, AObj.box (AV.d ((i64T).pair ((i64T).pair ((i64T).slice.pair Ty.unit))) (M, K, a, PUnit.unit))), (1, AObj.box (AV.d ((i64T).pair ((i64T).pair ((i64T).slice.pair Ty.unit))) (K2, C, b, PUnit.unit))), (2, AObj.box ((I M).pr ((I C).pr ((AV.os 3 0).pr (AV.d Ty.unit PUnit.unit))))), (3, AObj.arr 2 (i64T) 0 false xs)], nx := 4 } := by kernel_rfl
theorem prd_st1 (M K K2 C top left : Int) (a b xs : List Int) (n : Nat) {R : Type} (k : AEx → LSt → Option R) : lp gPr cf_prd (cL (cL (cR (cL (cL (cR (cL (cL (cR (cL (cR (cR C_prd)))))))))))) (n + 1) (stP M K K2 C a b xs [(6, I top), (7, I left)]) k =
  bif decide (left < C) then 
    bif blkOk M C M K K2 C top left a b xs then lp gPr cf_prd (cL (cL (cR (cL (cL (cR (cL (cL (cR (cL (cR (cR C_prd)))))))))))) n { fr := mkFr 6 [(2, AV.op 0 [] 0), (3, AV.op 1 [] 0), (5, AV.op 2 [] 0), (6, I top), (7, I (IntKind.i64.wrap (left + 4)))], hp := [(0, AObj.box (AV.d ((i64T).pair ((i64T).pair ((i64T).slice.pair Ty.unit))) (M, K, a, PUnit.unit))), (1, AObj.box (AV.d ((i64T).pair ((i64T).pair ((i64T).slice.pair Ty.unit))) (K2, C, b, PUnit.unit))), (2, AObj.box ((I M).pr ((I C).pr ((AV.os 3 0).pr (AV.d Ty.unit PUnit.unit))))), (3, AObj.arr 2 (i64T) 0 false (blkR M.toNat K.toNat C.toNat top.toNat left.toNat a b xs))], nx := 4 } k
    else none
  else k (AEx.exit 2) { fr := mkFr 6 [(2, AV.op 0 [] 0), (3, AV.op 1 [] 0), (5, AV.op 2 [] 0), (6, I top), (7, I left), (25, I left), (26, AV.op 2 [1] 1), (27, I C), (28, B false)], hp := [(0, AObj.box (AV.d ((i64T).pair ((i64T).pair ((i64T).slice.pair Ty.unit))) (M, K, a, PUnit.unit))), (1, AObj.box (AV.d ((i64T).pair ((i64T).pair ((i64T).slice.pair Ty.unit))) (K2, C, b, PUnit.unit))), (2, AObj.box ((I M).pr ((I C).pr ((AV.os 3 0).pr (AV.d Ty.unit PUnit.unit))))), (3, AObj.arr 2 (i64T) 0 false xs)], nx := 4 } := by
  have h := prd_st1H (hlp gPr cf_prd) M K K2 C top left a b xs n k
  simp only [lpH_lp] at h
  exact h
def pr1e (C top left : Int) : List (Nat × AV) := [(6, I top), (7, I left), (25, I left), (26, .op 2 [1] 1), (27, I C), (28, B false)]
def pr0e (M top : Int) : List (Nat × AV) := [(6, I top), (19, I top), (20, .op 2 [0] 0), (21, I M), (22, B false)]
noncomputable def PK1 {R : Type} (n : Nat) (k : AEx → LSt → Option R) : AEx → LSt → Option R := (blkK 2 (blkK 1 (seqH gPr cf_prd [3, 6] (hlp gPr cf_prd) (cR (cR (cL (cL (cR (cL (cR (cR C_prd)))))))) (nxtH gPr cf_prd [3, 6] (hlp gPr cf_prd) (cL (cL (cR (cL (cR (cR C_prd)))))) n k))))
theorem pk1 (M K K2 C top left : Int) (a b xs : List Int) (n : Nat) {R : Type} (k : AEx → LSt → Option R) : PK1 n k (.exit 2) (stP M K K2 C a b xs (pr1e C top left)) = lp gPr cf_prd (cL (cL (cR (cL (cR (cR C_prd)))))) n (stP M K K2 C a b xs [(6, I (IntKind.i64.wrap (top + 4)))]) k :=
  Eq.trans (b := lpH gPr cf_prd [3, 6] (hlp gPr cf_prd) (cL (cL (cR (cL (cR (cR C_prd)))))) n (stP M K K2 C a b xs [(6, I (IntKind.i64.wrap (top + 4)))]) k) (by kernel_rfl) lpH_lp
noncomputable def PK : AEx → LSt → Option (AEnd × LHp) := (blkK 0 (seqH gPr cf_prd [3, 6] (hlp gPr cf_prd) (cR (cR (cR C_prd))) (endC Tryz.prog 0 Tryz.f70.results.toList ah)))
theorem PK_exit (M K K2 C top : Int) (a b xs : List Int) : PK (.exit 0) (stP M K K2 C a b xs (pr0e M top)) =
  some (AEnd.ret [AV.os 0 0], [(0, AObj.arr 2 (i64T) 0 false xs)]) := by kernel_rfl
end Go.Proofs.XGT
/- linear.product: what it makes. -/
namespace Go.Proofs.XGT
open Go.Vm Go
set_option maxRecDepth 100000
set_option maxHeartbeats 1000000
def cntD (C K top left : Nat) (p : Nat) : Nat := if p / C < top ∨ (p / C < top + 4 ∧ p % C < left) then K else 0
def prodL (M K C : Nat) (a b : List Int) : List Int := mT M K C a b (fun _ => 0) fun _ => K
theorem mT_length (M K C : Nat) (a b : List Int) (g : Nat → Int) (cnt : Nat → Nat) : (mT M K C a b g cnt).length = M * C := tab_length _ _
theorem mT_getD {M K C : Nat} {a b : List Int} {g : Nat → Int} {cnt : Nat → Nat} {p : Nat} (h : p < M * C) : (mT M K C a b g cnt).getD p 0 = cellP (g p) K C a b (p / C) (p % C) (cnt p) := by
  unfold mT
  rw [List.getD_eq_getElem?_getD, tab_get h]
  rfl
theorem div_lt {M C p : Nat} (h : p < M * C) : p / C < M := Nat.div_lt_of_lt_mul (by rw [Nat.mul_comm]; exact h)
theorem blkR_mT {M K C top left : Nat} {a b : List Int} (hC : 1 ≤ C) : blkR M K C top left a b (mT M K C a b (fun _ => 0) (cntD C K top left)) = mT M K C a b (fun _ => 0) (cntD C K top (left + 4)) := by
  unfold blkR
  apply tab_congr
  intro p hp
  show cellP ((mT M K C a b (fun _ => 0) (cntD C K top left)).getD p 0) K C a b (p / C) (p % C) (bif inB M C top left p then K else 0) = cellP 0 K C a b (p / C) (p % C) (cntD C K top (left + 4) p)
  rw [mT_getD hp]
  have h1 := div_lt hp
  have h2 : p % C < C := Nat.mod_lt _ hC
  unfold inB cntD
  by_cases h : (top ≤ p / C ∧ p / C < min M (top + 4)) ∧ left ≤ p % C ∧ p % C < min C (left + 4)
  · rw [decide_eq_true h, cond_true, if_neg (by omega), if_pos (by omega)]
    rfl
  · rw [decide_eq_false h, cond_false]
    by_cases h3 : p / C < top ∨ (p / C < top + 4 ∧ p % C < left)
    · rw [if_pos h3, if_pos (by omega)]
      rfl
    · rw [if_neg h3, if_neg (by omega)]
      rfl
section
variable {M K C : Nat} {a b : List Int}
theorem p1_all {top : Nat} (hM : M * C ≤ 65536) (hMK : M * K ≤ 65536) (hK : K ≤ 65536) (hKC : K * C ≤ 65536) (hC : 1 ≤ C) (hT : top < M) (ha : a.length = M * K) (hb : b.length = K * C) {R : Type} (k : AEx → LSt → Option R) :
    ∀ (r left n : Nat), C ≤ left + r → r < n →
    ∃ l : Nat, lp gPr cf_prd (cL (cL (cR (cL (cL (cR (cL (cL (cR (cL (cR (cR C_prd)))))))))))) n (stP M K K C a b (mT M K C a b (fun _ => 0) (cntD C K top left)) [(6, I top), (7, I left)]) k =
      k (.exit 2) (stP M K K C a b (mT M K C a b (fun _ => 0) (cntD C K (top + 4) 0)) (pr1e C top l)) := by
  have hCM : C ≤ M * C := Nat.le_mul_of_pos_left _ (by omega)
  intro r
  induction r with
  | zero =>
    intro left n h1 hn
    obtain ⟨n, rfl⟩ : ∃ m', n = m' + 1 := ⟨n - 1, by omega⟩
    refine ⟨left, (prd_st1 M K K C top left a b _ n k).trans ?_⟩
    rw [decide_eq_false (show ¬ ((left : Int) < (C : Int)) by omega), cond_false]
    show k (.exit 2) (stP M K K C a b (mT M K C a b (fun _ => 0) (cntD C K top left)) (pr1e C top left)) = _
    congr 2
    apply mT_congr
    intro p hp
    have h2 : p % C < C := Nat.mod_lt _ hC
    unfold cntD
    by_cases h3 : p / C < top ∨ (p / C < top + 4 ∧ p % C < left)
    · rw [if_pos h3, if_pos (by omega)]
    · rw [if_neg h3, if_neg (by omega)]
  | succ r ih =>
    intro left n h1 hn
    obtain ⟨n, rfl⟩ : ∃ m', n = m' + 1 := ⟨n - 1, by omega⟩
    by_cases hl : left < C
    · obtain ⟨l, h⟩ := ih (left + 4) n (by omega) (by omega)
      refine ⟨l, (prd_st1 M K K C top left a b _ n k).trans ?_⟩
      have e0 : IntKind.i64.wrap ((left : Int) + 4) = ((left + 4 : Nat) : Int) := by rw [wrap64 (by omega) (by omega)]; omega
      have hok : blkOk M C M K K C top left a b (mT M K C a b (fun _ => 0) (cntD C K top left)) = true := by
        unfold blkOk
        apply decide_eq_true
        exact ⟨⟨by omega, rfl, by omega, rfl, by omega, rfl, by omega, by omega, by omega, by omega⟩, by omega, hM, hMK, hKC, ha, hb, mT_length _ _ _ _ _ _ _⟩
      rw [decide_eq_true (show ((left : Int) < (C : Int)) by omega), cond_true, hok, cond_true, e0]
      simp only [Int.toNat_natCast]
      rw [blkR_mT hC]
      exact h
    · refine ⟨left, (prd_st1 M K K C top left a b _ n k).trans ?_⟩
      rw [decide_eq_false (show ¬ ((left : Int) < (C : Int)) by omega), cond_false]
      show k (.exit 2) (stP M K K C a b (mT M K C a b (fun _ => 0) (cntD C K top left)) (pr1e C top left)) = _
      congr 2
      apply mT_congr
      intro p hp
      have h2 : p % C < C := Nat.mod_lt _ hC
      unfold cntD
      by_cases h3 : p / C < top ∨ (p / C < top + 4 ∧ p % C < left)
      · rw [if_pos h3, if_pos (by omega)]
      · rw [if_neg h3, if_neg (by omega)]
theorem p0_all (hM : M * C ≤ 65536) (hMK : M * K ≤ 65536) (hK : K ≤ 65536) (hKC : K * C ≤ 65536) (hC : 1 ≤ C) (ha : a.length = M * K) (hb : b.length = K * C) {R : Type} (k : AEx → LSt → Option R) :
    ∀ (r top n : Nat), M ≤ top + r → r < n →
    ∃ t : Nat, lp gPr cf_prd (cL (cL (cR (cL (cR (cR C_prd)))))) n (stP M K K C a b (mT M K C a b (fun _ => 0) (cntD C K top 0)) [(6, I top)]) k =
      k (.exit 0) (stP M K K C a b (prodL M K C a b) (pr0e M t)) := by
  have hMM : M ≤ M * C := Nat.le_mul_of_pos_right _ (by omega)
  have done : ∀ (top n : Nat), ¬ top < M → lp gPr cf_prd (cL (cL (cR (cL (cR (cR C_prd)))))) (n + 1) (stP M K K C a b (mT M K C a b (fun _ => 0) (cntD C K top 0)) [(6, I top)]) k =
      k (.exit 0) (stP M K K C a b (prodL M K C a b) (pr0e M top)) := by
    intro top n h
    refine (prd_st0 M K K C top a b _ n k).trans ?_
    rw [decide_eq_false (show ¬ ((top : Int) < (M : Int)) by omega), cond_false]
    show k (.exit 0) (stP M K K C a b (mT M K C a b (fun _ => 0) (cntD C K top 0)) (pr0e M top)) = _
    congr 2
    apply mT_congr
    intro p hp
    have h1 := div_lt hp
    unfold cntD
    rw [if_pos (by omega)]
  intro r
  induction r with
  | zero =>
    intro top n h1 hn
    obtain ⟨n, rfl⟩ : ∃ m', n = m' + 1 := ⟨n - 1, by omega⟩
    exact ⟨top, done top n (by omega)⟩
  | succ r ih =>
    intro top n h1 hn
    obtain ⟨n, rfl⟩ : ∃ m', n = m' + 1 := ⟨n - 1, by omega⟩
    by_cases hl : top < M
    · obtain ⟨t, h⟩ := ih (top + 4) n (by omega) (by omega)
      refine ⟨t, (prd_st0 M K K C top a b _ n k).trans ?_⟩
      have hCM : C ≤ M * C := Nat.le_mul_of_pos_left _ (by omega)
      have e0 : IntKind.i64.wrap ((top : Int) + 4) = ((top + 4 : Nat) : Int) := by rw [wrap64 (by omega) (by omega)]; omega
      rw [decide_eq_true (show ((top : Int) < (M : Int)) by omega), cond_true]
      obtain ⟨l, h2⟩ := p1_all (top := top) hM hMK hK hKC hC hl ha hb (PK1 n k) C 0 fu (by omega) (by have : fu = 18446744073709551616 := rfl; omega)
      refine h2.trans ((pk1 M K K C top l a b _ n k).trans ?_)
      rw [e0]
      exact h
    · exact ⟨top, done top n hl⟩
theorem prd_run (hM : M * C ≤ 65536) (hMK : M * K ≤ 65536) (hK : K ≤ 65536) (hKC : K * C ≤ 65536) (hC : 1 ≤ C) (ha : a.length = M * K) (hb : b.length = K * C) :
    runC gPr Tryz.f70 6 [(3, [2, 3, 5, 6]), (6, [2, 3, 5, 6, 7])] [mxD M K a, mxD K C b] [] ah = some (.ret [.os 0 0], [(0, .arr 2 i64T 0 false (prodL M K C a b))]) := by
  have hMM : M ≤ M * C := Nat.le_mul_of_pos_right _ (by omega)
  have e1 : IntKind.i64.wrap ((M : Int) * C) = ((M * C : Nat) : Int) := by rw [← Int.natCast_mul]; exact wrap64 (by omega) (by omega)
  have e2 : List.replicate (M * C) (0 : Int) = mT M K C a b (fun _ => 0) (cntD C K 0 0) := by
    apply List.ext_getElem?
    intro q
    unfold mT
    by_cases hq : q < M * C
    · rw [tab_get hq, List.getElem?_replicate, if_pos hq]
      unfold cntD
      rw [if_neg (fun h => by rcases h with h | ⟨_, h⟩ <;> exact Nat.not_lt_zero _ h)]
      rfl
    · rw [List.getElem?_eq_none (by rw [List.length_replicate]; omega), List.getElem?_eq_none (by rw [tab_length]; omega)]
  obtain ⟨t, h⟩ := p0_all hM hMK hK hKC hC ha hb PK M 0 fu (by omega) (by have : fu = 18446744073709551616 := rfl; omega)
  refine (prd_eq M K K C a b).trans ?_
  rw [e1, if_pos ⟨Int.natCast_nonneg _, by omega⟩]
  simp only [Option.bind_some, Int.toNat_natCast]
  rw [e2]
  exact h.trans (PK_exit M K K C t a b _)
end
def prdOk (M K K2 C : Int) (a b : List Int) : Bool :=
  decide ((0 ≤ M ∧ 0 ≤ K ∧ K2 = K ∧ 1 ≤ C) ∧ K ≤ 65536 ∧ M.toNat * C.toNat ≤ 65536 ∧ M.toNat * K.toNat ≤ 65536 ∧ K.toNat * C.toNat ≤ 65536 ∧ a.length = M.toNat * K.toNat ∧ b.length = K.toNat * C.toNat)
def prdT : List AV → LHp → Tq
  | [.d ((.pair (.int .i64) (.pair (.int .i64) (.pair (.slice (.int .i64)) .unit)))) (M, K, a, ()), .d ((.pair (.int .i64) (.pair (.int .i64) (.pair (.slice (.int .i64)) .unit)))) (K2, C, b, ())], [] =>
    .br (prdOk M K K2 C a b) (.leaf (.ret [.os 0 0]) [(0, .arr 2 i64T 0 false (prodL M.toNat K.toNat C.toNat a b))]) .no
  | _, _ => .no
theorem prd_tree {M K K2 C : Int} {a b : List Int} (h : prdOk M K K2 C a b = true) :
    runC gPr Tryz.f70 6 [(3, [2, 3, 5, 6]), (6, [2, 3, 5, 6, 7])] [mxD M K a, mxD K2 C b] [] ah = some (.ret [.os 0 0], [(0, .arr 2 i64T 0 false (prodL M.toNat K.toNat C.toNat a b))]) := by
  have h0 := of_decide_eq_true h
  obtain ⟨⟨h1, h3, h4, h5⟩, h11, h12, h13, h14, h15, h16⟩ := h0
  clear h
  rw [h4]
  obtain ⟨m, rfl⟩ := Int.eq_ofNat_of_zero_le h1
  obtain ⟨k, rfl⟩ := Int.eq_ofNat_of_zero_le h3
  obtain ⟨c, rfl⟩ := Int.eq_ofNat_of_zero_le (show 0 ≤ C by omega)
  rw [Int.toNat_natCast, Int.toNat_natCast, Int.toNat_natCast]
  rw [Int.toNat_natCast, Int.toNat_natCast] at h12 h13 h14 h15 h16
  exact prd_run h12 h13 (by omega) h14 (by omega) h15 h16
theorem prdT_ok : FnE.OK e0.P e0.gam 70 (treeE prdT) := by
  have h1 : FnE.OK e0.P e0.gam 70 (execFnC gPr Tryz.f70 6 [(3, [2, 3, 5, 6]), (6, [2, 3, 5, 6, 7])]) := execFnC_ok gPr_good hmix Tryz.func70 Tryz.call70 (by decide +kernel) rfl
  refine ⟨fun _ _ _ => Tq.eq _ _, fun args hs ae hs' h => ?_⟩
  have h' : (prdT args hs).run ah = some (ae, hs') := h
  clear h
  unfold prdT at h'
  split at h'
  · obtain ⟨hb, h2⟩ := Tq.br_no h'
    cases h2
    exact h1.okC (prd_tree hb)
  · cases h'
end Go.Proofs.XGT
