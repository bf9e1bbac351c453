/- The law ConvOne answers true, whatever the tensor. -/
import Derived.Test.YtbijfcooljoogaaGreatDoorKC6
namespace Go.Proofs.XGT
open Go.Vm Go
set_option maxRecDepth 100000
set_option maxHeartbeats 4000000
theorem count_ok {xs : List Int} (h : countE xs = 0) : (∀ x ∈ xs, 1 ≤ x) ∧ xs.length ≤ 6 ∧ prodI xs ≤ 65536 ∧ countN xs = prodI xs := by
  unfold countE at h
  unfold countN
  cases h1 : decide (idxP (fun d => decide (d < 1)) xs ≥ 0) with
  | true => rw [h1] at h; exact absurd (show (4 : Int) = 0 from h) (by decide)
  | false =>
    rw [h1] at h
    cases h2 : decide (Int.ofNat xs.length > 6) with
    | true => rw [h2] at h; exact absurd (show (6 : Int) = 0 from h) (by decide)
    | false =>
      rw [h2] at h
      cases h3 : bigI xs with
      | true => rw [h3] at h; exact absurd (show (6 : Int) = 0 from h) (by decide)
      | false =>
        refine ⟨fun x hx => ?_, ?_, ?_, rfl⟩
        · rw [idxP_ge, List.any_eq_false] at h1
          have := h1 x hx
          simp only [decide_eq_true_eq] at this
          omega
        · have := of_decide_eq_false h2
          have e : Int.ofNat xs.length = (xs.length : Int) := rfl
          omega
        · have := of_decide_eq_false h3
          omega
theorem ten_ok {t : Int} {xd dt : List Int} (h : tenE t xd dt = 0) : numOk t 0 = true ∧ countE xd = 0 ∧ (dt.length : Int) = countN xd ∧ ∀ x ∈ dt, numOk t x = true := by
  unfold tenE at h
  cases h1 : numOk t 0 with
  | false => rw [h1] at h; exact absurd (show (5 : Int) = 0 from h) (by decide)
  | true =>
    rw [h1] at h
    cases h2 : countE xd != 0 with
    | true =>
      rw [h2] at h
      have h' : countE xd = 0 := h
      rw [h'] at h2
      exact absurd h2 (by decide)
    | false =>
      rw [h2] at h
      cases h3 : Int.ofNat dt.length != countN xd with
      | true => rw [h3] at h; exact absurd (show (4 : Int) = 0 from h) (by decide)
      | false =>
        rw [h3] at h
        cases h4 : dt.any (fun x => !numOk t x) with
        | true => rw [h4] at h; exact absurd (show (4 : Int) = 0 from h) (by decide)
        | false =>
          refine ⟨rfl, by simpa using h2, by simpa using h3, fun x hx => ?_⟩
          rw [List.any_eq_false] at h4
          simpa using h4 x hx
theorem four {xs : List Int} (h : xs.length = 4) : ∃ a b c d, xs = [a, b, c, d] := by
  match xs, h with
  | [a, b, c, d], _ => exact ⟨a, b, c, d, rfl⟩
theorem mul_le_self {a b : Int} (ha : 1 ≤ a) (hb : 1 ≤ b) : a ≤ a * b ∧ b ≤ a * b ∧ 1 ≤ a * b := by
  have h1 := Int.mul_le_mul_of_nonneg_left hb (show 0 ≤ a by omega)
  have h2 := Int.mul_le_mul_of_nonneg_right ha (show 0 ≤ b by omega)
  rw [Int.mul_one] at h1
  rw [Int.one_mul] at h2
  exact ⟨h1, h2, by omega⟩
structure Four (a b c d : Int) : Prop where
  a1 : 1 ≤ a
  b1 : 1 ≤ b
  c1 : 1 ≤ c
  d1 : 1 ≤ d
  ab : 1 ≤ a * b ∧ a * b ≤ 65536
  cd : 1 ≤ c * d ∧ c * d ≤ 65536
  all : a * b * (c * d) ≤ 65536
  c2 : c ≤ 65536
  d2 : d ≤ 65536
theorem four_ok {a b c d : Int} (h : countE [a, b, c, d] = 0) : Four a b c d ∧ countN [a, b, c, d] = a * b * (c * d) := by
  obtain ⟨h1, _, h3, h4⟩ := count_ok h
  have ha := h1 a (by simp)
  have hb := h1 b (by simp)
  have hc := h1 c (by simp)
  have hd := h1 d (by simp)
  have e : prodI [a, b, c, d] = a * b * (c * d) := by
    show 1 * a * b * c * d = _
    rw [Int.one_mul, Int.mul_assoc (a * b) c d]
  rw [e] at h3 h4
  obtain ⟨g1, g2, g3⟩ := mul_le_self ha hb
  obtain ⟨k1, k2, k3⟩ := mul_le_self hc hd
  obtain ⟨l1, l2, l3⟩ := mul_le_self g3 k3
  exact ⟨⟨ha, hb, hc, hd, ⟨g3, by omega⟩, ⟨k3, by omega⟩, h3, by omega, by omega⟩, h4⟩
theorem w1 {c : Int} (h1 : 1 ≤ c) (h2 : c ≤ 65536) : IntKind.i64.wrap (IntKind.i64.wrap (IntKind.i64.wrap (IntKind.i64.wrap (c + 0) + 0) - 0) - 1) = c - 1 := by
  have h : IntKind.i64.wrap c = c := wrap64 (by omega) (by omega)
  simp only [Int.add_zero, h, Int.sub_zero]
  exact wrap64 (by omega) (by omega)
theorem w2 {c : Int} (h1 : 1 ≤ c) (h2 : c ≤ 65536) : IntKind.i64.wrap (IntKind.i64.wrap ((c - 1).tdiv 1) + 1) = c := by
  have h : IntKind.i64.wrap (c - 1) = c - 1 := wrap64 (by omega) (by omega)
  have h' : IntKind.i64.wrap c = c := wrap64 (by omega) (by omega)
  rw [Int.tdiv_one, h, Int.sub_add_cancel, h']
theorem law_true (t : Int) (xd dt : List Int) (h1 : xd.length ≤ maxLen) (h2 : dt.length ≤ maxLen) : runC gL Tryz.f4 6 [] [.d (Y0) (t, xd, dt, ())] [] ah = some (.ret [B true], []) := by
  rw [law_eq]
  cases decide (Int.ofNat dt.length > 600) with
  | true => rfl
  | false =>
    rw [decide_eq_true (show xd.length ≤ 9223372036854775807 ∧ dt.length ≤ 9223372036854775807 from ⟨h1, h2⟩), decide_eq_true (show xd.length ≤ 9223372036854775807 from h1)]
    simp only [cond_true, cond_false]
    cases ht : tenE t xd dt != 0 with
    | true => rfl
    | false =>
      obtain ⟨n0, n1, n2, n3⟩ := ten_ok (by simpa using ht)
      rw [n0, n1]
      simp only [Bool.not_true, cond_false, bne_self_eq_false]
      cases h6 : t == 6 with
      | true =>
        have : t = 6 := by simpa using h6
        subst this
        rfl
      | false =>
        simp only [cond_false]
        cases t != 1 with
        | true => rfl
        | false =>
          simp only [cond_false]
          cases hl : !Int.ofNat xd.length == 4 with
          | true => rfl
          | false =>
            simp only [cond_false]
            obtain ⟨a, b, c, d, rfl⟩ := four (xs := xd) (by
              have : Int.ofNat xd.length = 4 := by simpa using hl
              have e : Int.ofNat xd.length = (xd.length : Int) := rfl
              omega)
            obtain ⟨f, hN⟩ := four_ok n1
            rw [hN] at n2
            have i0 : idx [a, b, c, d] 0 = some a := rfl
            have i1 : idx [a, b, c, d] 1 = some b := rfl
            have i2 : idx [a, b, c, d] 2 = some c := rfl
            have i3 : idx [a, b, c, d] 3 = some d := rfl
            have wab : IntKind.i64.wrap (a * b) = a * b := wrap64 (by have := f.ab; omega) (by have := f.ab; omega)
            have wcd : IntKind.i64.wrap (c * d) = c * d := wrap64 (by have := f.cd; omega) (by have := f.cd; omega)
            have := f.c1
            have := f.d1
            simp only [i0, i1, i2, i3, Option.bind_some, w1 f.c1 f.c2, w1 f.d1 f.d2, w2 f.c1 f.c2, w2 f.d1 f.d2, n1, bne_self_eq_false, wab, wcd, decide_eq_true (show c - 1 ≥ 0 by omega), decide_eq_true (show d - 1 ≥ 0 by omega), Bool.not_true, cond_false]
            rw [decide_eq_true (show 1 ≤ c ∧ 1 ≤ d ∧ 1 ≤ a * b ∧ True ∧ Int.ofNat dt.length = a * b * (c * d) ∧ a * b * (c * d) ≤ 65536 ∧ True ∧ True from ⟨f.c1, f.d1, f.ab.1, trivial, n2, f.all, trivial, trivial⟩),
              decide_eq_true (show 4 ≤ 9223372036854775807 ∧ dt.length ≤ 9223372036854775807 ∧ True ∧ True ∧ True from ⟨by decide, h2, trivial, trivial, trivial⟩)]
            rfl
theorem law_call (t : Int) (xd dt : List Int) (h1 : xd.length ≤ maxLen) (h2 : dt.length ≤ maxLen) : FnH Tryz.prog (Env.gam e0) 4 [.d (Y0) (t, xd, dt, ())] (hget []) (fun ae h1 => ae = .ret [B true] ∧ h1 = hget []) :=
  runC_call gL_good hmix Tryz.func4 Tryz.call4 (by decide +kernel) rfl (law_true t xd dt h1 h2)
end Go.Proofs.XGT
