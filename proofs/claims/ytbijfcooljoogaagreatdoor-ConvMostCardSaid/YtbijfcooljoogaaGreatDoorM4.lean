/- the anchor of layer 13: its answer. -/
import Derived.Test.YtbijfcooljoogaaGreatDoorGUm
import Derived.Test.YtbijfcooljoogaaGreatDoorM3

namespace Go.Proofs.XGT
open Go.Vm Go
set_option maxRecDepth 100000
set_option maxHeartbeats 4000000
/-! ### the anchor -/
noncomputable def C_live : Code := codeOf Tryz.f16
noncomputable def cf_live : Cfg := ⟨65, 7, 0, [], true⟩
theorem live_run : runC g168 Tryz.f16 7 [] [] [] ah = some (.ret [B true], []) := by kernel_rfl
def liveF : List AV → LHp → Option (AEnd × LHp)
  | [], [] => some (.ret [B true], [])
  | _, _ => none
theorem liveE_ok : FnE.OK e0.P e0.gam 16 (fnE liveF) := by
  have h1 : FnE.OK e0.P e0.gam 16 (execFnC g168 Tryz.f16 7 []) := y16_ok
  refine ⟨fun args hs k => ?_, fun args hs ae hs' h => ?_⟩
  · simp only [fnE]
    cases liveF args hs <;> rfl
  · have h' : (liveF args hs).bind (fun p => ah p.1 p.2) = some (ae, hs') := h
    unfold liveF at h'
    split at h'
    · cases h'
      exact h1.okC live_run
    · cases h'

end Go.Proofs.XGT
/- numbers of dims, told. -/
namespace Go.Proofs.XGT
open Go.Vm Go
set_option maxRecDepth 100000
set_option maxHeartbeats 4000000
theorem count_ok {xs : List Int} (h : countE xs = 0) : (∀ x ∈ xs, 1 ≤ x) ∧ xs.length ≤ 6 ∧ prodI xs ≤ 65536 ∧ countN xs = prodI xs := by
  unfold countE at h
  unfold countN
  cases h1 : decide (idxP (fun d => decide (d < 1)) xs ≥ 0) with
  | true => rw [h1] at h; exact absurd (show (4 : Int) = 0 from h) (by decide)
  | false =>
    rw [h1] at h
    cases h2 : decide (Int.ofNat xs.length > 6) with
    | true => rw [h2] at h; exact absurd (show (6 : Int) = 0 from h) (by decide)
    | false =>
      rw [h2] at h
      cases h3 : bigI xs with
      | true => rw [h3] at h; exact absurd (show (6 : Int) = 0 from h) (by decide)
      | false =>
        refine ⟨fun x hx => ?_, ?_, ?_, rfl⟩
        · rw [idxP_ge, List.any_eq_false] at h1
          have := h1 x hx
          simp only [decide_eq_true_eq] at this
          omega
        · have := of_decide_eq_false h2
          have e : Int.ofNat xs.length = (xs.length : Int) := rfl
          omega
        · have := of_decide_eq_false h3
          omega
theorem ten_ok {t : Int} {xd dt : List Int} (h : tenE t xd dt = 0) : numOk t 0 = true ∧ countE xd = 0 ∧ (dt.length : Int) = countN xd ∧ ∀ x ∈ dt, numOk t x = true := by
  unfold tenE at h
  cases h1 : numOk t 0 with
  | false => rw [h1] at h; exact absurd (show (5 : Int) = 0 from h) (by decide)
  | true =>
    rw [h1] at h
    cases h2 : countE xd != 0 with
    | true =>
      rw [h2] at h
      have h' : countE xd = 0 := h
      rw [h'] at h2
      exact absurd h2 (by decide)
    | false =>
      rw [h2] at h
      cases h3 : Int.ofNat dt.length != countN xd with
      | true => rw [h3] at h; exact absurd (show (4 : Int) = 0 from h) (by decide)
      | false =>
        rw [h3] at h
        cases h4 : dt.any (fun x => !numOk t x) with
        | true => rw [h4] at h; exact absurd (show (4 : Int) = 0 from h) (by decide)
        | false =>
          refine ⟨rfl, by simpa using h2, by simpa using h3, fun x hx => ?_⟩
          rw [List.any_eq_false] at h4
          simpa using h4 x hx
theorem four {xs : List Int} (h : xs.length = 4) : ∃ a b c d, xs = [a, b, c, d] := by
  match xs, h with
  | [a, b, c, d], _ => exact ⟨a, b, c, d, rfl⟩
theorem mul_le_self {a b : Int} (ha : 1 ≤ a) (hb : 1 ≤ b) : a ≤ a * b ∧ b ≤ a * b ∧ 1 ≤ a * b := by
  have h1 := Int.mul_le_mul_of_nonneg_left hb (show 0 ≤ a by omega)
  have h2 := Int.mul_le_mul_of_nonneg_right ha (show 0 ≤ b by omega)
  rw [Int.mul_one] at h1
  rw [Int.one_mul] at h2
  exact ⟨h1, h2, by omega⟩
structure Four (a b c d : Int) : Prop where
  a1 : 1 ≤ a
  b1 : 1 ≤ b
  c1 : 1 ≤ c
  d1 : 1 ≤ d
  ab : 1 ≤ a * b ∧ a * b ≤ 65536
  cd : 1 ≤ c * d ∧ c * d ≤ 65536
  all : a * b * (c * d) ≤ 65536
  c2 : c ≤ 65536
  d2 : d ≤ 65536
theorem four_ok {a b c d : Int} (h : countE [a, b, c, d] = 0) : Four a b c d ∧ countN [a, b, c, d] = a * b * (c * d) := by
  obtain ⟨h1, _, h3, h4⟩ := count_ok h
  have ha := h1 a (by simp)
  have hb := h1 b (by simp)
  have hc := h1 c (by simp)
  have hd := h1 d (by simp)
  have e : prodI [a, b, c, d] = a * b * (c * d) := by
    show 1 * a * b * c * d = _
    rw [Int.one_mul, Int.mul_assoc (a * b) c d]
  rw [e] at h3 h4
  obtain ⟨g1, g2, g3⟩ := mul_le_self ha hb
  obtain ⟨k1, k2, k3⟩ := mul_le_self hc hd
  obtain ⟨l1, l2, l3⟩ := mul_le_self g3 k3
  exact ⟨⟨ha, hb, hc, hd, ⟨g3, by omega⟩, ⟨k3, by omega⟩, h3, by omega, by omega⟩, h4⟩
end Go.Proofs.XGT
/- SameTensor of two tensors that have just been made, where they are the same. -/
namespace Go.Proofs.XGT
open Go.Vm Go
set_option maxRecDepth 100000
set_option maxHeartbeats 4000000
/-- a loop that goes through a list -/
theorem allP_lp {R S α : Type} {T : Nat → S → Option R} {xs : List α} {st : Int → S} {r : Option R} (hl : xs.length ≤ maxLen)
    (h : ∀ (i : Nat) (x : α), xs[i]? = some x → idx xs (i : Int) = some x → i < xs.length → ∀ n, T (n + 1) (st (i : Nat)) = T n (st (IntKind.i64.wrap ((i : Int) + 1)))) (he : ∀ n, T (n + 1) (st (Int.ofNat xs.length)) = r) : T fu (st 0) = r := by
  have hm : maxLen = 9223372036854775807 := by decide
  have hf : fu = 18446744073709551616 := rfl
  have := lp_to (T := T) (f := fun i : Nat => st (i : Int)) xs.length fu (by omega) (fun i hi n => by
    have hx : xs[i]? = some xs[i] := List.getElem?_eq_getElem hi
    rw [h i _ hx (by unfold idx; rw [if_pos (by omega), Int.toNat_natCast, hx]) hi n, wrap64 (by omega) (by omega)]
    rfl)
  refine Eq.trans this ?_
  obtain ⟨m', hm'⟩ : ∃ m', fu - xs.length = m' + 1 := ⟨fu - xs.length - 1, by omega⟩
  rw [hm']
  exact he m'
noncomputable def C_samp : Code := codeOf Tryz.f33
noncomputable def cf_samp : Cfg := ⟨26, 5, 2, [(4, [0, 1, 5])], true⟩
theorem samp_eqH (hl : Hl) (xs : List Int) : runH g169 Tryz.f33 5 [(4, [0, 1, 5])] [4] hl [.os 1 0, .os 0 0] [(0, .arr 3 i64T 0 false xs), (1, .arr 3 i64T 0 false xs)] ah =
  bif Int.ofNat xs.length != Int.ofNat xs.length then some (AEnd.ret [B false], [(0, AObj.arr 3 (i64T) 0 false xs), (1, AObj.arr 3 (i64T) 0 false xs)])
  else hl (cL (cL (cR (cL (cR (cR C_samp)))))) _ { fr := mkFr 5 [(0, AV.os 1 0), (1, AV.os 0 0), (5, I 0)], hp := [(0, AObj.arr 3 (i64T) 0 false xs), (1, AObj.arr 3 (i64T) 0 false xs)], nx := 4 } (blkK 0 (seqH g169 cf_samp [4] hl (cR (cR (cR C_samp))) (endC Tryz.prog 2 Tryz.f33.results.toList ah))) := by kernel_rfl
theorem samp_eq (xs : List Int) : runC g169 Tryz.f33 5 [(4, [0, 1, 5])] [.os 1 0, .os 0 0] [(0, .arr 3 i64T 0 false xs), (1, .arr 3 i64T 0 false xs)] ah =
  bif Int.ofNat xs.length != Int.ofNat xs.length then some (AEnd.ret [B false], [(0, AObj.arr 3 (i64T) 0 false xs), (1, AObj.arr 3 (i64T) 0 false xs)])
  else (hlp g169 cf_samp) (cL (cL (cR (cL (cR (cR C_samp)))))) _ { fr := mkFr 5 [(0, AV.os 1 0), (1, AV.os 0 0), (5, I 0)], hp := [(0, AObj.arr 3 (i64T) 0 false xs), (1, AObj.arr 3 (i64T) 0 false xs)], nx := 4 } (blkK 0 (seqH g169 cf_samp [4] (hlp g169 cf_samp) (cR (cR (cR C_samp))) (endC Tryz.prog 2 Tryz.f33.results.toList ah))) := runH_runC.trans (samp_eqH (hlp g169 cf_samp) xs)
def stSP (xs : List Int) (i : Int) : LSt := ⟨mkFr 5 [(0, .os 1 0), (1, .os 0 0), (5, I i)], [(0, .arr 3 i64T 0 false xs), (1, .arr 3 i64T 0 false xs)], 4⟩
theorem samp_stepH (hl : Hl) (xs : List Int) (i : Int) (n : Nat) {R : Type} (k : AEx → LSt → Option R) : lpH g169 cf_samp [4] hl (cL (cL (cR (cL (cR (cR C_samp)))))) (n + 1) (stSP xs i) k =
  bif decide (i < Int.ofNat xs.length) then (idx xs i).bind fun v1 =>
      (xs[i.toNat]?).bind fun v2 =>
        (idx xs i).bind fun v3 =>
          (xs[i.toNat]?).bind fun v4 =>
            bif v2 != v4 then k AEx.ret { fr := mkFr 5 [(0, AV.os 1 0), (1, AV.os 0 0), (4, B false), (5, I i), (11, I i), (12, AV.os 1 0), (13, I (Int.ofNat xs.length)), (14, B true), (17, AV.os 1 0), (18, I i), (19, AV.oe 1 0 i.toNat), (20, I v2), (21, AV.os 0 0), (22, I i), (23, AV.oe 0 0 i.toNat), (24, I v4), (25, B true)], hp := [(0, AObj.arr 3 (i64T) 0 false xs), (1, AObj.arr 3 (i64T) 0 false xs)], nx := 4 }
            else lpH g169 cf_samp [4] hl (cL (cL (cR (cL (cR (cR C_samp)))))) n { fr := mkFr 5 [(0, AV.os 1 0), (1, AV.os 0 0), (5, I (IntKind.i64.wrap (i + 1)))], hp := [(0, AObj.arr 3 (i64T) 0 false xs), (1, AObj.arr 3 (i64T) 0 false xs)], nx := 4 } k
  else k (AEx.exit 0) { fr := mkFr 5 [(0, AV.os 1 0), (1, AV.os 0 0), (5, I i), (11, I i), (12, AV.os 1 0), (13, I (Int.ofNat xs.length)), (14, B false)], hp := [(0, AObj.arr 3 (i64T) 0 false xs), (1, AObj.arr 3 (i64T) 0 false xs)], nx := 4 } := by kernel_rfl
theorem samp_step (xs : List Int) (i : Int) (n : Nat) {R : Type} (k : AEx → LSt → Option R) : lp g169 cf_samp (cL (cL (cR (cL (cR (cR C_samp)))))) (n + 1) (stSP xs i) k =
  bif decide (i < Int.ofNat xs.length) then (idx xs i).bind fun v1 =>
      (xs[i.toNat]?).bind fun v2 =>
        (idx xs i).bind fun v3 =>
          (xs[i.toNat]?).bind fun v4 =>
            bif v2 != v4 then k AEx.ret { fr := mkFr 5 [(0, AV.os 1 0), (1, AV.os 0 0), (4, B false), (5, I i), (11, I i), (12, AV.os 1 0), (13, I (Int.ofNat xs.length)), (14, B true), (17, AV.os 1 0), (18, I i), (19, AV.oe 1 0 i.toNat), (20, I v2), (21, AV.os 0 0), (22, I i), (23, AV.oe 0 0 i.toNat), (24, I v4), (25, B true)], hp := [(0, AObj.arr 3 (i64T) 0 false xs), (1, AObj.arr 3 (i64T) 0 false xs)], nx := 4 }
            else lp g169 cf_samp (cL (cL (cR (cL (cR (cR C_samp)))))) n { fr := mkFr 5 [(0, AV.os 1 0), (1, AV.os 0 0), (5, I (IntKind.i64.wrap (i + 1)))], hp := [(0, AObj.arr 3 (i64T) 0 false xs), (1, AObj.arr 3 (i64T) 0 false xs)], nx := 4 } k
  else k (AEx.exit 0) { fr := mkFr 5 [(0, AV.os 1 0), (1, AV.os 0 0), (5, I i), (11, I i), (12, AV.os 1 0), (13, I (Int.ofNat xs.length)), (14, B false)], hp := [(0, AObj.arr 3 (i64T) 0 false xs), (1, AObj.arr 3 (i64T) 0 false xs)], nx := 4 } := by
  have h := samp_stepH (hlp g169 cf_samp) xs i n k
  simp only [lpH_lp] at h
  exact h
noncomputable def SPK0 : AEx → LSt → Option (AEnd × LHp) := (blkK 0 (seqH g169 cf_samp [4] (hlp g169 cf_samp) (cR (cR (cR C_samp))) (endC Tryz.prog 2 Tryz.f33.results.toList ah)))
theorem samp_lp (xs : List Int) : runC g169 Tryz.f33 5 [(4, [0, 1, 5])] [.os 1 0, .os 0 0] [(0, .arr 3 i64T 0 false xs), (1, .arr 3 i64T 0 false xs)] ah = lp g169 cf_samp (cL (cL (cR (cL (cR (cR C_samp)))))) fu (stSP xs 0) SPK0 := (samp_eq xs).trans (by rw [bne_self_eq_false, cond_false]; kernel_rfl)
theorem SPK0_exit (xs : List Int) (i : Int) : SPK0 (AEx.exit 0) { fr := mkFr 5 [(0, AV.os 1 0), (1, AV.os 0 0), (5, I i), (11, I i), (12, AV.os 1 0), (13, I (Int.ofNat xs.length)), (14, B false)], hp := [(0, AObj.arr 3 i64T 0 false xs), (1, AObj.arr 3 i64T 0 false xs)], nx := 4 } = some (.ret [B true], [(0, .arr 3 i64T 0 false xs), (1, .arr 3 i64T 0 false xs)]) := by kernel_rfl
theorem samp_run (xs : List Int) (hl : xs.length ≤ maxLen) : runC g169 Tryz.f33 5 [(4, [0, 1, 5])] [.os 1 0, .os 0 0] [(0, .arr 3 i64T 0 false xs), (1, .arr 3 i64T 0 false xs)] ah = some (.ret [B true], [(0, .arr 3 i64T 0 false xs), (1, .arr 3 i64T 0 false xs)]) := by
  rw [samp_lp]
  exact allP_lp (T := fun n s => lp g169 cf_samp (cL (cL (cR (cL (cR (cR C_samp)))))) n s SPK0) (xs := xs) (st := stSP xs) (r := some (.ret [B true], [(0, .arr 3 i64T 0 false xs), (1, .arr 3 i64T 0 false xs)])) hl (fun i x hx hi hlt n => by
    rw [samp_step, decide_eq_true (show (i : Int) < Int.ofNat xs.length from Int.ofNat_lt.2 hlt), hi, show xs[(i : Int).toNat]? = some x from hx]
    simp only [cond_true, Option.bind_some, bne_self_eq_false, cond_false]
    rfl) (fun n => by
    rw [samp_step, decide_eq_false (show ¬ (Int.ofNat xs.length < Int.ofNat xs.length) from Int.lt_irrefl _)]
    exact SPK0_exit _ _)
def sampF : List AV → LHp → Tq
  | [.os 1 0, .os 0 0], [(0, .arr 3 (.int .i64) 0 false ys), (1, .arr 3 (.int .i64) 0 false xs)] => .br (decide (xs.length ≤ maxLen ∧ xs = ys)) (.leaf (.ret [B true]) [(0, .arr 3 i64T 0 false xs), (1, .arr 3 i64T 0 false xs)]) .no
  | _, _ => .no
theorem sampE_ok : FnE.OK e0.P e0.gam 33 (treeE sampF) := by
  have h1 : FnE.OK e0.P e0.gam 33 (execFnC g169 Tryz.f33 5 [(4, [0, 1, 5])]) := y33_ok
  refine ⟨fun _ _ _ => Tq.eq _ _, fun args hs ae hs' h => ?_⟩
  have h' : (sampF args hs).run ah = some (ae, hs') := h
  clear h
  unfold sampF at h'
  split at h'
  · obtain ⟨hb, h2⟩ := Tq.br_no h'
    clear h'
    obtain ⟨hl, he⟩ := of_decide_eq_true hb
    subst he
    cases h2
    exact h1.okC (samp_run _ hl)
  · cases h'
noncomputable def gSP : Env := g170.add 33 (treeE sampF)
theorem gSP_good : gSP.Good := g170_good.add sampE_ok
noncomputable def C_satp : Code := codeOf Tryz.f18
noncomputable def cf_satp : Cfg := ⟨46, 6, 4, [(4, [2, 3, 5])], true⟩
def hpSP (xd dt : List Int) : LHp := [(0, .arr 2 i64T 0 false dt), (1, .arr 3 i64T 0 false xd), (2, .arr 2 i64T 0 false dt), (3, .arr 3 i64T 0 false xd)]
def tenP (t : Int) (a b : Nat) : AV := .pr (I t) (.pr (.os a 0) (.pr (.os b 0) (.d .unit ())))
theorem satp_eqH (hl : Hl) (t : Int) (xd dt : List Int) : runH gSP Tryz.f18 6 [(4, [2, 3, 5])] [4] hl [tenP t 3 2, tenP t 1 0] (hpSP xd dt) ah =
  bif t != t then some (AEnd.ret [B false], [(0, AObj.arr 2 (i64T) 0 false dt), (1, AObj.arr 3 (i64T) 0 false xd), (2, AObj.arr 2 (i64T) 0 false dt), (3, AObj.arr 3 (i64T) 0 false xd)])
  else 
    bif decide (xd.length ≤ 9223372036854775807 ∧ xd = xd) then 
      bif Int.ofNat dt.length != Int.ofNat dt.length then some (AEnd.ret [B false], [(0, AObj.arr 2 (i64T) 0 false dt), (1, AObj.arr 3 (i64T) 0 false xd), (2, AObj.arr 2 (i64T) 0 false dt), (3, AObj.arr 3 (i64T) 0 false xd)])
      else hl (cL (cL (cR (cL (cR (cR C_satp)))))) _ { fr := mkFr 6 [(2, AV.op 4 [] 0), (3, AV.op 5 [] 0), (5, I 0)], hp := [(0, AObj.arr 2 (i64T) 0 false dt), (1, AObj.arr 3 (i64T) 0 false xd), (2, AObj.arr 2 (i64T) 0 false dt), (3, AObj.arr 3 (i64T) 0 false xd), (4, AObj.box ((I t).pr ((AV.os 3 0).pr ((AV.os 2 0).pr (AV.d Ty.unit PUnit.unit))))), (5, AObj.box ((I t).pr ((AV.os 1 0).pr ((AV.os 0 0).pr (AV.d Ty.unit PUnit.unit)))))], nx := 10 } (blkK 0 (seqH gSP cf_satp [4] hl (cR (cR (cR C_satp))) (endC Tryz.prog 4 Tryz.f18.results.toList ah)))
    else none := by kernel_rfl
theorem satp_eq (t : Int) (xd dt : List Int) : runC gSP Tryz.f18 6 [(4, [2, 3, 5])] [tenP t 3 2, tenP t 1 0] (hpSP xd dt) ah =
  bif t != t then some (AEnd.ret [B false], [(0, AObj.arr 2 (i64T) 0 false dt), (1, AObj.arr 3 (i64T) 0 false xd), (2, AObj.arr 2 (i64T) 0 false dt), (3, AObj.arr 3 (i64T) 0 false xd)])
  else 
    bif decide (xd.length ≤ 9223372036854775807 ∧ xd = xd) then 
      bif Int.ofNat dt.length != Int.ofNat dt.length then some (AEnd.ret [B false], [(0, AObj.arr 2 (i64T) 0 false dt), (1, AObj.arr 3 (i64T) 0 false xd), (2, AObj.arr 2 (i64T) 0 false dt), (3, AObj.arr 3 (i64T) 0 false xd)])
      else (hlp gSP cf_satp) (cL (cL (cR (cL (cR (cR C_satp)))))) _ { fr := mkFr 6 [(2, AV.op 4 [] 0), (3, AV.op 5 [] 0), (5, I 0)], hp := [(0, AObj.arr 2 (i64T) 0 false dt), (1, AObj.arr 3 (i64T) 0 false xd), (2, AObj.arr 2 (i64T) 0 false dt), (3, AObj.arr 3 (i64T) 0 false xd), (4, AObj.box ((I t).pr ((AV.os 3 0).pr ((AV.os 2 0).pr (AV.d Ty.unit PUnit.unit))))), (5, AObj.box ((I t).pr ((AV.os 1 0).pr ((AV.os 0 0).pr (AV.d Ty.unit PUnit.unit)))))], nx := 10 } (blkK 0 (seqH gSP cf_satp [4] (hlp gSP cf_satp) (cR (cR (cR C_satp))) (endC Tryz.prog 4 Tryz.f18.results.toList ah)))
    else none := runH_runC.trans (satp_eqH (hlp gSP cf_satp) t xd dt)
def stTP (t : Int) (xd dt : List Int) (i : Int) : LSt := ⟨mkFr 6 [(2, .op 4 [] 0), (3, .op 5 [] 0), (5, I i)], hpSP xd dt ++ [(4, .box (tenP t 3 2)), (5, .box (tenP t 1 0))], 10⟩
theorem satp_stepH (hl : Hl) (t : Int) (xd dt : List Int) (i : Int) (n : Nat) {R : Type} (k : AEx → LSt → Option R) : lpH gSP cf_satp [4] hl (cL (cL (cR (cL (cR (cR C_satp)))))) (n + 1) (stTP t xd dt i) k =
  bif decide (i < Int.ofNat dt.length) then (idx dt i).bind fun v1 =>
      (dt[i.toNat]?).bind fun v2 =>
        (idx dt i).bind fun v3 =>
          (dt[i.toNat]?).bind fun v4 =>
            bif v2 != v4 then k AEx.ret { fr := mkFr 6 [(2, AV.op 4 [] 0), (3, AV.op 5 [] 0), (4, B false), (5, I i), (28, I i), (29, AV.op 4 [2] 2), (30, AV.os 2 0), (31, I (Int.ofNat dt.length)), (32, B true), (35, AV.op 4 [2] 2), (36, AV.os 2 0), (37, I i), (38, AV.oe 2 0 i.toNat), (39, I v2), (40, AV.op 5 [2] 2), (41, AV.os 0 0), (42, I i), (43, AV.oe 0 0 i.toNat), (44, I v4), (45, B true)], hp := [(0, AObj.arr 2 (i64T) 0 false dt), (1, AObj.arr 3 (i64T) 0 false xd), (2, AObj.arr 2 (i64T) 0 false dt), (3, AObj.arr 3 (i64T) 0 false xd), (4, AObj.box ((I t).pr ((AV.os 3 0).pr ((AV.os 2 0).pr (AV.d Ty.unit PUnit.unit))))), (5, AObj.box ((I t).pr ((AV.os 1 0).pr ((AV.os 0 0).pr (AV.d Ty.unit PUnit.unit)))))], nx := 10 }
            else lpH gSP cf_satp [4] hl (cL (cL (cR (cL (cR (cR C_satp)))))) n { fr := mkFr 6 [(2, AV.op 4 [] 0), (3, AV.op 5 [] 0), (5, I (IntKind.i64.wrap (i + 1)))], hp := [(0, AObj.arr 2 (i64T) 0 false dt), (1, AObj.arr 3 (i64T) 0 false xd), (2, AObj.arr 2 (i64T) 0 false dt), (3, AObj.arr 3 (i64T) 0 false xd), (4, AObj.box ((I t).pr ((AV.os 3 0).pr ((AV.os 2 0).pr (AV.d Ty.unit PUnit.unit))))), (5, AObj.box ((I t).pr ((AV.os 1 0).pr ((AV.os 0 0).pr (AV.d Ty.unit PUnit.unit)))))], nx := 10 } k
  else k (AEx.exit 0) { fr := mkFr 6 [(2, AV.op 4 [] 0), (3, AV.op 5 [] 0), (5, I i), (28, I i), (29, AV.op 4 [2] 2), (30, AV.os 2 0), (31, I (Int.ofNat dt.length)), (32, B false)], hp := [(0, AObj.arr 2 (i64T) 0 false dt), (1, AObj.arr 3 (i64T) 0 false xd), (2, AObj.arr 2 (i64T) 0 false dt), (3, AObj.arr 3 (i64T) 0 false xd), (4, AObj.box ((I t).pr ((AV.os 3 0).pr ((AV.os 2 0).pr (AV.d Ty.unit PUnit.unit))))), (5, AObj.box ((I t).pr ((AV.os 1 0).pr ((AV.os 0 0).pr (AV.d Ty.unit PUnit.unit)))))], nx := 10 } := by kernel_rfl
theorem satp_step (t : Int) (xd dt : List Int) (i : Int) (n : Nat) {R : Type} (k : AEx → LSt → Option R) : lp gSP cf_satp (cL (cL (cR (cL (cR (cR C_satp)))))) (n + 1) (stTP t xd dt i) k =
  bif decide (i < Int.ofNat dt.length) then (idx dt i).bind fun v1 =>
      (dt[i.toNat]?).bind fun v2 =>
        (idx dt i).bind fun v3 =>
          (dt[i.toNat]?).bind fun v4 =>
            bif v2 != v4 then k AEx.ret { fr := mkFr 6 [(2, AV.op 4 [] 0), (3, AV.op 5 [] 0), (4, B false), (5, I i), (28, I i), (29, AV.op 4 [2] 2), (30, AV.os 2 0), (31, I (Int.ofNat dt.length)), (32, B true), (35, AV.op 4 [2] 2), (36, AV.os 2 0), (37, I i), (38, AV.oe 2 0 i.toNat), (39, I v2), (40, AV.op 5 [2] 2), (41, AV.os 0 0), (42, I i), (43, AV.oe 0 0 i.toNat), (44, I v4), (45, B true)], hp := [(0, AObj.arr 2 (i64T) 0 false dt), (1, AObj.arr 3 (i64T) 0 false xd), (2, AObj.arr 2 (i64T) 0 false dt), (3, AObj.arr 3 (i64T) 0 false xd), (4, AObj.box ((I t).pr ((AV.os 3 0).pr ((AV.os 2 0).pr (AV.d Ty.unit PUnit.unit))))), (5, AObj.box ((I t).pr ((AV.os 1 0).pr ((AV.os 0 0).pr (AV.d Ty.unit PUnit.unit)))))], nx := 10 }
            else lp gSP cf_satp (cL (cL (cR (cL (cR (cR C_satp)))))) n { fr := mkFr 6 [(2, AV.op 4 [] 0), (3, AV.op 5 [] 0), (5, I (IntKind.i64.wrap (i + 1)))], hp := [(0, AObj.arr 2 (i64T) 0 false dt), (1, AObj.arr 3 (i64T) 0 false xd), (2, AObj.arr 2 (i64T) 0 false dt), (3, AObj.arr 3 (i64T) 0 false xd), (4, AObj.box ((I t).pr ((AV.os 3 0).pr ((AV.os 2 0).pr (AV.d Ty.unit PUnit.unit))))), (5, AObj.box ((I t).pr ((AV.os 1 0).pr ((AV.os 0 0).pr (AV.d Ty.unit PUnit.unit)))))], nx := 10 } k
  else k (AEx.exit 0) { fr := mkFr 6 [(2, AV.op 4 [] 0), (3, AV.op 5 [] 0), (5, I i), (28, I i), (29, AV.op 4 [2] 2), (30, AV.os 2 0), (31, I (Int.ofNat dt.length)), (32, B false)], hp := [(0, AObj.arr 2 (i64T) 0 false dt), (1, AObj.arr 3 (i64T) 0 false xd), (2, AObj.arr 2 (i64T) 0 false dt), (3, AObj.arr 3 (i64T) 0 false xd), (4, AObj.box ((I t).pr ((AV.os 3 0).pr ((AV.os 2 0).pr (AV.d Ty.unit PUnit.unit))))), (5, AObj.box ((I t).pr ((AV.os 1 0).pr ((AV.os 0 0).pr (AV.d Ty.unit PUnit.unit)))))], nx := 10 } := by
  have h := satp_stepH (hlp gSP cf_satp) t xd dt i n k
  simp only [lpH_lp] at h
  exact h
noncomputable def TPK0 : AEx → LSt → Option (AEnd × LHp) := (blkK 0 (seqH gSP cf_satp [4] (hlp gSP cf_satp) (cR (cR (cR C_satp))) (endC Tryz.prog 4 Tryz.f18.results.toList ah)))
theorem satp_lp (t : Int) (xd dt : List Int) (hl : xd.length ≤ maxLen) : runC gSP Tryz.f18 6 [(4, [2, 3, 5])] [tenP t 3 2, tenP t 1 0] (hpSP xd dt) ah = lp gSP cf_satp (cL (cL (cR (cL (cR (cR C_satp)))))) fu (stTP t xd dt 0) TPK0 := (satp_eq t xd dt).trans (by rw [bne_self_eq_false, bne_self_eq_false, decide_eq_true (show xd.length ≤ 9223372036854775807 ∧ xd = xd from ⟨hl, rfl⟩), cond_false, cond_false, cond_true]; kernel_rfl)
theorem TPK0_exit (t : Int) (xd dt : List Int) (i : Int) : TPK0 (AEx.exit 0) { fr := mkFr 6 [(2, AV.op 4 [] 0), (3, AV.op 5 [] 0), (5, I i), (28, I i), (29, AV.op 4 [2] 2), (30, AV.os 2 0), (31, I (Int.ofNat dt.length)), (32, B false)], hp := hpSP xd dt ++ [(4, .box (tenP t 3 2)), (5, .box (tenP t 1 0))], nx := 10 } = some (.ret [B true], hpSP xd dt) := by kernel_rfl
theorem satp_run (t : Int) (xd dt : List Int) (h1 : xd.length ≤ maxLen) (h2 : dt.length ≤ maxLen) : runC gSP Tryz.f18 6 [(4, [2, 3, 5])] [tenP t 3 2, tenP t 1 0] (hpSP xd dt) ah = some (.ret [B true], hpSP xd dt) := by
  rw [satp_lp t xd dt h1]
  exact allP_lp (T := fun n s => lp gSP cf_satp (cL (cL (cR (cL (cR (cR C_satp)))))) n s TPK0) (xs := dt) (st := stTP t xd dt) (r := some (.ret [B true], hpSP xd dt)) h2 (fun i x hx hi hlt n => by
    rw [satp_step, decide_eq_true (show (i : Int) < Int.ofNat dt.length from Int.ofNat_lt.2 hlt), hi, show dt[(i : Int).toNat]? = some x from hx]
    simp only [cond_true, Option.bind_some, bne_self_eq_false, cond_false]
    rfl) (fun n => by
    rw [satp_step, decide_eq_false (show ¬ (Int.ofNat dt.length < Int.ofNat dt.length) from Int.lt_irrefl _)]
    exact TPK0_exit _ _ _ _)
def satpF : List AV → LHp → Tq
  | [.pr (.d (.int .i64) t) (.pr (.os 3 0) (.pr (.os 2 0) (.d .unit ()))), .pr (.d (.int .i64) t2) (.pr (.os 1 0) (.pr (.os 0 0) (.d .unit ())))], [(0, .arr 2 (.int .i64) 0 false dt2), (1, .arr 3 (.int .i64) 0 false xd2), (2, .arr 2 (.int .i64) 0 false dt), (3, .arr 3 (.int .i64) 0 false xd)] =>
    .br (decide (xd.length ≤ maxLen ∧ dt.length ≤ maxLen ∧ t = t2 ∧ xd = xd2 ∧ dt = dt2)) (.leaf (.ret [B true]) (hpSP xd dt)) .no
  | _, _ => .no
theorem satpE_ok : FnE.OK e0.P e0.gam 18 (treeE satpF) := by
  have h1 : FnE.OK e0.P e0.gam 18 (execFnC gSP Tryz.f18 6 [(4, [2, 3, 5])]) := execFnC_ok gSP_good hmix Tryz.func18 Tryz.call18 (by decide +kernel) rfl
  refine ⟨fun _ _ _ => Tq.eq _ _, fun args hs ae hs' h => ?_⟩
  have h' : (satpF args hs).run ah = some (ae, hs') := h
  clear h
  unfold satpF at h'
  split at h'
  · obtain ⟨hb, h2⟩ := Tq.br_no h'
    clear h'
    obtain ⟨hl, hl2, he1, he2, he3⟩ := of_decide_eq_true hb
    subst he1 he2 he3
    cases h2
    exact h1.okC (satp_run _ _ _ hl hl2)
  · cases h'
end Go.Proofs.XGT
/- conv.Do of a GlobalAveragePool and of an AveragePool: their whole trees. -/
namespace Go.Proofs.XGT
open Go.Vm Go
set_option maxRecDepth 100000
set_option maxHeartbeats 4000000
noncomputable def C_dog : Code := codeOf Tryz.f17
noncomputable def cf_dog : Cfg := ⟨90, 7, 2, [], true⟩
def poolB (args : List AV) (hs : LHp) : Tq := orT (poolTA args hs) (poolTG args hs)
noncomputable def gD : Env := g167.add 31 (treeE poolB)
theorem gD_good : gD.Good := g167_good.add (treeE_or poolTA_ok poolTG_ok)
noncomputable def doE2 : FnE := execFnC gD Tryz.f17 7 []
theorem doE2_ok : FnE.OK e0.P e0.gam 17 doE2 := execFnC_ok gD_good hmix Tryz.func17 Tryz.call17 (by decide +kernel) rfl
def hpDG (z : Bool) (t : Int) (xd dt : List Int) : LHp := [(0, .arr 25 (Y0) 0 z [(t, xd, dt, ())]), (1, .arr 9 .str 0 false [[120]])]
def hpDA (z z2 : Bool) (t : Int) (xd dt l : List Int) : LHp := [(0, .arr 25 (Y0) 0 z [(t, xd, dt, ())]), (1, .arr 37 (Y1) 0 z2 [kattr l]), (2, .arr 9 .str 0 false [[120]])]
theorem dog_eq (t a b c d : Int) (dt : List Int) : runC gD Tryz.f17 7 [] [nodeA strGAP [] [122] (.os 1 0) .nils, .os 0 0] (hpDG false t [a, b, c, d] dt) ah =
  bif decide (4 ≤ 9223372036854775807 ∧ dt.length ≤ 9223372036854775807) then 
    bif tenE t [a, b, c, d] dt != 0 then some (AEnd.ret [(I 0).pr (AV.nils.pr (AV.nils.pr (AV.d Ty.unit PUnit.unit))), I 1], [(0, AObj.arr 25 ((i64T).pair ((i64T).slice.pair ((i64T).slice.pair Ty.unit))) 0 false [(t, [a, b, c, d], dt, PUnit.unit)]), (1, AObj.arr 9 Ty.str 0 false [[120]])])
    else 
      bif !numOk t 0 then some (AEnd.ret [(I 0).pr (AV.nils.pr (AV.nils.pr (AV.d Ty.unit PUnit.unit))), I 5], [(0, AObj.arr 25 ((i64T).pair ((i64T).slice.pair ((i64T).slice.pair Ty.unit))) 0 false [(t, [a, b, c, d], dt, PUnit.unit)]), (1, AObj.arr 9 Ty.str 0 false [[120]])])
      else 
        bif countE [a, b, c, d] != 0 then 
          bif countE [a, b, c, d] != 0 then some (AEnd.ret [(I 0).pr (AV.nils.pr (AV.nils.pr (AV.d Ty.unit PUnit.unit))), I (countE [a, b, c, d])], [(0, AObj.arr 25 ((i64T).pair ((i64T).slice.pair ((i64T).slice.pair Ty.unit))) 0 false [(t, [a, b, c, d], dt, PUnit.unit)]), (1, AObj.arr 9 Ty.str 0 false [[120]])])
          else none
        else 
          bif t == 6 then 
            bif t != 1 then some (AEnd.ret [(I 0).pr (AV.nils.pr (AV.nils.pr (AV.d Ty.unit PUnit.unit))), I 4], [(0, AObj.arr 25 ((i64T).pair ((i64T).slice.pair ((i64T).slice.pair Ty.unit))) 0 false [(t, [a, b, c, d], dt, PUnit.unit)]), (1, AObj.arr 9 Ty.str 0 false [[120]])])
            else 
              bif countE [a, b, 1, 1] != 0 then 
                bif countE [a, b, 1, 1] != 0 then some (AEnd.ret [(I 0).pr (AV.nils.pr (AV.nils.pr (AV.d Ty.unit PUnit.unit))), I (countE [a, b, 1, 1])], [(0, AObj.arr 25 ((i64T).pair ((i64T).slice.pair ((i64T).slice.pair Ty.unit))) 0 false [(t, [a, b, c, d], dt, PUnit.unit)]), (1, AObj.arr 9 Ty.str 0 false [[120]])])
                else none
              else 
                bif decide (1 ≤ c ∧ 1 ≤ d ∧ 1 ≤ IntKind.i64.wrap (a * b) ∧ 0 ≤ c ∧ 0 ≤ d ∧ IntKind.i64.wrap (c * d) = c * d ∧ Int.ofNat dt.length = IntKind.i64.wrap (a * b) * (c * d) ∧ IntKind.i64.wrap (a * b) * (c * d) ≤ 65536 ∧ (1 : Int) ≤ 1 ∧ (1 : Int) ≤ 1 ∧ 1 + c ≤ c + 1 ∧ 1 + d ≤ d + 1 ∧ IntKind.i64.wrap (a * b) * 1 ≤ 65536) then some (AEnd.ret [(I t).pr ((AV.os 2 0).pr ((AV.os 3 0).pr (AV.d Ty.unit PUnit.unit))), I 0], [(0, AObj.arr 25 ((i64T).pair ((i64T).slice.pair ((i64T).slice.pair Ty.unit))) 0 true [(t, [a, b, c, d], dt, PUnit.unit)]), (1, AObj.arr 9 Ty.str 0 false [[120]]), (2, AObj.arr 3 (i64T) 0 false [a, b, 1, 1]), (3, AObj.arr 2 (i64T) 0 false (poolL [71, 108, 111, 98, 97, 108, 65, 118, 101, 114, 97, 103, 101, 80, 111, 111, 108] dt (IntKind.i64.wrap (a * b)).toNat (Int.toNat (c * d)) d.toNat c.toNat d.toNat 1 1))])
                else none
          else 
            bif t != 1 then some (AEnd.ret [(I 0).pr (AV.nils.pr (AV.nils.pr (AV.d Ty.unit PUnit.unit))), I 4], [(0, AObj.arr 25 ((i64T).pair ((i64T).slice.pair ((i64T).slice.pair Ty.unit))) 0 false [(t, [a, b, c, d], dt, PUnit.unit)]), (1, AObj.arr 9 Ty.str 0 false [[120]])])
            else 
              bif countE [a, b, 1, 1] != 0 then 
                bif countE [a, b, 1, 1] != 0 then some (AEnd.ret [(I 0).pr (AV.nils.pr (AV.nils.pr (AV.d Ty.unit PUnit.unit))), I (countE [a, b, 1, 1])], [(0, AObj.arr 25 ((i64T).pair ((i64T).slice.pair ((i64T).slice.pair Ty.unit))) 0 false [(t, [a, b, c, d], dt, PUnit.unit)]), (1, AObj.arr 9 Ty.str 0 false [[120]])])
                else none
              else 
                bif decide (1 ≤ c ∧ 1 ≤ d ∧ 1 ≤ IntKind.i64.wrap (a * b) ∧ 0 ≤ c ∧ 0 ≤ d ∧ IntKind.i64.wrap (c * d) = c * d ∧ Int.ofNat dt.length = IntKind.i64.wrap (a * b) * (c * d) ∧ IntKind.i64.wrap (a * b) * (c * d) ≤ 65536 ∧ (1 : Int) ≤ 1 ∧ (1 : Int) ≤ 1 ∧ 1 + c ≤ c + 1 ∧ 1 + d ≤ d + 1 ∧ IntKind.i64.wrap (a * b) * 1 ≤ 65536) then some (AEnd.ret [(I t).pr ((AV.os 2 0).pr ((AV.os 3 0).pr (AV.d Ty.unit PUnit.unit))), I 0], [(0, AObj.arr 25 ((i64T).pair ((i64T).slice.pair ((i64T).slice.pair Ty.unit))) 0 true [(t, [a, b, c, d], dt, PUnit.unit)]), (1, AObj.arr 9 Ty.str 0 false [[120]]), (2, AObj.arr 3 (i64T) 0 false [a, b, 1, 1]), (3, AObj.arr 2 (i64T) 0 false (poolL [71, 108, 111, 98, 97, 108, 65, 118, 101, 114, 97, 103, 101, 80, 111, 111, 108] dt (IntKind.i64.wrap (a * b)).toNat (Int.toNat (c * d)) d.toNat c.toNat d.toNat 1 1))])
                else none
  else none := by kernel_rfl
theorem doa_eq (t a b c d p q : Int) (dt : List Int) : runC gD Tryz.f17 7 [] [nodeA strAP [] [122] (.os 2 0) (.os 1 0), .os 0 0] (hpDA false false t [a, b, c, d] dt [p, q]) ah =
  bif decide (4 ≤ 9223372036854775807 ∧ dt.length ≤ 9223372036854775807) then 
    bif tenE t [a, b, c, d] dt != 0 then some (AEnd.ret [(I 0).pr (AV.nils.pr (AV.nils.pr (AV.d Ty.unit PUnit.unit))), I 1], [(0, AObj.arr 25 ((i64T).pair ((i64T).slice.pair ((i64T).slice.pair Ty.unit))) 0 false [(t, [a, b, c, d], dt, PUnit.unit)]), (1, AObj.arr 37 (Ty.str.pair ((i64T).pair ((i64T).pair ((i64T).pair (Ty.str.pair (((i64T).pair ((i64T).slice.pair ((i64T).slice.pair Ty.unit))).pair ((i64T).slice.pair Ty.unit))))))) 0 false [([107, 101, 114, 110, 101, 108, 95, 115, 104, 97, 112, 101], 7, 0, 0, [], (0, [], [], PUnit.unit), [p, q], PUnit.unit)]), (2, AObj.arr 9 Ty.str 0 false [[120]])])
    else 
      bif !numOk t 0 then some (AEnd.ret [(I 0).pr (AV.nils.pr (AV.nils.pr (AV.d Ty.unit PUnit.unit))), I 5], [(0, AObj.arr 25 ((i64T).pair ((i64T).slice.pair ((i64T).slice.pair Ty.unit))) 0 false [(t, [a, b, c, d], dt, PUnit.unit)]), (1, AObj.arr 37 (Ty.str.pair ((i64T).pair ((i64T).pair ((i64T).pair (Ty.str.pair (((i64T).pair ((i64T).slice.pair ((i64T).slice.pair Ty.unit))).pair ((i64T).slice.pair Ty.unit))))))) 0 true [([107, 101, 114, 110, 101, 108, 95, 115, 104, 97, 112, 101], 7, 0, 0, [], (0, [], [], PUnit.unit), [p, q], PUnit.unit)]), (2, AObj.arr 9 Ty.str 0 false [[120]])])
      else 
        bif countE [a, b, c, d] != 0 then 
          bif countE [a, b, c, d] != 0 then some (AEnd.ret [(I 0).pr (AV.nils.pr (AV.nils.pr (AV.d Ty.unit PUnit.unit))), I (countE [a, b, c, d])], [(0, AObj.arr 25 ((i64T).pair ((i64T).slice.pair ((i64T).slice.pair Ty.unit))) 0 false [(t, [a, b, c, d], dt, PUnit.unit)]), (1, AObj.arr 37 (Ty.str.pair ((i64T).pair ((i64T).pair ((i64T).pair (Ty.str.pair (((i64T).pair ((i64T).slice.pair ((i64T).slice.pair Ty.unit))).pair ((i64T).slice.pair Ty.unit))))))) 0 true [([107, 101, 114, 110, 101, 108, 95, 115, 104, 97, 112, 101], 7, 0, 0, [], (0, [], [], PUnit.unit), [p, q], PUnit.unit)]), (2, AObj.arr 9 Ty.str 0 false [[120]])])
          else none
        else 
          bif t == 6 then 
            bif t != 1 then some (AEnd.ret [(I 0).pr (AV.nils.pr (AV.nils.pr (AV.d Ty.unit PUnit.unit))), I 4], [(0, AObj.arr 25 ((i64T).pair ((i64T).slice.pair ((i64T).slice.pair Ty.unit))) 0 false [(t, [a, b, c, d], dt, PUnit.unit)]), (1, AObj.arr 37 (Ty.str.pair ((i64T).pair ((i64T).pair ((i64T).pair (Ty.str.pair (((i64T).pair ((i64T).slice.pair ((i64T).slice.pair Ty.unit))).pair ((i64T).slice.pair Ty.unit))))))) 0 true [([107, 101, 114, 110, 101, 108, 95, 115, 104, 97, 112, 101], 7, 0, 0, [], (0, [], [], PUnit.unit), [p, q], PUnit.unit)]), (2, AObj.arr 9 Ty.str 0 false [[120]])])
            else 
              bif decide (1 ≤ p) then 
                bif !decide (p ≤ 100) then some (AEnd.ret [(I 0).pr (AV.nils.pr (AV.nils.pr (AV.d Ty.unit PUnit.unit))), I 4], [(0, AObj.arr 25 ((i64T).pair ((i64T).slice.pair ((i64T).slice.pair Ty.unit))) 0 false [(t, [a, b, c, d], dt, PUnit.unit)]), (1, AObj.arr 37 (Ty.str.pair ((i64T).pair ((i64T).pair ((i64T).pair (Ty.str.pair (((i64T).pair ((i64T).slice.pair ((i64T).slice.pair Ty.unit))).pair ((i64T).slice.pair Ty.unit))))))) 0 true [([107, 101, 114, 110, 101, 108, 95, 115, 104, 97, 112, 101], 7, 0, 0, [], (0, [], [], PUnit.unit), [p, q], PUnit.unit)]), (2, AObj.arr 9 Ty.str 0 false [[120]])])
                else 
                  bif decide (1 ≤ q) then 
                    bif !decide (q ≤ 100) then some (AEnd.ret [(I 0).pr (AV.nils.pr (AV.nils.pr (AV.d Ty.unit PUnit.unit))), I 4], [(0, AObj.arr 25 ((i64T).pair ((i64T).slice.pair ((i64T).slice.pair Ty.unit))) 0 false [(t, [a, b, c, d], dt, PUnit.unit)]), (1, AObj.arr 37 (Ty.str.pair ((i64T).pair ((i64T).pair ((i64T).pair (Ty.str.pair (((i64T).pair ((i64T).slice.pair ((i64T).slice.pair Ty.unit))).pair ((i64T).slice.pair Ty.unit))))))) 0 true [([107, 101, 114, 110, 101, 108, 95, 115, 104, 97, 112, 101], 7, 0, 0, [], (0, [], [], PUnit.unit), [p, q], PUnit.unit)]), (2, AObj.arr 9 Ty.str 0 false [[120]])])
                    else 
                      bif !decide (IntKind.i64.wrap (IntKind.i64.wrap (IntKind.i64.wrap (IntKind.i64.wrap (c + 0) + 0) - IntKind.i64.wrap (1 * IntKind.i64.wrap (p - 1))) - 1) ≥ 0) then some (AEnd.ret [(I 0).pr (AV.nils.pr (AV.nils.pr (AV.d Ty.unit PUnit.unit))), I 4], [(0, AObj.arr 25 ((i64T).pair ((i64T).slice.pair ((i64T).slice.pair Ty.unit))) 0 false [(t, [a, b, c, d], dt, PUnit.unit)]), (1, AObj.arr 37 (Ty.str.pair ((i64T).pair ((i64T).pair ((i64T).pair (Ty.str.pair (((i64T).pair ((i64T).slice.pair ((i64T).slice.pair Ty.unit))).pair ((i64T).slice.pair Ty.unit))))))) 0 true [([107, 101, 114, 110, 101, 108, 95, 115, 104, 97, 112, 101], 7, 0, 0, [], (0, [], [], PUnit.unit), [p, q], PUnit.unit)]), (2, AObj.arr 9 Ty.str 0 false [[120]])])
                      else 
                        bif !decide (IntKind.i64.wrap (IntKind.i64.wrap (IntKind.i64.wrap (IntKind.i64.wrap (d + 0) + 0) - IntKind.i64.wrap (1 * IntKind.i64.wrap (q - 1))) - 1) ≥ 0) then some (AEnd.ret [(I 0).pr (AV.nils.pr (AV.nils.pr (AV.d Ty.unit PUnit.unit))), I 4], [(0, AObj.arr 25 ((i64T).pair ((i64T).slice.pair ((i64T).slice.pair Ty.unit))) 0 false [(t, [a, b, c, d], dt, PUnit.unit)]), (1, AObj.arr 37 (Ty.str.pair ((i64T).pair ((i64T).pair ((i64T).pair (Ty.str.pair (((i64T).pair ((i64T).slice.pair ((i64T).slice.pair Ty.unit))).pair ((i64T).slice.pair Ty.unit))))))) 0 true [([107, 101, 114, 110, 101, 108, 95, 115, 104, 97, 112, 101], 7, 0, 0, [], (0, [], [], PUnit.unit), [p, q], PUnit.unit)]), (2, AObj.arr 9 Ty.str 0 false [[120]])])
                        else 
                          bif countE [a, b, IntKind.i64.wrap (IntKind.i64.wrap ((IntKind.i64.wrap (IntKind.i64.wrap (IntKind.i64.wrap (IntKind.i64.wrap (c + 0) + 0) - IntKind.i64.wrap (1 * IntKind.i64.wrap (p - 1))) - 1)).tdiv 1) + 1), IntKind.i64.wrap (IntKind.i64.wrap ((IntKind.i64.wrap (IntKind.i64.wrap (IntKind.i64.wrap (IntKind.i64.wrap (d + 0) + 0) - IntKind.i64.wrap (1 * IntKind.i64.wrap (q - 1))) - 1)).tdiv 1) + 1)] != 0 then 
                            bif countE [a, b, IntKind.i64.wrap (IntKind.i64.wrap ((IntKind.i64.wrap (IntKind.i64.wrap (IntKind.i64.wrap (IntKind.i64.wrap (c + 0) + 0) - IntKind.i64.wrap (1 * IntKind.i64.wrap (p - 1))) - 1)).tdiv 1) + 1), IntKind.i64.wrap (IntKind.i64.wrap ((IntKind.i64.wrap (IntKind.i64.wrap (IntKind.i64.wrap (IntKind.i64.wrap (d + 0) + 0) - IntKind.i64.wrap (1 * IntKind.i64.wrap (q - 1))) - 1)).tdiv 1) + 1)] != 0 then some (AEnd.ret [(I 0).pr (AV.nils.pr (AV.nils.pr (AV.d Ty.unit PUnit.unit))), I (countE [a, b, IntKind.i64.wrap (IntKind.i64.wrap ((IntKind.i64.wrap (IntKind.i64.wrap (IntKind.i64.wrap (IntKind.i64.wrap (c + 0) + 0) - IntKind.i64.wrap (1 * IntKind.i64.wrap (p - 1))) - 1)).tdiv 1) + 1), IntKind.i64.wrap (IntKind.i64.wrap ((IntKind.i64.wrap (IntKind.i64.wrap (IntKind.i64.wrap (IntKind.i64.wrap (d + 0) + 0) - IntKind.i64.wrap (1 * IntKind.i64.wrap (q - 1))) - 1)).tdiv 1) + 1)])], [(0, AObj.arr 25 ((i64T).pair ((i64T).slice.pair ((i64T).slice.pair Ty.unit))) 0 false [(t, [a, b, c, d], dt, PUnit.unit)]), (1, AObj.arr 37 (Ty.str.pair ((i64T).pair ((i64T).pair ((i64T).pair (Ty.str.pair (((i64T).pair ((i64T).slice.pair ((i64T).slice.pair Ty.unit))).pair ((i64T).slice.pair Ty.unit))))))) 0 true [([107, 101, 114, 110, 101, 108, 95, 115, 104, 97, 112, 101], 7, 0, 0, [], (0, [], [], PUnit.unit), [p, q], PUnit.unit)]), (2, AObj.arr 9 Ty.str 0 false [[120]])])
                            else none
                          else 
                            bif decide (1 ≤ c ∧ 1 ≤ d ∧ 1 ≤ IntKind.i64.wrap (a * b) ∧ 0 ≤ p ∧ 0 ≤ q ∧ IntKind.i64.wrap (c * d) = c * d ∧ Int.ofNat dt.length = IntKind.i64.wrap (a * b) * (c * d) ∧ IntKind.i64.wrap (a * b) * (c * d) ≤ 65536 ∧ 1 ≤ IntKind.i64.wrap (IntKind.i64.wrap ((IntKind.i64.wrap (IntKind.i64.wrap (IntKind.i64.wrap (IntKind.i64.wrap (c + 0) + 0) - IntKind.i64.wrap (1 * IntKind.i64.wrap (p - 1))) - 1)).tdiv 1) + 1) ∧ 1 ≤ IntKind.i64.wrap (IntKind.i64.wrap ((IntKind.i64.wrap (IntKind.i64.wrap (IntKind.i64.wrap (IntKind.i64.wrap (d + 0) + 0) - IntKind.i64.wrap (1 * IntKind.i64.wrap (q - 1))) - 1)).tdiv 1) + 1) ∧ IntKind.i64.wrap (IntKind.i64.wrap ((IntKind.i64.wrap (IntKind.i64.wrap (IntKind.i64.wrap (IntKind.i64.wrap (c + 0) + 0) - IntKind.i64.wrap (1 * IntKind.i64.wrap (p - 1))) - 1)).tdiv 1) + 1) + p ≤ c + 1 ∧ IntKind.i64.wrap (IntKind.i64.wrap ((IntKind.i64.wrap (IntKind.i64.wrap (IntKind.i64.wrap (IntKind.i64.wrap (d + 0) + 0) - IntKind.i64.wrap (1 * IntKind.i64.wrap (q - 1))) - 1)).tdiv 1) + 1) + q ≤ d + 1 ∧ IntKind.i64.wrap (a * b) * (IntKind.i64.wrap (IntKind.i64.wrap ((IntKind.i64.wrap (IntKind.i64.wrap (IntKind.i64.wrap (IntKind.i64.wrap (c + 0) + 0) - IntKind.i64.wrap (1 * IntKind.i64.wrap (p - 1))) - 1)).tdiv 1) + 1) * IntKind.i64.wrap (IntKind.i64.wrap ((IntKind.i64.wrap (IntKind.i64.wrap (IntKind.i64.wrap (IntKind.i64.wrap (d + 0) + 0) - IntKind.i64.wrap (1 * IntKind.i64.wrap (q - 1))) - 1)).tdiv 1) + 1)) ≤ 65536) then some (AEnd.ret [(I t).pr ((AV.os 3 0).pr ((AV.os 4 0).pr (AV.d Ty.unit PUnit.unit))), I 0], [(0, AObj.arr 25 ((i64T).pair ((i64T).slice.pair ((i64T).slice.pair Ty.unit))) 0 true [(t, [a, b, c, d], dt, PUnit.unit)]), (1, AObj.arr 37 (Ty.str.pair ((i64T).pair ((i64T).pair ((i64T).pair (Ty.str.pair (((i64T).pair ((i64T).slice.pair ((i64T).slice.pair Ty.unit))).pair ((i64T).slice.pair Ty.unit))))))) 0 true [([107, 101, 114, 110, 101, 108, 95, 115, 104, 97, 112, 101], 7, 0, 0, [], (0, [], [], PUnit.unit), [p, q], PUnit.unit)]), (2, AObj.arr 9 Ty.str 0 false [[120]]), (3, AObj.arr 3 (i64T) 0 false [a, b, IntKind.i64.wrap (IntKind.i64.wrap ((IntKind.i64.wrap (IntKind.i64.wrap (IntKind.i64.wrap (IntKind.i64.wrap (c + 0) + 0) - IntKind.i64.wrap (1 * IntKind.i64.wrap (p - 1))) - 1)).tdiv 1) + 1), IntKind.i64.wrap (IntKind.i64.wrap ((IntKind.i64.wrap (IntKind.i64.wrap (IntKind.i64.wrap (IntKind.i64.wrap (d + 0) + 0) - IntKind.i64.wrap (1 * IntKind.i64.wrap (q - 1))) - 1)).tdiv 1) + 1)]), (4, AObj.arr 2 (i64T) 0 false (poolL [65, 118, 101, 114, 97, 103, 101, 80, 111, 111, 108] dt (IntKind.i64.wrap (a * b)).toNat (Int.toNat (c * d)) d.toNat p.toNat q.toNat (IntKind.i64.wrap (IntKind.i64.wrap ((IntKind.i64.wrap (IntKind.i64.wrap (IntKind.i64.wrap (IntKind.i64.wrap (c + 0) + 0) - IntKind.i64.wrap (1 * IntKind.i64.wrap (p - 1))) - 1)).tdiv 1) + 1)).toNat (IntKind.i64.wrap (IntKind.i64.wrap ((IntKind.i64.wrap (IntKind.i64.wrap (IntKind.i64.wrap (IntKind.i64.wrap (d + 0) + 0) - IntKind.i64.wrap (1 * IntKind.i64.wrap (q - 1))) - 1)).tdiv 1) + 1)).toNat))])
                            else none
                  else some (AEnd.ret [(I 0).pr (AV.nils.pr (AV.nils.pr (AV.d Ty.unit PUnit.unit))), I 4], [(0, AObj.arr 25 ((i64T).pair ((i64T).slice.pair ((i64T).slice.pair Ty.unit))) 0 false [(t, [a, b, c, d], dt, PUnit.unit)]), (1, AObj.arr 37 (Ty.str.pair ((i64T).pair ((i64T).pair ((i64T).pair (Ty.str.pair (((i64T).pair ((i64T).slice.pair ((i64T).slice.pair Ty.unit))).pair ((i64T).slice.pair Ty.unit))))))) 0 true [([107, 101, 114, 110, 101, 108, 95, 115, 104, 97, 112, 101], 7, 0, 0, [], (0, [], [], PUnit.unit), [p, q], PUnit.unit)]), (2, AObj.arr 9 Ty.str 0 false [[120]])])
              else some (AEnd.ret [(I 0).pr (AV.nils.pr (AV.nils.pr (AV.d Ty.unit PUnit.unit))), I 4], [(0, AObj.arr 25 ((i64T).pair ((i64T).slice.pair ((i64T).slice.pair Ty.unit))) 0 false [(t, [a, b, c, d], dt, PUnit.unit)]), (1, AObj.arr 37 (Ty.str.pair ((i64T).pair ((i64T).pair ((i64T).pair (Ty.str.pair (((i64T).pair ((i64T).slice.pair ((i64T).slice.pair Ty.unit))).pair ((i64T).slice.pair Ty.unit))))))) 0 true [([107, 101, 114, 110, 101, 108, 95, 115, 104, 97, 112, 101], 7, 0, 0, [], (0, [], [], PUnit.unit), [p, q], PUnit.unit)]), (2, AObj.arr 9 Ty.str 0 false [[120]])])
          else 
            bif t != 1 then some (AEnd.ret [(I 0).pr (AV.nils.pr (AV.nils.pr (AV.d Ty.unit PUnit.unit))), I 4], [(0, AObj.arr 25 ((i64T).pair ((i64T).slice.pair ((i64T).slice.pair Ty.unit))) 0 false [(t, [a, b, c, d], dt, PUnit.unit)]), (1, AObj.arr 37 (Ty.str.pair ((i64T).pair ((i64T).pair ((i64T).pair (Ty.str.pair (((i64T).pair ((i64T).slice.pair ((i64T).slice.pair Ty.unit))).pair ((i64T).slice.pair Ty.unit))))))) 0 true [([107, 101, 114, 110, 101, 108, 95, 115, 104, 97, 112, 101], 7, 0, 0, [], (0, [], [], PUnit.unit), [p, q], PUnit.unit)]), (2, AObj.arr 9 Ty.str 0 false [[120]])])
            else 
              bif decide (1 ≤ p) then 
                bif !decide (p ≤ 100) then some (AEnd.ret [(I 0).pr (AV.nils.pr (AV.nils.pr (AV.d Ty.unit PUnit.unit))), I 4], [(0, AObj.arr 25 ((i64T).pair ((i64T).slice.pair ((i64T).slice.pair Ty.unit))) 0 false [(t, [a, b, c, d], dt, PUnit.unit)]), (1, AObj.arr 37 (Ty.str.pair ((i64T).pair ((i64T).pair ((i64T).pair (Ty.str.pair (((i64T).pair ((i64T).slice.pair ((i64T).slice.pair Ty.unit))).pair ((i64T).slice.pair Ty.unit))))))) 0 true [([107, 101, 114, 110, 101, 108, 95, 115, 104, 97, 112, 101], 7, 0, 0, [], (0, [], [], PUnit.unit), [p, q], PUnit.unit)]), (2, AObj.arr 9 Ty.str 0 false [[120]])])
                else 
                  bif decide (1 ≤ q) then 
                    bif !decide (q ≤ 100) then some (AEnd.ret [(I 0).pr (AV.nils.pr (AV.nils.pr (AV.d Ty.unit PUnit.unit))), I 4], [(0, AObj.arr 25 ((i64T).pair ((i64T).slice.pair ((i64T).slice.pair Ty.unit))) 0 false [(t, [a, b, c, d], dt, PUnit.unit)]), (1, AObj.arr 37 (Ty.str.pair ((i64T).pair ((i64T).pair ((i64T).pair (Ty.str.pair (((i64T).pair ((i64T).slice.pair ((i64T).slice.pair Ty.unit))).pair ((i64T).slice.pair Ty.unit))))))) 0 true [([107, 101, 114, 110, 101, 108, 95, 115, 104, 97, 112, 101], 7, 0, 0, [], (0, [], [], PUnit.unit), [p, q], PUnit.unit)]), (2, AObj.arr 9 Ty.str 0 false [[120]])])
                    else 
                      bif !decide (IntKind.i64.wrap (IntKind.i64.wrap (IntKind.i64.wrap (IntKind.i64.wrap (c + 0) + 0) - IntKind.i64.wrap (1 * IntKind.i64.wrap (p - 1))) - 1) ≥ 0) then some (AEnd.ret [(I 0).pr (AV.nils.pr (AV.nils.pr (AV.d Ty.unit PUnit.unit))), I 4], [(0, AObj.arr 25 ((i64T).pair ((i64T).slice.pair ((i64T).slice.pair Ty.unit))) 0 false [(t, [a, b, c, d], dt, PUnit.unit)]), (1, AObj.arr 37 (Ty.str.pair ((i64T).pair ((i64T).pair ((i64T).pair (Ty.str.pair (((i64T).pair ((i64T).slice.pair ((i64T).slice.pair Ty.unit))).pair ((i64T).slice.pair Ty.unit))))))) 0 true [([107, 101, 114, 110, 101, 108, 95, 115, 104, 97, 112, 101], 7, 0, 0, [], (0, [], [], PUnit.unit), [p, q], PUnit.unit)]), (2, AObj.arr 9 Ty.str 0 false [[120]])])
                      else 
                        bif !decide (IntKind.i64.wrap (IntKind.i64.wrap (IntKind.i64.wrap (IntKind.i64.wrap (d + 0) + 0) - IntKind.i64.wrap (1 * IntKind.i64.wrap (q - 1))) - 1) ≥ 0) then some (AEnd.ret [(I 0).pr (AV.nils.pr (AV.nils.pr (AV.d Ty.unit PUnit.unit))), I 4], [(0, AObj.arr 25 ((i64T).pair ((i64T).slice.pair ((i64T).slice.pair Ty.unit))) 0 false [(t, [a, b, c, d], dt, PUnit.unit)]), (1, AObj.arr 37 (Ty.str.pair ((i64T).pair ((i64T).pair ((i64T).pair (Ty.str.pair (((i64T).pair ((i64T).slice.pair ((i64T).slice.pair Ty.unit))).pair ((i64T).slice.pair Ty.unit))))))) 0 true [([107, 101, 114, 110, 101, 108, 95, 115, 104, 97, 112, 101], 7, 0, 0, [], (0, [], [], PUnit.unit), [p, q], PUnit.unit)]), (2, AObj.arr 9 Ty.str 0 false [[120]])])
                        else 
                          bif countE [a, b, IntKind.i64.wrap (IntKind.i64.wrap ((IntKind.i64.wrap (IntKind.i64.wrap (IntKind.i64.wrap (IntKind.i64.wrap (c + 0) + 0) - IntKind.i64.wrap (1 * IntKind.i64.wrap (p - 1))) - 1)).tdiv 1) + 1), IntKind.i64.wrap (IntKind.i64.wrap ((IntKind.i64.wrap (IntKind.i64.wrap (IntKind.i64.wrap (IntKind.i64.wrap (d + 0) + 0) - IntKind.i64.wrap (1 * IntKind.i64.wrap (q - 1))) - 1)).tdiv 1) + 1)] != 0 then 
                            bif countE [a, b, IntKind.i64.wrap (IntKind.i64.wrap ((IntKind.i64.wrap (IntKind.i64.wrap (IntKind.i64.wrap (IntKind.i64.wrap (c + 0) + 0) - IntKind.i64.wrap (1 * IntKind.i64.wrap (p - 1))) - 1)).tdiv 1) + 1), IntKind.i64.wrap (IntKind.i64.wrap ((IntKind.i64.wrap (IntKind.i64.wrap (IntKind.i64.wrap (IntKind.i64.wrap (d + 0) + 0) - IntKind.i64.wrap (1 * IntKind.i64.wrap (q - 1))) - 1)).tdiv 1) + 1)] != 0 then some (AEnd.ret [(I 0).pr (AV.nils.pr (AV.nils.pr (AV.d Ty.unit PUnit.unit))), I (countE [a, b, IntKind.i64.wrap (IntKind.i64.wrap ((IntKind.i64.wrap (IntKind.i64.wrap (IntKind.i64.wrap (IntKind.i64.wrap (c + 0) + 0) - IntKind.i64.wrap (1 * IntKind.i64.wrap (p - 1))) - 1)).tdiv 1) + 1), IntKind.i64.wrap (IntKind.i64.wrap ((IntKind.i64.wrap (IntKind.i64.wrap (IntKind.i64.wrap (IntKind.i64.wrap (d + 0) + 0) - IntKind.i64.wrap (1 * IntKind.i64.wrap (q - 1))) - 1)).tdiv 1) + 1)])], [(0, AObj.arr 25 ((i64T).pair ((i64T).slice.pair ((i64T).slice.pair Ty.unit))) 0 false [(t, [a, b, c, d], dt, PUnit.unit)]), (1, AObj.arr 37 (Ty.str.pair ((i64T).pair ((i64T).pair ((i64T).pair (Ty.str.pair (((i64T).pair ((i64T).slice.pair ((i64T).slice.pair Ty.unit))).pair ((i64T).slice.pair Ty.unit))))))) 0 true [([107, 101, 114, 110, 101, 108, 95, 115, 104, 97, 112, 101], 7, 0, 0, [], (0, [], [], PUnit.unit), [p, q], PUnit.unit)]), (2, AObj.arr 9 Ty.str 0 false [[120]])])
                            else none
                          else 
                            bif decide (1 ≤ c ∧ 1 ≤ d ∧ 1 ≤ IntKind.i64.wrap (a * b) ∧ 0 ≤ p ∧ 0 ≤ q ∧ IntKind.i64.wrap (c * d) = c * d ∧ Int.ofNat dt.length = IntKind.i64.wrap (a * b) * (c * d) ∧ IntKind.i64.wrap (a * b) * (c * d) ≤ 65536 ∧ 1 ≤ IntKind.i64.wrap (IntKind.i64.wrap ((IntKind.i64.wrap (IntKind.i64.wrap (IntKind.i64.wrap (IntKind.i64.wrap (c + 0) + 0) - IntKind.i64.wrap (1 * IntKind.i64.wrap (p - 1))) - 1)).tdiv 1) + 1) ∧ 1 ≤ IntKind.i64.wrap (IntKind.i64.wrap ((IntKind.i64.wrap (IntKind.i64.wrap (IntKind.i64.wrap (IntKind.i64.wrap (d + 0) + 0) - IntKind.i64.wrap (1 * IntKind.i64.wrap (q - 1))) - 1)).tdiv 1) + 1) ∧ IntKind.i64.wrap (IntKind.i64.wrap ((IntKind.i64.wrap (IntKind.i64.wrap (IntKind.i64.wrap (IntKind.i64.wrap (c + 0) + 0) - IntKind.i64.wrap (1 * IntKind.i64.wrap (p - 1))) - 1)).tdiv 1) + 1) + p ≤ c + 1 ∧ IntKind.i64.wrap (IntKind.i64.wrap ((IntKind.i64.wrap (IntKind.i64.wrap (IntKind.i64.wrap (IntKind.i64.wrap (d + 0) + 0) - IntKind.i64.wrap (1 * IntKind.i64.wrap (q - 1))) - 1)).tdiv 1) + 1) + q ≤ d + 1 ∧ IntKind.i64.wrap (a * b) * (IntKind.i64.wrap (IntKind.i64.wrap ((IntKind.i64.wrap (IntKind.i64.wrap (IntKind.i64.wrap (IntKind.i64.wrap (c + 0) + 0) - IntKind.i64.wrap (1 * IntKind.i64.wrap (p - 1))) - 1)).tdiv 1) + 1) * IntKind.i64.wrap (IntKind.i64.wrap ((IntKind.i64.wrap (IntKind.i64.wrap (IntKind.i64.wrap (IntKind.i64.wrap (d + 0) + 0) - IntKind.i64.wrap (1 * IntKind.i64.wrap (q - 1))) - 1)).tdiv 1) + 1)) ≤ 65536) then some (AEnd.ret [(I t).pr ((AV.os 3 0).pr ((AV.os 4 0).pr (AV.d Ty.unit PUnit.unit))), I 0], [(0, AObj.arr 25 ((i64T).pair ((i64T).slice.pair ((i64T).slice.pair Ty.unit))) 0 true [(t, [a, b, c, d], dt, PUnit.unit)]), (1, AObj.arr 37 (Ty.str.pair ((i64T).pair ((i64T).pair ((i64T).pair (Ty.str.pair (((i64T).pair ((i64T).slice.pair ((i64T).slice.pair Ty.unit))).pair ((i64T).slice.pair Ty.unit))))))) 0 true [([107, 101, 114, 110, 101, 108, 95, 115, 104, 97, 112, 101], 7, 0, 0, [], (0, [], [], PUnit.unit), [p, q], PUnit.unit)]), (2, AObj.arr 9 Ty.str 0 false [[120]]), (3, AObj.arr 3 (i64T) 0 false [a, b, IntKind.i64.wrap (IntKind.i64.wrap ((IntKind.i64.wrap (IntKind.i64.wrap (IntKind.i64.wrap (IntKind.i64.wrap (c + 0) + 0) - IntKind.i64.wrap (1 * IntKind.i64.wrap (p - 1))) - 1)).tdiv 1) + 1), IntKind.i64.wrap (IntKind.i64.wrap ((IntKind.i64.wrap (IntKind.i64.wrap (IntKind.i64.wrap (IntKind.i64.wrap (d + 0) + 0) - IntKind.i64.wrap (1 * IntKind.i64.wrap (q - 1))) - 1)).tdiv 1) + 1)]), (4, AObj.arr 2 (i64T) 0 false (poolL [65, 118, 101, 114, 97, 103, 101, 80, 111, 111, 108] dt (IntKind.i64.wrap (a * b)).toNat (Int.toNat (c * d)) d.toNat p.toNat q.toNat (IntKind.i64.wrap (IntKind.i64.wrap ((IntKind.i64.wrap (IntKind.i64.wrap (IntKind.i64.wrap (IntKind.i64.wrap (c + 0) + 0) - IntKind.i64.wrap (1 * IntKind.i64.wrap (p - 1))) - 1)).tdiv 1) + 1)).toNat (IntKind.i64.wrap (IntKind.i64.wrap ((IntKind.i64.wrap (IntKind.i64.wrap (IntKind.i64.wrap (IntKind.i64.wrap (d + 0) + 0) - IntKind.i64.wrap (1 * IntKind.i64.wrap (q - 1))) - 1)).tdiv 1) + 1)).toNat))])
                            else none
                  else some (AEnd.ret [(I 0).pr (AV.nils.pr (AV.nils.pr (AV.d Ty.unit PUnit.unit))), I 4], [(0, AObj.arr 25 ((i64T).pair ((i64T).slice.pair ((i64T).slice.pair Ty.unit))) 0 false [(t, [a, b, c, d], dt, PUnit.unit)]), (1, AObj.arr 37 (Ty.str.pair ((i64T).pair ((i64T).pair ((i64T).pair (Ty.str.pair (((i64T).pair ((i64T).slice.pair ((i64T).slice.pair Ty.unit))).pair ((i64T).slice.pair Ty.unit))))))) 0 true [([107, 101, 114, 110, 101, 108, 95, 115, 104, 97, 112, 101], 7, 0, 0, [], (0, [], [], PUnit.unit), [p, q], PUnit.unit)]), (2, AObj.arr 9 Ty.str 0 false [[120]])])
              else some (AEnd.ret [(I 0).pr (AV.nils.pr (AV.nils.pr (AV.d Ty.unit PUnit.unit))), I 4], [(0, AObj.arr 25 ((i64T).pair ((i64T).slice.pair ((i64T).slice.pair Ty.unit))) 0 false [(t, [a, b, c, d], dt, PUnit.unit)]), (1, AObj.arr 37 (Ty.str.pair ((i64T).pair ((i64T).pair ((i64T).pair (Ty.str.pair (((i64T).pair ((i64T).slice.pair ((i64T).slice.pair Ty.unit))).pair ((i64T).slice.pair Ty.unit))))))) 0 true [([107, 101, 114, 110, 101, 108, 95, 115, 104, 97, 112, 101], 7, 0, 0, [], (0, [], [], PUnit.unit), [p, q], PUnit.unit)]), (2, AObj.arr 9 Ty.str 0 false [[120]])])
  else none := by kernel_rfl
theorem dom_eq (t a b c d p q : Int) (dt : List Int) : runC gD Tryz.f17 7 [] [nodeA strMP [] [122] (.os 2 0) (.os 1 0), .os 0 0] (hpDA false false t [a, b, c, d] dt [p, q]) ah =
  bif decide (4 ≤ 9223372036854775807 ∧ dt.length ≤ 9223372036854775807) then 
    bif tenE t [a, b, c, d] dt != 0 then some (AEnd.ret [(I 0).pr (AV.nils.pr (AV.nils.pr (AV.d Ty.unit PUnit.unit))), I 1], [(0, AObj.arr 25 ((i64T).pair ((i64T).slice.pair ((i64T).slice.pair Ty.unit))) 0 false [(t, [a, b, c, d], dt, PUnit.unit)]), (1, AObj.arr 37 (Ty.str.pair ((i64T).pair ((i64T).pair ((i64T).pair (Ty.str.pair (((i64T).pair ((i64T).slice.pair ((i64T).slice.pair Ty.unit))).pair ((i64T).slice.pair Ty.unit))))))) 0 false [([107, 101, 114, 110, 101, 108, 95, 115, 104, 97, 112, 101], 7, 0, 0, [], (0, [], [], PUnit.unit), [p, q], PUnit.unit)]), (2, AObj.arr 9 Ty.str 0 false [[120]])])
    else 
      bif !numOk t 0 then some (AEnd.ret [(I 0).pr (AV.nils.pr (AV.nils.pr (AV.d Ty.unit PUnit.unit))), I 5], [(0, AObj.arr 25 ((i64T).pair ((i64T).slice.pair ((i64T).slice.pair Ty.unit))) 0 false [(t, [a, b, c, d], dt, PUnit.unit)]), (1, AObj.arr 37 (Ty.str.pair ((i64T).pair ((i64T).pair ((i64T).pair (Ty.str.pair (((i64T).pair ((i64T).slice.pair ((i64T).slice.pair Ty.unit))).pair ((i64T).slice.pair Ty.unit))))))) 0 true [([107, 101, 114, 110, 101, 108, 95, 115, 104, 97, 112, 101], 7, 0, 0, [], (0, [], [], PUnit.unit), [p, q], PUnit.unit)]), (2, AObj.arr 9 Ty.str 0 false [[120]])])
      else 
        bif countE [a, b, c, d] != 0 then 
          bif countE [a, b, c, d] != 0 then some (AEnd.ret [(I 0).pr (AV.nils.pr (AV.nils.pr (AV.d Ty.unit PUnit.unit))), I (countE [a, b, c, d])], [(0, AObj.arr 25 ((i64T).pair ((i64T).slice.pair ((i64T).slice.pair Ty.unit))) 0 false [(t, [a, b, c, d], dt, PUnit.unit)]), (1, AObj.arr 37 (Ty.str.pair ((i64T).pair ((i64T).pair ((i64T).pair (Ty.str.pair (((i64T).pair ((i64T).slice.pair ((i64T).slice.pair Ty.unit))).pair ((i64T).slice.pair Ty.unit))))))) 0 true [([107, 101, 114, 110, 101, 108, 95, 115, 104, 97, 112, 101], 7, 0, 0, [], (0, [], [], PUnit.unit), [p, q], PUnit.unit)]), (2, AObj.arr 9 Ty.str 0 false [[120]])])
          else none
        else 
          bif t == 6 then 
            bif t != 1 then some (AEnd.ret [(I 0).pr (AV.nils.pr (AV.nils.pr (AV.d Ty.unit PUnit.unit))), I 4], [(0, AObj.arr 25 ((i64T).pair ((i64T).slice.pair ((i64T).slice.pair Ty.unit))) 0 false [(t, [a, b, c, d], dt, PUnit.unit)]), (1, AObj.arr 37 (Ty.str.pair ((i64T).pair ((i64T).pair ((i64T).pair (Ty.str.pair (((i64T).pair ((i64T).slice.pair ((i64T).slice.pair Ty.unit))).pair ((i64T).slice.pair Ty.unit))))))) 0 true [([107, 101, 114, 110, 101, 108, 95, 115, 104, 97, 112, 101], 7, 0, 0, [], (0, [], [], PUnit.unit), [p, q], PUnit.unit)]), (2, AObj.arr 9 Ty.str 0 false [[120]])])
            else 
              bif decide (1 ≤ p) then 
                bif !decide (p ≤ 100) then some (AEnd.ret [(I 0).pr (AV.nils.pr (AV.nils.pr (AV.d Ty.unit PUnit.unit))), I 4], [(0, AObj.arr 25 ((i64T).pair ((i64T).slice.pair ((i64T).slice.pair Ty.unit))) 0 false [(t, [a, b, c, d], dt, PUnit.unit)]), (1, AObj.arr 37 (Ty.str.pair ((i64T).pair ((i64T).pair ((i64T).pair (Ty.str.pair (((i64T).pair ((i64T).slice.pair ((i64T).slice.pair Ty.unit))).pair ((i64T).slice.pair Ty.unit))))))) 0 true [([107, 101, 114, 110, 101, 108, 95, 115, 104, 97, 112, 101], 7, 0, 0, [], (0, [], [], PUnit.unit), [p, q], PUnit.unit)]), (2, AObj.arr 9 Ty.str 0 false [[120]])])
                else 
                  bif decide (1 ≤ q) then 
                    bif !decide (q ≤ 100) then some (AEnd.ret [(I 0).pr (AV.nils.pr (AV.nils.pr (AV.d Ty.unit PUnit.unit))), I 4], [(0, AObj.arr 25 ((i64T).pair ((i64T).slice.pair ((i64T).slice.pair Ty.unit))) 0 false [(t, [a, b, c, d], dt, PUnit.unit)]), (1, AObj.arr 37 (Ty.str.pair ((i64T).pair ((i64T).pair ((i64T).pair (Ty.str.pair (((i64T).pair ((i64T).slice.pair ((i64T).slice.pair Ty.unit))).pair ((i64T).slice.pair Ty.unit))))))) 0 true [([107, 101, 114, 110, 101, 108, 95, 115, 104, 97, 112, 101], 7, 0, 0, [], (0, [], [], PUnit.unit), [p, q], PUnit.unit)]), (2, AObj.arr 9 Ty.str 0 false [[120]])])
                    else 
                      bif !decide (IntKind.i64.wrap (IntKind.i64.wrap (IntKind.i64.wrap (IntKind.i64.wrap (c + 0) + 0) - IntKind.i64.wrap (1 * IntKind.i64.wrap (p - 1))) - 1) ≥ 0) then some (AEnd.ret [(I 0).pr (AV.nils.pr (AV.nils.pr (AV.d Ty.unit PUnit.unit))), I 4], [(0, AObj.arr 25 ((i64T).pair ((i64T).slice.pair ((i64T).slice.pair Ty.unit))) 0 false [(t, [a, b, c, d], dt, PUnit.unit)]), (1, AObj.arr 37 (Ty.str.pair ((i64T).pair ((i64T).pair ((i64T).pair (Ty.str.pair (((i64T).pair ((i64T).slice.pair ((i64T).slice.pair Ty.unit))).pair ((i64T).slice.pair Ty.unit))))))) 0 true [([107, 101, 114, 110, 101, 108, 95, 115, 104, 97, 112, 101], 7, 0, 0, [], (0, [], [], PUnit.unit), [p, q], PUnit.unit)]), (2, AObj.arr 9 Ty.str 0 false [[120]])])
                      else 
                        bif !decide (IntKind.i64.wrap (IntKind.i64.wrap (IntKind.i64.wrap (IntKind.i64.wrap (d + 0) + 0) - IntKind.i64.wrap (1 * IntKind.i64.wrap (q - 1))) - 1) ≥ 0) then some (AEnd.ret [(I 0).pr (AV.nils.pr (AV.nils.pr (AV.d Ty.unit PUnit.unit))), I 4], [(0, AObj.arr 25 ((i64T).pair ((i64T).slice.pair ((i64T).slice.pair Ty.unit))) 0 false [(t, [a, b, c, d], dt, PUnit.unit)]), (1, AObj.arr 37 (Ty.str.pair ((i64T).pair ((i64T).pair ((i64T).pair (Ty.str.pair (((i64T).pair ((i64T).slice.pair ((i64T).slice.pair Ty.unit))).pair ((i64T).slice.pair Ty.unit))))))) 0 true [([107, 101, 114, 110, 101, 108, 95, 115, 104, 97, 112, 101], 7, 0, 0, [], (0, [], [], PUnit.unit), [p, q], PUnit.unit)]), (2, AObj.arr 9 Ty.str 0 false [[120]])])
                        else 
                          bif countE [a, b, IntKind.i64.wrap (IntKind.i64.wrap ((IntKind.i64.wrap (IntKind.i64.wrap (IntKind.i64.wrap (IntKind.i64.wrap (c + 0) + 0) - IntKind.i64.wrap (1 * IntKind.i64.wrap (p - 1))) - 1)).tdiv 1) + 1), IntKind.i64.wrap (IntKind.i64.wrap ((IntKind.i64.wrap (IntKind.i64.wrap (IntKind.i64.wrap (IntKind.i64.wrap (d + 0) + 0) - IntKind.i64.wrap (1 * IntKind.i64.wrap (q - 1))) - 1)).tdiv 1) + 1)] != 0 then 
                            bif countE [a, b, IntKind.i64.wrap (IntKind.i64.wrap ((IntKind.i64.wrap (IntKind.i64.wrap (IntKind.i64.wrap (IntKind.i64.wrap (c + 0) + 0) - IntKind.i64.wrap (1 * IntKind.i64.wrap (p - 1))) - 1)).tdiv 1) + 1), IntKind.i64.wrap (IntKind.i64.wrap ((IntKind.i64.wrap (IntKind.i64.wrap (IntKind.i64.wrap (IntKind.i64.wrap (d + 0) + 0) - IntKind.i64.wrap (1 * IntKind.i64.wrap (q - 1))) - 1)).tdiv 1) + 1)] != 0 then some (AEnd.ret [(I 0).pr (AV.nils.pr (AV.nils.pr (AV.d Ty.unit PUnit.unit))), I (countE [a, b, IntKind.i64.wrap (IntKind.i64.wrap ((IntKind.i64.wrap (IntKind.i64.wrap (IntKind.i64.wrap (IntKind.i64.wrap (c + 0) + 0) - IntKind.i64.wrap (1 * IntKind.i64.wrap (p - 1))) - 1)).tdiv 1) + 1), IntKind.i64.wrap (IntKind.i64.wrap ((IntKind.i64.wrap (IntKind.i64.wrap (IntKind.i64.wrap (IntKind.i64.wrap (d + 0) + 0) - IntKind.i64.wrap (1 * IntKind.i64.wrap (q - 1))) - 1)).tdiv 1) + 1)])], [(0, AObj.arr 25 ((i64T).pair ((i64T).slice.pair ((i64T).slice.pair Ty.unit))) 0 false [(t, [a, b, c, d], dt, PUnit.unit)]), (1, AObj.arr 37 (Ty.str.pair ((i64T).pair ((i64T).pair ((i64T).pair (Ty.str.pair (((i64T).pair ((i64T).slice.pair ((i64T).slice.pair Ty.unit))).pair ((i64T).slice.pair Ty.unit))))))) 0 true [([107, 101, 114, 110, 101, 108, 95, 115, 104, 97, 112, 101], 7, 0, 0, [], (0, [], [], PUnit.unit), [p, q], PUnit.unit)]), (2, AObj.arr 9 Ty.str 0 false [[120]])])
                            else none
                          else 
                            bif decide (1 ≤ c ∧ 1 ≤ d ∧ 1 ≤ IntKind.i64.wrap (a * b) ∧ 0 ≤ p ∧ 0 ≤ q ∧ IntKind.i64.wrap (c * d) = c * d ∧ Int.ofNat dt.length = IntKind.i64.wrap (a * b) * (c * d) ∧ IntKind.i64.wrap (a * b) * (c * d) ≤ 65536 ∧ 1 ≤ IntKind.i64.wrap (IntKind.i64.wrap ((IntKind.i64.wrap (IntKind.i64.wrap (IntKind.i64.wrap (IntKind.i64.wrap (c + 0) + 0) - IntKind.i64.wrap (1 * IntKind.i64.wrap (p - 1))) - 1)).tdiv 1) + 1) ∧ 1 ≤ IntKind.i64.wrap (IntKind.i64.wrap ((IntKind.i64.wrap (IntKind.i64.wrap (IntKind.i64.wrap (IntKind.i64.wrap (d + 0) + 0) - IntKind.i64.wrap (1 * IntKind.i64.wrap (q - 1))) - 1)).tdiv 1) + 1) ∧ IntKind.i64.wrap (IntKind.i64.wrap ((IntKind.i64.wrap (IntKind.i64.wrap (IntKind.i64.wrap (IntKind.i64.wrap (c + 0) + 0) - IntKind.i64.wrap (1 * IntKind.i64.wrap (p - 1))) - 1)).tdiv 1) + 1) + p ≤ c + 1 ∧ IntKind.i64.wrap (IntKind.i64.wrap ((IntKind.i64.wrap (IntKind.i64.wrap (IntKind.i64.wrap (IntKind.i64.wrap (d + 0) + 0) - IntKind.i64.wrap (1 * IntKind.i64.wrap (q - 1))) - 1)).tdiv 1) + 1) + q ≤ d + 1 ∧ IntKind.i64.wrap (a * b) * (IntKind.i64.wrap (IntKind.i64.wrap ((IntKind.i64.wrap (IntKind.i64.wrap (IntKind.i64.wrap (IntKind.i64.wrap (c + 0) + 0) - IntKind.i64.wrap (1 * IntKind.i64.wrap (p - 1))) - 1)).tdiv 1) + 1) * IntKind.i64.wrap (IntKind.i64.wrap ((IntKind.i64.wrap (IntKind.i64.wrap (IntKind.i64.wrap (IntKind.i64.wrap (d + 0) + 0) - IntKind.i64.wrap (1 * IntKind.i64.wrap (q - 1))) - 1)).tdiv 1) + 1)) ≤ 65536) then some (AEnd.ret [(I t).pr ((AV.os 3 0).pr ((AV.os 4 0).pr (AV.d Ty.unit PUnit.unit))), I 0], [(0, AObj.arr 25 ((i64T).pair ((i64T).slice.pair ((i64T).slice.pair Ty.unit))) 0 true [(t, [a, b, c, d], dt, PUnit.unit)]), (1, AObj.arr 37 (Ty.str.pair ((i64T).pair ((i64T).pair ((i64T).pair (Ty.str.pair (((i64T).pair ((i64T).slice.pair ((i64T).slice.pair Ty.unit))).pair ((i64T).slice.pair Ty.unit))))))) 0 true [([107, 101, 114, 110, 101, 108, 95, 115, 104, 97, 112, 101], 7, 0, 0, [], (0, [], [], PUnit.unit), [p, q], PUnit.unit)]), (2, AObj.arr 9 Ty.str 0 false [[120]]), (3, AObj.arr 3 (i64T) 0 false [a, b, IntKind.i64.wrap (IntKind.i64.wrap ((IntKind.i64.wrap (IntKind.i64.wrap (IntKind.i64.wrap (IntKind.i64.wrap (c + 0) + 0) - IntKind.i64.wrap (1 * IntKind.i64.wrap (p - 1))) - 1)).tdiv 1) + 1), IntKind.i64.wrap (IntKind.i64.wrap ((IntKind.i64.wrap (IntKind.i64.wrap (IntKind.i64.wrap (IntKind.i64.wrap (d + 0) + 0) - IntKind.i64.wrap (1 * IntKind.i64.wrap (q - 1))) - 1)).tdiv 1) + 1)]), (4, AObj.arr 2 (i64T) 0 false (poolL [77, 97, 120, 80, 111, 111, 108] dt (IntKind.i64.wrap (a * b)).toNat (Int.toNat (c * d)) d.toNat p.toNat q.toNat (IntKind.i64.wrap (IntKind.i64.wrap ((IntKind.i64.wrap (IntKind.i64.wrap (IntKind.i64.wrap (IntKind.i64.wrap (c + 0) + 0) - IntKind.i64.wrap (1 * IntKind.i64.wrap (p - 1))) - 1)).tdiv 1) + 1)).toNat (IntKind.i64.wrap (IntKind.i64.wrap ((IntKind.i64.wrap (IntKind.i64.wrap (IntKind.i64.wrap (IntKind.i64.wrap (d + 0) + 0) - IntKind.i64.wrap (1 * IntKind.i64.wrap (q - 1))) - 1)).tdiv 1) + 1)).toNat))])
                            else none
                  else some (AEnd.ret [(I 0).pr (AV.nils.pr (AV.nils.pr (AV.d Ty.unit PUnit.unit))), I 4], [(0, AObj.arr 25 ((i64T).pair ((i64T).slice.pair ((i64T).slice.pair Ty.unit))) 0 false [(t, [a, b, c, d], dt, PUnit.unit)]), (1, AObj.arr 37 (Ty.str.pair ((i64T).pair ((i64T).pair ((i64T).pair (Ty.str.pair (((i64T).pair ((i64T).slice.pair ((i64T).slice.pair Ty.unit))).pair ((i64T).slice.pair Ty.unit))))))) 0 true [([107, 101, 114, 110, 101, 108, 95, 115, 104, 97, 112, 101], 7, 0, 0, [], (0, [], [], PUnit.unit), [p, q], PUnit.unit)]), (2, AObj.arr 9 Ty.str 0 false [[120]])])
              else some (AEnd.ret [(I 0).pr (AV.nils.pr (AV.nils.pr (AV.d Ty.unit PUnit.unit))), I 4], [(0, AObj.arr 25 ((i64T).pair ((i64T).slice.pair ((i64T).slice.pair Ty.unit))) 0 false [(t, [a, b, c, d], dt, PUnit.unit)]), (1, AObj.arr 37 (Ty.str.pair ((i64T).pair ((i64T).pair ((i64T).pair (Ty.str.pair (((i64T).pair ((i64T).slice.pair ((i64T).slice.pair Ty.unit))).pair ((i64T).slice.pair Ty.unit))))))) 0 true [([107, 101, 114, 110, 101, 108, 95, 115, 104, 97, 112, 101], 7, 0, 0, [], (0, [], [], PUnit.unit), [p, q], PUnit.unit)]), (2, AObj.arr 9 Ty.str 0 false [[120]])])
          else 
            bif t != 1 then some (AEnd.ret [(I 0).pr (AV.nils.pr (AV.nils.pr (AV.d Ty.unit PUnit.unit))), I 4], [(0, AObj.arr 25 ((i64T).pair ((i64T).slice.pair ((i64T).slice.pair Ty.unit))) 0 false [(t, [a, b, c, d], dt, PUnit.unit)]), (1, AObj.arr 37 (Ty.str.pair ((i64T).pair ((i64T).pair ((i64T).pair (Ty.str.pair (((i64T).pair ((i64T).slice.pair ((i64T).slice.pair Ty.unit))).pair ((i64T).slice.pair Ty.unit))))))) 0 true [([107, 101, 114, 110, 101, 108, 95, 115, 104, 97, 112, 101], 7, 0, 0, [], (0, [], [], PUnit.unit), [p, q], PUnit.unit)]), (2, AObj.arr 9 Ty.str 0 false [[120]])])
            else 
              bif decide (1 ≤ p) then 
                bif !decide (p ≤ 100) then some (AEnd.ret [(I 0).pr (AV.nils.pr (AV.nils.pr (AV.d Ty.unit PUnit.unit))), I 4], [(0, AObj.arr 25 ((i64T).pair ((i64T).slice.pair ((i64T).slice.pair Ty.unit))) 0 false [(t, [a, b, c, d], dt, PUnit.unit)]), (1, AObj.arr 37 (Ty.str.pair ((i64T).pair ((i64T).pair ((i64T).pair (Ty.str.pair (((i64T).pair ((i64T).slice.pair ((i64T).slice.pair Ty.unit))).pair ((i64T).slice.pair Ty.unit))))))) 0 true [([107, 101, 114, 110, 101, 108, 95, 115, 104, 97, 112, 101], 7, 0, 0, [], (0, [], [], PUnit.unit), [p, q], PUnit.unit)]), (2, AObj.arr 9 Ty.str 0 false [[120]])])
                else 
                  bif decide (1 ≤ q) then 
                    bif !decide (q ≤ 100) then some (AEnd.ret [(I 0).pr (AV.nils.pr (AV.nils.pr (AV.d Ty.unit PUnit.unit))), I 4], [(0, AObj.arr 25 ((i64T).pair ((i64T).slice.pair ((i64T).slice.pair Ty.unit))) 0 false [(t, [a, b, c, d], dt, PUnit.unit)]), (1, AObj.arr 37 (Ty.str.pair ((i64T).pair ((i64T).pair ((i64T).pair (Ty.str.pair (((i64T).pair ((i64T).slice.pair ((i64T).slice.pair Ty.unit))).pair ((i64T).slice.pair Ty.unit))))))) 0 true [([107, 101, 114, 110, 101, 108, 95, 115, 104, 97, 112, 101], 7, 0, 0, [], (0, [], [], PUnit.unit), [p, q], PUnit.unit)]), (2, AObj.arr 9 Ty.str 0 false [[120]])])
                    else 
                      bif !decide (IntKind.i64.wrap (IntKind.i64.wrap (IntKind.i64.wrap (IntKind.i64.wrap (c + 0) + 0) - IntKind.i64.wrap (1 * IntKind.i64.wrap (p - 1))) - 1) ≥ 0) then some (AEnd.ret [(I 0).pr (AV.nils.pr (AV.nils.pr (AV.d Ty.unit PUnit.unit))), I 4], [(0, AObj.arr 25 ((i64T).pair ((i64T).slice.pair ((i64T).slice.pair Ty.unit))) 0 false [(t, [a, b, c, d], dt, PUnit.unit)]), (1, AObj.arr 37 (Ty.str.pair ((i64T).pair ((i64T).pair ((i64T).pair (Ty.str.pair (((i64T).pair ((i64T).slice.pair ((i64T).slice.pair Ty.unit))).pair ((i64T).slice.pair Ty.unit))))))) 0 true [([107, 101, 114, 110, 101, 108, 95, 115, 104, 97, 112, 101], 7, 0, 0, [], (0, [], [], PUnit.unit), [p, q], PUnit.unit)]), (2, AObj.arr 9 Ty.str 0 false [[120]])])
                      else 
                        bif !decide (IntKind.i64.wrap (IntKind.i64.wrap (IntKind.i64.wrap (IntKind.i64.wrap (d + 0) + 0) - IntKind.i64.wrap (1 * IntKind.i64.wrap (q - 1))) - 1) ≥ 0) then some (AEnd.ret [(I 0).pr (AV.nils.pr (AV.nils.pr (AV.d Ty.unit PUnit.unit))), I 4], [(0, AObj.arr 25 ((i64T).pair ((i64T).slice.pair ((i64T).slice.pair Ty.unit))) 0 false [(t, [a, b, c, d], dt, PUnit.unit)]), (1, AObj.arr 37 (Ty.str.pair ((i64T).pair ((i64T).pair ((i64T).pair (Ty.str.pair (((i64T).pair ((i64T).slice.pair ((i64T).slice.pair Ty.unit))).pair ((i64T).slice.pair Ty.unit))))))) 0 true [([107, 101, 114, 110, 101, 108, 95, 115, 104, 97, 112, 101], 7, 0, 0, [], (0, [], [], PUnit.unit), [p, q], PUnit.unit)]), (2, AObj.arr 9 Ty.str 0 false [[120]])])
                        else 
                          bif countE [a, b, IntKind.i64.wrap (IntKind.i64.wrap ((IntKind.i64.wrap (IntKind.i64.wrap (IntKind.i64.wrap (IntKind.i64.wrap (c + 0) + 0) - IntKind.i64.wrap (1 * IntKind.i64.wrap (p - 1))) - 1)).tdiv 1) + 1), IntKind.i64.wrap (IntKind.i64.wrap ((IntKind.i64.wrap (IntKind.i64.wrap (IntKind.i64.wrap (IntKind.i64.wrap (d + 0) + 0) - IntKind.i64.wrap (1 * IntKind.i64.wrap (q - 1))) - 1)).tdiv 1) + 1)] != 0 then 
                            bif countE [a, b, IntKind.i64.wrap (IntKind.i64.wrap ((IntKind.i64.wrap (IntKind.i64.wrap (IntKind.i64.wrap (IntKind.i64.wrap (c + 0) + 0) - IntKind.i64.wrap (1 * IntKind.i64.wrap (p - 1))) - 1)).tdiv 1) + 1), IntKind.i64.wrap (IntKind.i64.wrap ((IntKind.i64.wrap (IntKind.i64.wrap (IntKind.i64.wrap (IntKind.i64.wrap (d + 0) + 0) - IntKind.i64.wrap (1 * IntKind.i64.wrap (q - 1))) - 1)).tdiv 1) + 1)] != 0 then some (AEnd.ret [(I 0).pr (AV.nils.pr (AV.nils.pr (AV.d Ty.unit PUnit.unit))), I (countE [a, b, IntKind.i64.wrap (IntKind.i64.wrap ((IntKind.i64.wrap (IntKind.i64.wrap (IntKind.i64.wrap (IntKind.i64.wrap (c + 0) + 0) - IntKind.i64.wrap (1 * IntKind.i64.wrap (p - 1))) - 1)).tdiv 1) + 1), IntKind.i64.wrap (IntKind.i64.wrap ((IntKind.i64.wrap (IntKind.i64.wrap (IntKind.i64.wrap (IntKind.i64.wrap (d + 0) + 0) - IntKind.i64.wrap (1 * IntKind.i64.wrap (q - 1))) - 1)).tdiv 1) + 1)])], [(0, AObj.arr 25 ((i64T).pair ((i64T).slice.pair ((i64T).slice.pair Ty.unit))) 0 false [(t, [a, b, c, d], dt, PUnit.unit)]), (1, AObj.arr 37 (Ty.str.pair ((i64T).pair ((i64T).pair ((i64T).pair (Ty.str.pair (((i64T).pair ((i64T).slice.pair ((i64T).slice.pair Ty.unit))).pair ((i64T).slice.pair Ty.unit))))))) 0 true [([107, 101, 114, 110, 101, 108, 95, 115, 104, 97, 112, 101], 7, 0, 0, [], (0, [], [], PUnit.unit), [p, q], PUnit.unit)]), (2, AObj.arr 9 Ty.str 0 false [[120]])])
                            else none
                          else 
                            bif decide (1 ≤ c ∧ 1 ≤ d ∧ 1 ≤ IntKind.i64.wrap (a * b) ∧ 0 ≤ p ∧ 0 ≤ q ∧ IntKind.i64.wrap (c * d) = c * d ∧ Int.ofNat dt.length = IntKind.i64.wrap (a * b) * (c * d) ∧ IntKind.i64.wrap (a * b) * (c * d) ≤ 65536 ∧ 1 ≤ IntKind.i64.wrap (IntKind.i64.wrap ((IntKind.i64.wrap (IntKind.i64.wrap (IntKind.i64.wrap (IntKind.i64.wrap (c + 0) + 0) - IntKind.i64.wrap (1 * IntKind.i64.wrap (p - 1))) - 1)).tdiv 1) + 1) ∧ 1 ≤ IntKind.i64.wrap (IntKind.i64.wrap ((IntKind.i64.wrap (IntKind.i64.wrap (IntKind.i64.wrap (IntKind.i64.wrap (d + 0) + 0) - IntKind.i64.wrap (1 * IntKind.i64.wrap (q - 1))) - 1)).tdiv 1) + 1) ∧ IntKind.i64.wrap (IntKind.i64.wrap ((IntKind.i64.wrap (IntKind.i64.wrap (IntKind.i64.wrap (IntKind.i64.wrap (c + 0) + 0) - IntKind.i64.wrap (1 * IntKind.i64.wrap (p - 1))) - 1)).tdiv 1) + 1) + p ≤ c + 1 ∧ IntKind.i64.wrap (IntKind.i64.wrap ((IntKind.i64.wrap (IntKind.i64.wrap (IntKind.i64.wrap (IntKind.i64.wrap (d + 0) + 0) - IntKind.i64.wrap (1 * IntKind.i64.wrap (q - 1))) - 1)).tdiv 1) + 1) + q ≤ d + 1 ∧ IntKind.i64.wrap (a * b) * (IntKind.i64.wrap (IntKind.i64.wrap ((IntKind.i64.wrap (IntKind.i64.wrap (IntKind.i64.wrap (IntKind.i64.wrap (c + 0) + 0) - IntKind.i64.wrap (1 * IntKind.i64.wrap (p - 1))) - 1)).tdiv 1) + 1) * IntKind.i64.wrap (IntKind.i64.wrap ((IntKind.i64.wrap (IntKind.i64.wrap (IntKind.i64.wrap (IntKind.i64.wrap (d + 0) + 0) - IntKind.i64.wrap (1 * IntKind.i64.wrap (q - 1))) - 1)).tdiv 1) + 1)) ≤ 65536) then some (AEnd.ret [(I t).pr ((AV.os 3 0).pr ((AV.os 4 0).pr (AV.d Ty.unit PUnit.unit))), I 0], [(0, AObj.arr 25 ((i64T).pair ((i64T).slice.pair ((i64T).slice.pair Ty.unit))) 0 true [(t, [a, b, c, d], dt, PUnit.unit)]), (1, AObj.arr 37 (Ty.str.pair ((i64T).pair ((i64T).pair ((i64T).pair (Ty.str.pair (((i64T).pair ((i64T).slice.pair ((i64T).slice.pair Ty.unit))).pair ((i64T).slice.pair Ty.unit))))))) 0 true [([107, 101, 114, 110, 101, 108, 95, 115, 104, 97, 112, 101], 7, 0, 0, [], (0, [], [], PUnit.unit), [p, q], PUnit.unit)]), (2, AObj.arr 9 Ty.str 0 false [[120]]), (3, AObj.arr 3 (i64T) 0 false [a, b, IntKind.i64.wrap (IntKind.i64.wrap ((IntKind.i64.wrap (IntKind.i64.wrap (IntKind.i64.wrap (IntKind.i64.wrap (c + 0) + 0) - IntKind.i64.wrap (1 * IntKind.i64.wrap (p - 1))) - 1)).tdiv 1) + 1), IntKind.i64.wrap (IntKind.i64.wrap ((IntKind.i64.wrap (IntKind.i64.wrap (IntKind.i64.wrap (IntKind.i64.wrap (d + 0) + 0) - IntKind.i64.wrap (1 * IntKind.i64.wrap (q - 1))) - 1)).tdiv 1) + 1)]), (4, AObj.arr 2 (i64T) 0 false (poolL [77, 97, 120, 80, 111, 111, 108] dt (IntKind.i64.wrap (a * b)).toNat (Int.toNat (c * d)) d.toNat p.toNat q.toNat (IntKind.i64.wrap (IntKind.i64.wrap ((IntKind.i64.wrap (IntKind.i64.wrap (IntKind.i64.wrap (IntKind.i64.wrap (c + 0) + 0) - IntKind.i64.wrap (1 * IntKind.i64.wrap (p - 1))) - 1)).tdiv 1) + 1)).toNat (IntKind.i64.wrap (IntKind.i64.wrap ((IntKind.i64.wrap (IntKind.i64.wrap (IntKind.i64.wrap (IntKind.i64.wrap (d + 0) + 0) - IntKind.i64.wrap (1 * IntKind.i64.wrap (q - 1))) - 1)).tdiv 1) + 1)).toNat))])
                            else none
                  else some (AEnd.ret [(I 0).pr (AV.nils.pr (AV.nils.pr (AV.d Ty.unit PUnit.unit))), I 4], [(0, AObj.arr 25 ((i64T).pair ((i64T).slice.pair ((i64T).slice.pair Ty.unit))) 0 false [(t, [a, b, c, d], dt, PUnit.unit)]), (1, AObj.arr 37 (Ty.str.pair ((i64T).pair ((i64T).pair ((i64T).pair (Ty.str.pair (((i64T).pair ((i64T).slice.pair ((i64T).slice.pair Ty.unit))).pair ((i64T).slice.pair Ty.unit))))))) 0 true [([107, 101, 114, 110, 101, 108, 95, 115, 104, 97, 112, 101], 7, 0, 0, [], (0, [], [], PUnit.unit), [p, q], PUnit.unit)]), (2, AObj.arr 9 Ty.str 0 false [[120]])])
              else some (AEnd.ret [(I 0).pr (AV.nils.pr (AV.nils.pr (AV.d Ty.unit PUnit.unit))), I 4], [(0, AObj.arr 25 ((i64T).pair ((i64T).slice.pair ((i64T).slice.pair Ty.unit))) 0 false [(t, [a, b, c, d], dt, PUnit.unit)]), (1, AObj.arr 37 (Ty.str.pair ((i64T).pair ((i64T).pair ((i64T).pair (Ty.str.pair (((i64T).pair ((i64T).slice.pair ((i64T).slice.pair Ty.unit))).pair ((i64T).slice.pair Ty.unit))))))) 0 true [([107, 101, 114, 110, 101, 108, 95, 115, 104, 97, 112, 101], 7, 0, 0, [], (0, [], [], PUnit.unit), [p, q], PUnit.unit)]), (2, AObj.arr 9 Ty.str 0 false [[120]])])
  else none := by kernel_rfl
end Go.Proofs.XGT
/- conv.Do of a GlobalAveragePool, an AveragePool, a MaxPool: what it answers. -/
namespace Go.Proofs.XGT
open Go.Vm Go
set_option maxRecDepth 100000
set_option maxHeartbeats 4000000
theorem wk {c p : Int} (h1 : 1 ≤ c) (h2 : c ≤ 65536) (h3 : 1 ≤ p) (h4 : p ≤ 100) : IntKind.i64.wrap (IntKind.i64.wrap (IntKind.i64.wrap (IntKind.i64.wrap (c + 0) + 0) - IntKind.i64.wrap (1 * IntKind.i64.wrap (p - 1))) - 1) = c - p := by
  have h : IntKind.i64.wrap c = c := wrap64 (by omega) (by omega)
  have h' : IntKind.i64.wrap (p - 1) = p - 1 := wrap64 (by omega) (by omega)
  have h'' : IntKind.i64.wrap (c - (p - 1)) = c - (p - 1) := wrap64 (by omega) (by omega)
  simp only [Int.add_zero, h, Int.one_mul, h', h'']
  rw [wrap64 (by omega) (by omega)]
  omega
theorem wk2 {c p : Int} (h1 : p ≤ c) (h2 : c ≤ 65536) (h3 : 1 ≤ p) : IntKind.i64.wrap (IntKind.i64.wrap ((c - p).tdiv 1) + 1) = c - p + 1 := by
  have h : IntKind.i64.wrap (c - p) = c - p := wrap64 (by omega) (by omega)
  rw [Int.tdiv_one, h, wrap64 (by omega) (by omega)]
theorem count_mk {xs : List Int} (h1 : ∀ x ∈ xs, 1 ≤ x) (h2 : xs.length ≤ 6) (h3 : prodI xs ≤ 65536) : countE xs = 0 := by
  unfold countE bigI
  rw [idxP_ge, List.any_eq_false.2 (fun x hx => by have := h1 x hx; simp only [decide_eq_true_eq]; omega), decide_eq_false (show ¬ (Int.ofNat xs.length > 6) by have : Int.ofNat xs.length = (xs.length : Int) := rfl; omega), decide_eq_false (show ¬ (prodI xs > 65536) by omega)]
  rfl
theorem count_four {a b c d : Int} (h1 : 1 ≤ a) (h2 : 1 ≤ b) (h3 : 1 ≤ c) (h4 : 1 ≤ d) (h : a * b * (c * d) ≤ 65536) : countE [a, b, c, d] = 0 :=
  count_mk (fun x hx => by simp at hx; rcases hx with rfl | rfl | rfl | rfl <;> assumption) (by simp) (by
    show 1 * a * b * c * d ≤ _
    rw [Int.one_mul, Int.mul_assoc (a * b) c d]; exact h)
def zeroT : AV := .pr (I 0) (.pr .nils (.pr .nils (.d .unit ())))
def okDG (t a b c d : Int) (dt : List Int) : AEnd × LHp := (.ret [.pr (I t) (.pr (.os 2 0) (.pr (.os 3 0) (.d .unit ()))), I 0], hpDG true t [a, b, c, d] dt ++ [(2, .arr 3 i64T 0 false [a, b, 1, 1]), (3, .arr 2 i64T 0 false (poolL strGAP dt (a * b).toNat (c * d).toNat d.toNat c.toNat d.toNat 1 1))])
theorem dog_run (t a b c d : Int) (dt : List Int) (hl : dt.length ≤ maxLen) : runC gD Tryz.f17 7 [] [nodeA strGAP [] [122] (.os 1 0) .nils, .os 0 0] (hpDG false t [a, b, c, d] dt) ah =
    bif tenE t [a, b, c, d] dt != 0 then some (.ret [zeroT, I 1], hpDG false t [a, b, c, d] dt) else bif t != 1 then some (.ret [zeroT, I 4], hpDG false t [a, b, c, d] dt) else some (okDG t a b c d dt) := by
  rw [dog_eq, decide_eq_true (show 4 ≤ 9223372036854775807 ∧ dt.length ≤ 9223372036854775807 from ⟨by decide, hl⟩)]
  simp only [cond_true]
  cases ht : tenE t [a, b, c, d] dt != 0 with
  | true => rfl
  | false =>
    obtain ⟨n0, n1, n2, n3⟩ := ten_ok (by simpa using ht)
    rw [n0, n1]
    simp only [Bool.not_true, cond_false, bne_self_eq_false]
    cases h6 : t == 6 with
    | true =>
      have : t = 6 := by simpa using h6
      subst this
      rfl
    | false =>
      simp only [cond_false]
      cases t != 1 with
      | true => rfl
      | false =>
        obtain ⟨f, hN⟩ := four_ok n1
        rw [hN] at n2
        have hab := f.ab
        have hcd := f.cd
        have wab : IntKind.i64.wrap (a * b) = a * b := wrap64 (by omega) (by omega)
        have wcd : IntKind.i64.wrap (c * d) = c * d := wrap64 (by omega) (by omega)
        have c11 : countE [a, b, 1, 1] = 0 := count_four f.a1 f.b1 (by decide) (by decide) (by omega)
        have := f.c1
        have := f.d1
        rw [c11, wab, wcd]
        simp only [cond_false, bne_self_eq_false]
        rw [decide_eq_true (show 1 ≤ c ∧ 1 ≤ d ∧ 1 ≤ a * b ∧ 0 ≤ c ∧ 0 ≤ d ∧ True ∧ Int.ofNat dt.length = a * b * (c * d) ∧ a * b * (c * d) ≤ 65536 ∧ (1 : Int) ≤ 1 ∧ (1 : Int) ≤ 1 ∧ 1 + c ≤ c + 1 ∧ 1 + d ≤ d + 1 ∧ a * b * 1 ≤ 65536 from ⟨f.c1, f.d1, hab.1, by omega, by omega, trivial, n2, f.all, by decide, by decide, by omega, by omega, by omega⟩)]
        rfl
def okDA (op : List UInt8) (t a b c d p q : Int) (dt : List Int) : AEnd × LHp := (.ret [.pr (I t) (.pr (.os 3 0) (.pr (.os 4 0) (.d .unit ()))), I 0], hpDA true true t [a, b, c, d] dt [p, q] ++ [(3, .arr 3 i64T 0 false [a, b, c - p + 1, d - q + 1]), (4, .arr 2 i64T 0 false (poolL op dt (a * b).toNat (c * d).toNat d.toNat p.toNat q.toNat (c - p + 1).toNat (d - q + 1).toNat))])
def fits (c d p q : Int) : Bool := decide (1 ≤ p) && decide (p ≤ 100) && decide (1 ≤ q) && decide (q ≤ 100) && decide (p ≤ c) && decide (q ≤ d)
theorem doa_run (t a b c d p q : Int) (dt : List Int) (hl : dt.length ≤ maxLen) : runC gD Tryz.f17 7 [] [nodeA strAP [] [122] (.os 2 0) (.os 1 0), .os 0 0] (hpDA false false t [a, b, c, d] dt [p, q]) ah =
    bif tenE t [a, b, c, d] dt != 0 then some (.ret [zeroT, I 1], hpDA false false t [a, b, c, d] dt [p, q]) else bif t != 1 || !fits c d p q then some (.ret [zeroT, I 4], hpDA false true t [a, b, c, d] dt [p, q]) else some (okDA strAP t a b c d p q dt) := by
  rw [doa_eq, decide_eq_true (show 4 ≤ 9223372036854775807 ∧ dt.length ≤ 9223372036854775807 from ⟨by decide, hl⟩)]
  simp only [cond_true]
  cases ht : tenE t [a, b, c, d] dt != 0 with
  | true => rfl
  | false =>
    obtain ⟨n0, n1, n2, n3⟩ := ten_ok (by simpa using ht)
    rw [n0, n1]
    simp only [Bool.not_true, cond_false, bne_self_eq_false]
    cases h6 : t == 6 with
    | true =>
      have : t = 6 := by simpa using h6
      subst this
      rfl
    | false =>
      simp only [cond_false]
      cases t != 1 with
      | true => rfl
      | false =>
        obtain ⟨f, hN⟩ := four_ok n1
        rw [hN] at n2
        have hab := f.ab
        have hcd := f.cd
        have wab : IntKind.i64.wrap (a * b) = a * b := wrap64 (by omega) (by omega)
        have wcd : IntKind.i64.wrap (c * d) = c * d := wrap64 (by omega) (by omega)
        have := f.c1
        have := f.d1
        have := f.c2
        have := f.d2
        unfold fits
        by_cases hp1 : 1 ≤ p
        · by_cases hp2 : p ≤ 100
          · by_cases hq1 : 1 ≤ q
            · by_cases hq2 : q ≤ 100
              · rw [wk f.c1 f.c2 hp1 hp2, wk f.d1 f.d2 hq1 hq2, wab, wcd]
                by_cases hpc : p ≤ c
                · by_cases hqd : q ≤ d
                  · rw [wk2 hpc f.c2 hp1, wk2 hqd f.d2 hq1]
                    have m1 : (c - p + 1) * (d - q + 1) ≤ c * d := Int.mul_le_mul (by omega) (by omega) (by omega) (by omega)
                    have m2 : a * b * ((c - p + 1) * (d - q + 1)) ≤ a * b * (c * d) := Int.mul_le_mul_of_nonneg_left m1 (by omega)
                    have m3 := f.all
                    have c11 : countE [a, b, c - p + 1, d - q + 1] = 0 := count_four f.a1 f.b1 (by omega) (by omega) (by omega)
                    simp only [decide_eq_true hp1, decide_eq_true hp2, decide_eq_true hq1, decide_eq_true hq2, decide_eq_true hpc, decide_eq_true hqd, decide_eq_true (show c - p ≥ 0 by omega), decide_eq_true (show d - q ≥ 0 by omega), c11, cond_true, cond_false, Bool.not_true, Bool.and_true, Bool.or_false, bne_self_eq_false]
                    rw [decide_eq_true (show 1 ≤ c ∧ 1 ≤ d ∧ 1 ≤ a * b ∧ 0 ≤ p ∧ 0 ≤ q ∧ True ∧ Int.ofNat dt.length = a * b * (c * d) ∧ a * b * (c * d) ≤ 65536 ∧ 1 ≤ c - p + 1 ∧ 1 ≤ d - q + 1 ∧ c - p + 1 + p ≤ c + 1 ∧ d - q + 1 + q ≤ d + 1 ∧ a * b * ((c - p + 1) * (d - q + 1)) ≤ 65536 from ⟨f.c1, f.d1, hab.1, by omega, by omega, trivial, n2, f.all, by omega, by omega, by omega, by omega, by omega⟩)]
                    rfl
                  · simp only [decide_eq_true hp1, decide_eq_true hp2, decide_eq_true hq1, decide_eq_true hq2, decide_eq_true hpc, decide_eq_false hqd, decide_eq_true (show c - p ≥ 0 by omega), decide_eq_false (show ¬ (d - q ≥ 0) by omega), cond_true, cond_false, Bool.not_true, Bool.not_false, Bool.and_true, Bool.and_false, Bool.or_true]
                    rfl
                · simp only [decide_eq_true hp1, decide_eq_true hp2, decide_eq_true hq1, decide_eq_true hq2, decide_eq_false hpc, decide_eq_false (show ¬ (c - p ≥ 0) by omega), cond_true, cond_false, Bool.not_true, Bool.not_false, Bool.and_true, Bool.and_false, Bool.false_and, Bool.or_true]
                  rfl
              · simp only [decide_eq_true hp1, decide_eq_true hp2, decide_eq_true hq1, decide_eq_false hq2, cond_true, cond_false, Bool.not_true, Bool.not_false, Bool.and_true, Bool.and_false, Bool.false_and, Bool.or_true]
                rfl
            · simp only [decide_eq_true hp1, decide_eq_true hp2, decide_eq_false hq1, cond_true, cond_false, Bool.not_true, Bool.not_false, Bool.and_true, Bool.and_false, Bool.false_and, Bool.or_true]
              rfl
          · simp only [decide_eq_true hp1, decide_eq_false hp2, cond_true, cond_false, Bool.not_true, Bool.not_false, Bool.and_true, Bool.and_false, Bool.false_and, Bool.or_true]
            rfl
        · simp only [decide_eq_false hp1, cond_true, cond_false, Bool.not_true, Bool.not_false, Bool.and_true, Bool.and_false, Bool.false_and, Bool.or_true]
          rfl
theorem dom_run (t a b c d p q : Int) (dt : List Int) (hl : dt.length ≤ maxLen) : runC gD Tryz.f17 7 [] [nodeA strMP [] [122] (.os 2 0) (.os 1 0), .os 0 0] (hpDA false false t [a, b, c, d] dt [p, q]) ah =
    bif tenE t [a, b, c, d] dt != 0 then some (.ret [zeroT, I 1], hpDA false false t [a, b, c, d] dt [p, q]) else bif t != 1 || !fits c d p q then some (.ret [zeroT, I 4], hpDA false true t [a, b, c, d] dt [p, q]) else some (okDA strMP t a b c d p q dt) := by
  rw [dom_eq, decide_eq_true (show 4 ≤ 9223372036854775807 ∧ dt.length ≤ 9223372036854775807 from ⟨by decide, hl⟩)]
  simp only [cond_true]
  cases ht : tenE t [a, b, c, d] dt != 0 with
  | true => rfl
  | false =>
    obtain ⟨n0, n1, n2, n3⟩ := ten_ok (by simpa using ht)
    rw [n0, n1]
    simp only [Bool.not_true, cond_false, bne_self_eq_false]
    cases h6 : t == 6 with
    | true =>
      have : t = 6 := by simpa using h6
      subst this
      rfl
    | false =>
      simp only [cond_false]
      cases t != 1 with
      | true => rfl
      | false =>
        obtain ⟨f, hN⟩ := four_ok n1
        rw [hN] at n2
        have hab := f.ab
        have hcd := f.cd
        have wab : IntKind.i64.wrap (a * b) = a * b := wrap64 (by omega) (by omega)
        have wcd : IntKind.i64.wrap (c * d) = c * d := wrap64 (by omega) (by omega)
        have := f.c1
        have := f.d1
        have := f.c2
        have := f.d2
        unfold fits
        by_cases hp1 : 1 ≤ p
        · by_cases hp2 : p ≤ 100
          · by_cases hq1 : 1 ≤ q
            · by_cases hq2 : q ≤ 100
              · rw [wk f.c1 f.c2 hp1 hp2, wk f.d1 f.d2 hq1 hq2, wab, wcd]
                by_cases hpc : p ≤ c
                · by_cases hqd : q ≤ d
                  · rw [wk2 hpc f.c2 hp1, wk2 hqd f.d2 hq1]
                    have m1 : (c - p + 1) * (d - q + 1) ≤ c * d := Int.mul_le_mul (by omega) (by omega) (by omega) (by omega)
                    have m2 : a * b * ((c - p + 1) * (d - q + 1)) ≤ a * b * (c * d) := Int.mul_le_mul_of_nonneg_left m1 (by omega)
                    have m3 := f.all
                    have c11 : countE [a, b, c - p + 1, d - q + 1] = 0 := count_four f.a1 f.b1 (by omega) (by omega) (by omega)
                    simp only [decide_eq_true hp1, decide_eq_true hp2, decide_eq_true hq1, decide_eq_true hq2, decide_eq_true hpc, decide_eq_true hqd, decide_eq_true (show c - p ≥ 0 by omega), decide_eq_true (show d - q ≥ 0 by omega), c11, cond_true, cond_false, Bool.not_true, Bool.and_true, Bool.or_false, bne_self_eq_false]
                    rw [decide_eq_true (show 1 ≤ c ∧ 1 ≤ d ∧ 1 ≤ a * b ∧ 0 ≤ p ∧ 0 ≤ q ∧ True ∧ Int.ofNat dt.length = a * b * (c * d) ∧ a * b * (c * d) ≤ 65536 ∧ 1 ≤ c - p + 1 ∧ 1 ≤ d - q + 1 ∧ c - p + 1 + p ≤ c + 1 ∧ d - q + 1 + q ≤ d + 1 ∧ a * b * ((c - p + 1) * (d - q + 1)) ≤ 65536 from ⟨f.c1, f.d1, hab.1, by omega, by omega, trivial, n2, f.all, by omega, by omega, by omega, by omega, by omega⟩)]
                    rfl
                  · simp only [decide_eq_true hp1, decide_eq_true hp2, decide_eq_true hq1, decide_eq_true hq2, decide_eq_true hpc, decide_eq_false hqd, decide_eq_true (show c - p ≥ 0 by omega), decide_eq_false (show ¬ (d - q ≥ 0) by omega), cond_true, cond_false, Bool.not_true, Bool.not_false, Bool.and_true, Bool.and_false, Bool.or_true]
                    rfl
                · simp only [decide_eq_true hp1, decide_eq_true hp2, decide_eq_true hq1, decide_eq_true hq2, decide_eq_false hpc, decide_eq_false (show ¬ (c - p ≥ 0) by omega), cond_true, cond_false, Bool.not_true, Bool.not_false, Bool.and_true, Bool.and_false, Bool.false_and, Bool.or_true]
                  rfl
              · simp only [decide_eq_true hp1, decide_eq_true hp2, decide_eq_true hq1, decide_eq_false hq2, cond_true, cond_false, Bool.not_true, Bool.not_false, Bool.and_true, Bool.and_false, Bool.false_and, Bool.or_true]
                rfl
            · simp only [decide_eq_true hp1, decide_eq_true hp2, decide_eq_false hq1, cond_true, cond_false, Bool.not_true, Bool.not_false, Bool.and_true, Bool.and_false, Bool.false_and, Bool.or_true]
              rfl
          · simp only [decide_eq_true hp1, decide_eq_false hp2, cond_true, cond_false, Bool.not_true, Bool.not_false, Bool.and_true, Bool.and_false, Bool.false_and, Bool.or_true]
            rfl
        · simp only [decide_eq_false hp1, cond_true, cond_false, Bool.not_true, Bool.not_false, Bool.and_true, Bool.and_false, Bool.false_and, Bool.or_true]
          rfl

end Go.Proofs.XGT
/- conv.Do of pools as an answer in a function's place; the law ConvGlobal's tree. -/
namespace Go.Proofs.XGT
open Go.Vm Go
set_option maxRecDepth 100000
set_option maxHeartbeats 4000000
def doTG : List AV → LHp → Tq
  | [n, .os 0 0], [(0, .arr 25 ((.pair (.int .i64) (.pair (.slice (.int .i64)) (.pair (.slice (.int .i64)) .unit)))) 0 false [(t, [a, b, c, d], dt, ())]), (1, .arr 9 .str 0 false ins)] =>
    (match nodeP n with
    | some (op, nm, out, .os 1 0, .nils) => gate (decide (op = strGAP) && decide (nm = []) && decide (out = [122]) && decide (ins = [[120]]))
        (.br (decide (dt.length ≤ maxLen)) (.br (tenE t [a, b, c, d] dt != 0) (.leaf (.ret [zeroT, I 1]) (hpDG false t [a, b, c, d] dt)) (.br (t != 1) (.leaf (.ret [zeroT, I 4]) (hpDG false t [a, b, c, d] dt)) (.leaf (okDG t a b c d dt).1 (okDG t a b c d dt).2))) .no)
    | _ => .no)
  | _, _ => .no
theorem doTG_ok : FnE.OK e0.P e0.gam 17 (treeE doTG) := by
  refine ⟨fun _ _ _ => Tq.eq _ _, fun args hs ae hs' h => ?_⟩
  have h' : (doTG args hs).run ah = some (ae, hs') := h
  clear h
  unfold doTG at h'
  split at h'
  · split at h'
    · rename_i hn
      rw [nodeP_some hn]
      obtain ⟨hb, h2⟩ := gate_run h'
      clear h'
      simp only [Bool.and_eq_true, decide_eq_true_eq] at hb
      obtain ⟨⟨⟨b1, b2⟩, b3⟩, b4⟩ := hb
      subst b1 b2 b3 b4
      obtain ⟨hl, h3⟩ := Tq.br_no h2
      clear h2
      exact doE2_ok.okC ((dog_run _ _ _ _ _ _ (of_decide_eq_true hl)).trans h3)
    · cases h'
  · cases h'
def doTK (op0 : List UInt8) : List AV → LHp → Tq
  | [n, .os 0 0], [(0, .arr 25 ((.pair (.int .i64) (.pair (.slice (.int .i64)) (.pair (.slice (.int .i64)) .unit)))) 0 false [(t, [a, b, c, d], dt, ())]), (1, .arr 37 ((.pair .str (.pair (.int .i64) (.pair (.int .i64) (.pair (.int .i64) (.pair .str (.pair (.pair (.int .i64) (.pair (.slice (.int .i64)) (.pair (.slice (.int .i64)) .unit))) (.pair (.slice (.int .i64)) .unit)))))))) 0 false ats), (2, .arr 9 .str 0 false ins)] =>
    (match nodeP n with
    | some (op, nm, out, .os 2 0, .os 1 0) => gate (decide (op = op0) && decide (nm = []) && decide (out = [122]) && decide (ins = [[120]]))
        (.opt (oneAttr strKS ats) fun l => match l with
        | [p, q] => .br (decide (dt.length ≤ maxLen)) (.br (tenE t [a, b, c, d] dt != 0) (.leaf (.ret [zeroT, I 1]) (hpDA false false t [a, b, c, d] dt [p, q])) (.br (t != 1 || !fits c d p q) (.leaf (.ret [zeroT, I 4]) (hpDA false true t [a, b, c, d] dt [p, q])) (.leaf (okDA op0 t a b c d p q dt).1 (okDA op0 t a b c d p q dt).2))) .no
        | _ => .no)
    | _ => .no)
  | _, _ => .no
theorem doTK_ok {op0 : List UInt8} (hc : ∀ (t a b c d p q : Int) (dt : List Int) (_ : dt.length ≤ maxLen), runC gD Tryz.f17 7 [] [nodeA op0 [] [122] (.os 2 0) (.os 1 0), .os 0 0] (hpDA false false t [a, b, c, d] dt [p, q]) ah =
    bif tenE t [a, b, c, d] dt != 0 then some (.ret [zeroT, I 1], hpDA false false t [a, b, c, d] dt [p, q]) else bif t != 1 || !fits c d p q then some (.ret [zeroT, I 4], hpDA false true t [a, b, c, d] dt [p, q]) else some (okDA op0 t a b c d p q dt)) : FnE.OK e0.P e0.gam 17 (treeE (doTK op0)) := by
  refine ⟨fun _ _ _ => Tq.eq _ _, fun args hs ae hs' h => ?_⟩
  have h' : (doTK op0 args hs).run ah = some (ae, hs') := h
  clear h
  unfold doTK at h'
  split at h'
  · split at h'
    · rename_i hn
      rw [nodeP_some hn]
      obtain ⟨hb, h2⟩ := gate_run h'
      clear h'
      simp only [Bool.and_eq_true, decide_eq_true_eq] at hb
      obtain ⟨⟨⟨b1, b2⟩, b3⟩, b4⟩ := hb
      subst b1 b2 b3 b4
      simp only [Tq.run] at h2
      obtain ⟨l, hl, h3⟩ := bind_some h2
      clear h2
      rw [oneAttr_some hl]
      split at h3
      · obtain ⟨hl2, h4⟩ := Tq.br_no h3
        clear h3
        exact doE2_ok.okC ((hc _ _ _ _ _ _ _ _ (of_decide_eq_true hl2)).trans h4)
      · cases h3
    · cases h'
  · cases h'
def doT (args : List AV) (hs : LHp) : Tq := orT (doTG args hs) (orT (doTK strAP args hs) (doTK strMP args hs))
theorem doT_ok : FnE.OK e0.P e0.gam 17 (treeE doT) := treeE_or doTG_ok (treeE_or (doTK_ok doa_run) (doTK_ok dom_run))
noncomputable def C_lawg : Code := codeOf Tryz.f3
noncomputable def cf_lawg : Cfg := ⟨74, 7, 0, [], true⟩
noncomputable def gLg : Env := ((g171.add 17 (treeE doT)).add 18 (treeE satpF)).add 16 (fnE liveF)
theorem gLg_good : gLg.Good := ((g171_good.add doT_ok).add satpE_ok).add liveE_ok
theorem lawg_eq (t a b c d : Int) (dt : List Int) : runC gLg Tryz.f3 7 [] [.d (Y0) (t, [a, b, c, d], dt, ())] [] ah =
  bif decide (Int.ofNat dt.length > 600) then some (AEnd.ret [B true], [])
  else 
    bif decide (dt.length ≤ 9223372036854775807) then 
      bif tenE t [a, b, c, d] dt != 0 then 
        bif decide (dt.length ≤ 9223372036854775807) then 
          bif tenE t [a, b, c, d] dt != 0 then some (AEnd.ret [B true], [])
          else 
            bif t != 1 || !fits c d c d then some (AEnd.ret [B true], [])
            else some (AEnd.ret [B true], [])
        else none
      else 
        bif t != 1 then 
          bif decide (dt.length ≤ 9223372036854775807) then 
            bif tenE t [a, b, c, d] dt != 0 then some (AEnd.ret [B true], [])
            else 
              bif t != 1 || !fits c d c d then some (AEnd.ret [B true], [])
              else some (AEnd.ret [B true], [])
          else none
        else 
          bif decide (dt.length ≤ 9223372036854775807) then 
            bif tenE t [a, b, c, d] dt != 0 then 
              bif decide (c > 100) then some (AEnd.ret [B true], [])
              else 
                bif decide (d > 100) then some (AEnd.ret [B true], [])
                else some (AEnd.ret [B false], [])
            else 
              bif t != 1 || !fits c d c d then 
                bif decide (c > 100) then some (AEnd.ret [B true], [])
                else 
                  bif decide (d > 100) then some (AEnd.ret [B true], [])
                  else some (AEnd.ret [B false], [])
              else 
                bif decide (c > 100) then some (AEnd.ret [B true], [])
                else 
                  bif decide (d > 100) then some (AEnd.ret [B true], [])
                  else 
                    bif decide (4 ≤ 9223372036854775807 ∧ (poolL [71, 108, 111, 98, 97, 108, 65, 118, 101, 114, 97, 103, 101, 80, 111, 111, 108] dt (a * b).toNat (c * d).toNat d.toNat c.toNat d.toNat 1 1).length ≤ 9223372036854775807 ∧ t = t ∧ [a, b, 1, 1] = [a, b, c - c + 1, d - d + 1] ∧ poolL [71, 108, 111, 98, 97, 108, 65, 118, 101, 114, 97, 103, 101, 80, 111, 111, 108] dt (a * b).toNat (c * d).toNat d.toNat c.toNat d.toNat 1 1 = poolL [65, 118, 101, 114, 97, 103, 101, 80, 111, 111, 108] dt (a * b).toNat (c * d).toNat d.toNat c.toNat d.toNat (c - c + 1).toNat (d - d + 1).toNat) then some (AEnd.ret [B true], [])
                    else none
          else none
    else none := by kernel_rfl
theorem lawg_0 (t : Int) (dt : List Int) : runC gLg Tryz.f3 7 [] [.d (Y0) (t, [], dt, ())] [] ah =
  bif decide (Int.ofNat dt.length > 600) then some (AEnd.ret [B true], [])
  else some (AEnd.ret [B true], []) := by kernel_rfl
theorem lawg_1 (t a : Int) (dt : List Int) : runC gLg Tryz.f3 7 [] [.d (Y0) (t, [a], dt, ())] [] ah =
  bif decide (Int.ofNat dt.length > 600) then some (AEnd.ret [B true], [])
  else some (AEnd.ret [B true], []) := by kernel_rfl
theorem lawg_2 (t a b : Int) (dt : List Int) : runC gLg Tryz.f3 7 [] [.d (Y0) (t, [a, b], dt, ())] [] ah =
  bif decide (Int.ofNat dt.length > 600) then some (AEnd.ret [B true], [])
  else some (AEnd.ret [B true], []) := by kernel_rfl
theorem lawg_3 (t a b c : Int) (dt : List Int) : runC gLg Tryz.f3 7 [] [.d (Y0) (t, [a, b, c], dt, ())] [] ah =
  bif decide (Int.ofNat dt.length > 600) then some (AEnd.ret [B true], [])
  else some (AEnd.ret [B true], []) := by kernel_rfl
theorem lawg_5 (t a b c d e : Int) (r : List Int) (dt : List Int) : runC gLg Tryz.f3 7 [] [.d (Y0) (t, a :: b :: c :: d :: e :: r, dt, ())] [] ah =
  bif decide (Int.ofNat dt.length > 600) then some (AEnd.ret [B true], [])
  else some (AEnd.ret [B true], []) := by kernel_rfl
end Go.Proofs.XGT
/- The law ConvGlobal answers true, whatever the tensor. -/
namespace Go.Proofs.XGT
open Go.Vm Go
set_option maxRecDepth 100000
set_option maxHeartbeats 4000000
theorem togF_op {op op' : List UInt8} (h : (op == [77, 97, 120, 80, 111, 111, 108]) = false) (h' : (op' == [77, 97, 120, 80, 111, 111, 108]) = false) (pic : List Int) (W KW h0 w : Nat) : ∀ i, togF op pic W KW h0 w i = togF op' pic W KW h0 w i
  | 0 => rfl
  | i + 1 => by
    simp only [togF, stepS, h, h', togF_op h h' pic W KW h0 w i]
theorem togR_op {op op' : List UInt8} (h : (op == [77, 97, 120, 80, 111, 111, 108]) = false) (h' : (op' == [77, 97, 120, 80, 111, 111, 108]) = false) : togR op = togR op' := by
  funext pic W KH KW a b
  simp only [togR, h, h', togF_op h h']
theorem poolL_op {op op' : List UInt8} (h : (op == [77, 97, 120, 80, 111, 111, 108]) = false) (h' : (op' == [77, 97, 120, 80, 111, 111, 108]) = false) : poolL op = poolL op' := by
  funext dt P PE W KH KW D2 D
  unfold poolL planeL rowL
  rw [togR_op h h']
theorem lawg_true4 (t a b c d : Int) (dt : List Int) (h2 : dt.length ≤ maxLen) : runC gLg Tryz.f3 7 [] [.d (Y0) (t, [a, b, c, d], dt, ())] [] ah = some (.ret [B true], []) := by
  rw [lawg_eq]
  cases decide (Int.ofNat dt.length > 600) with
  | true => rfl
  | false =>
    rw [decide_eq_true (show dt.length ≤ 9223372036854775807 from h2)]
    simp only [cond_true, cond_false]
    cases ht : tenE t [a, b, c, d] dt != 0 with
    | true => rfl
    | false =>
      simp only [cond_false]
      cases h1 : t != 1 with
      | true => simp only [Bool.true_or, cond_true]
      | false =>
        simp only [cond_false, Bool.false_or]
        by_cases hc : c > 100
        · simp only [decide_eq_true hc, cond_true]
          cases !fits c d c d <;> rfl
        · by_cases hd : d > 100
          · simp only [decide_eq_false hc, decide_eq_true hd, cond_true, cond_false]
            cases !fits c d c d <;> rfl
          · obtain ⟨n0, n1, n2, n3⟩ := ten_ok (by simpa using ht)
            obtain ⟨f, hN⟩ := four_ok n1
            have := f.c1
            have := f.d1
            have hab := f.ab
            have hf : fits c d c d = true := by
              unfold fits
              simp only [decide_eq_true (show 1 ≤ c by omega), decide_eq_true (show c ≤ 100 by omega), decide_eq_true (show 1 ≤ d by omega), decide_eq_true (show d ≤ 100 by omega), decide_eq_true (show c ≤ c by omega), decide_eq_true (show d ≤ d by omega), Bool.and_true]
            rw [hf]
            simp only [decide_eq_false hc, decide_eq_false hd, cond_false, Bool.not_true]
            have e1 : c - c + 1 = 1 := by omega
            have e2 : d - d + 1 = 1 := by omega
            rw [e1, e2, show (1 : Int).toNat = 1 from rfl, poolL_op (op := [65, 118, 101, 114, 97, 103, 101, 80, 111, 111, 108]) (op' := [71, 108, 111, 98, 97, 108, 65, 118, 101, 114, 97, 103, 101, 80, 111, 111, 108]) (by decide) (by decide)]
            rw [decide_eq_true ⟨by decide, by rw [poolL_length]; omega, trivial, rfl, rfl⟩]
            rfl
theorem lawg_true (t : Int) (xd dt : List Int) (_ : xd.length ≤ maxLen) (h2 : dt.length ≤ maxLen) : runC gLg Tryz.f3 7 [] [.d (Y0) (t, xd, dt, ())] [] ah = some (.ret [B true], []) := by
  match xd with
  | [] => rw [lawg_0]; cases decide (Int.ofNat dt.length > 600) <;> rfl
  | [a] => rw [lawg_1]; cases decide (Int.ofNat dt.length > 600) <;> rfl
  | [a, b] => rw [lawg_2]; cases decide (Int.ofNat dt.length > 600) <;> rfl
  | [a, b, c] => rw [lawg_3]; cases decide (Int.ofNat dt.length > 600) <;> rfl
  | [a, b, c, d] => exact lawg_true4 t a b c d dt h2
  | a :: b :: c :: d :: e :: r => rw [lawg_5]; cases decide (Int.ofNat dt.length > 600) <;> rfl
theorem lawg_call (t : Int) (xd dt : List Int) (h1 : xd.length ≤ maxLen) (h2 : dt.length ≤ maxLen) : FnH Tryz.prog (Env.gam e0) 3 [.d (Y0) (t, xd, dt, ())] (hget []) (fun ae h1 => ae = .ret [B true] ∧ h1 = hget []) :=
  runC_call gLg_good hmix Tryz.func3 Tryz.call3 (by decide +kernel) rfl (lawg_true t xd dt h1 h2)
end Go.Proofs.XGT
