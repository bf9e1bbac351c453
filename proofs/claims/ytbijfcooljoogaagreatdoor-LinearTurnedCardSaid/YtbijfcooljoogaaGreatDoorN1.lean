/- Functions that many laws reach, by what they answer: num.Check, shape.Count, pb.Check. -/
import Derived.Test.YtbijfcooljoogaaGreatDoorGT

namespace Go.Proofs.XGT
open Go.Vm Go
set_option maxRecDepth 100000
set_option maxHeartbeats 4000000

noncomputable def C_chk : Code := codeOf Tryz.f34
noncomputable def cf_chk : Cfg := ⟨42, 6, 0, [], true⟩
noncomputable def C_cnt1 : Code := codeOf Tryz.f98
noncomputable def cf_cnt1 : Cfg := ⟨5, 3, 0, [], true⟩
noncomputable def C_idxi : Code := codeOf Tryz.f128
noncomputable def cf_idxi : Cfg := ⟨19, 5, 0, [(2, [0, 1, 7, 8])], true⟩
noncomputable def C_coni : Code := codeOf Tryz.f97
noncomputable def cf_coni : Cfg := ⟨9, 4, 0, [], true⟩
noncomputable def C_count : Code := codeOf Tryz.f57
noncomputable def cf_count : Cfg := ⟨27, 5, 0, [(7, [4, 12, 13, 14])], true⟩
noncomputable def C_typed : Code := codeOf Tryz.f86
noncomputable def cf_typed : Cfg := ⟨5, 3, 0, [], true⟩
noncomputable def C_pbc1 : Code := codeOf Tryz.f88
noncomputable def cf_pbc1 : Cfg := ⟨9, 4, 1, [], true⟩
noncomputable def C_idxl : Code := codeOf Tryz.f112
noncomputable def cf_idxl : Cfg := ⟨19, 5, 1, [(2, [0, 1, 7, 8])], true⟩
noncomputable def C_conl : Code := codeOf Tryz.f87
noncomputable def cf_conl : Cfg := ⟨9, 4, 1, [], true⟩
noncomputable def C_pbc : Code := codeOf Tryz.f54
noncomputable def cf_pbc : Cfg := ⟨29, 5, 0, [], true⟩

/-- is x an element of the type t -/
def numOk (t x : Int) : Bool :=
  bif t == 1 then
    bif IntKind.i64.wrap (Int.ofNat (BitVec.ofInt 64 x &&& BitVec.ofNat 64 2139095040).toNat) == 2139095040 then
      bif x.fdiv 4294967296 == 0 then
        bif !IntKind.i64.wrap (Int.ofNat (BitVec.ofInt 64 x &&& BitVec.ofNat 64 8388607).toNat) != 0 then true else x == 2143289344
      else false
    else
      bif x.fdiv 4294967296 == 0 then true else false
  else
    bif t == 6 then x == IntKind.i64.wrap (IntKind.i32.wrap x)
    else
      bif t == 9 then x.fdiv 2 == 0 else t == 7
theorem chk_eq (t x : Int) : runC e1 Tryz.f34 6 [] [I t, I x] [] ah =
  bif t == 1 then 
    bif IntKind.i64.wrap (Int.ofNat (BitVec.ofInt 64 x &&& 2139095040#64).toNat) == 2139095040 then 
      bif x.fdiv 4294967296 == 0 then 
        bif !IntKind.i64.wrap (Int.ofNat (BitVec.ofInt 64 x &&& 8388607#64).toNat) != 0 then some (AEnd.ret [B true], [])
        else some (AEnd.ret [B (x == 2143289344)], [])
      else some (AEnd.ret [B false], [])
    else 
      bif x.fdiv 4294967296 == 0 then some (AEnd.ret [B true], [])
      else some (AEnd.ret [B false], [])
  else 
    bif t == 6 then some (AEnd.ret [B (x == IntKind.i64.wrap (IntKind.i32.wrap x))], [])
    else 
      bif t == 9 then some (AEnd.ret [B (x.fdiv 2 == 0)], [])
      else some (AEnd.ret [B (t == 7)], []) := by kernel_rfl
def chkF : List AV → LHp → Option (AEnd × LHp)
  | [.d (.int .i64) t, .d (.int .i64) x], [] => some (.ret [B (numOk t x)], [])
  | _, _ => none
theorem chk_run (t x : Int) : runC e1 Tryz.f34 6 [] [I t, I x] [] ah = some (.ret [B (numOk t x)], []) := by
  rw [chk_eq]
  unfold numOk
  generalize (t == 1) = c1
  generalize (t == 6) = c2
  generalize (t == 9) = c3
  generalize (IntKind.i64.wrap (Int.ofNat (BitVec.ofInt 64 x &&& BitVec.ofNat 64 2139095040).toNat) == 2139095040) = c4
  generalize (x.fdiv 4294967296 == 0) = c5
  generalize (!IntKind.i64.wrap (Int.ofNat (BitVec.ofInt 64 x &&& BitVec.ofNat 64 8388607).toNat) != 0) = c6
  cases c1 <;> cases c2 <;> cases c3 <;> cases c4 <;> cases c5 <;> cases c6 <;> rfl
theorem chkE_ok : FnE.OK e0.P e0.gam 34 (fnE chkF) := by
  refine fnC_ok e1_good hmix Tryz.func34 Tryz.call34 (depth := 6) (live := []) (by decide +kernel) rfl fun args hs p h => ?_
  unfold chkF at h
  split at h
  · cases h
    exact chk_run _ _
  · cases h

theorem cnt1_eq (d : Int) : runC e3 Tryz.f98 3 [] [I d] [] ah =
  some (AEnd.ret [B (decide (d < 1))], []) := by kernel_rfl
def cnt1F : List AV → LHp → Option (AEnd × LHp)
  | [.d (.int .i64) d], [] => some (.ret [B (decide (d < 1))], [])
  | _, _ => none
theorem cnt1E_ok : FnE.OK e0.P e0.gam 98 (fnE cnt1F) := by
  refine fnC_ok e3_good hmix Tryz.func98 Tryz.call98 (depth := 3) (live := []) (by decide +kernel) rfl fun args hs p h => ?_
  unfold cnt1F at h
  split at h
  · cases h
    exact cnt1_eq _
  · cases h

/-! ### shape.Count -/
noncomputable def eA : Env := e0.add 98 (fnE cnt1F)
theorem eA_good : eA.Good := e0_good.add cnt1E_ok
def stI (xs : List Int) (i : Int) : LSt := ⟨mkFr 5 [(0, .d (.slice i64T) xs), (1, .fn (.func 98) [] []), (7, I (Int.ofNat xs.length)), (8, I i)], [], 0⟩
theorem idxi_eqH (hl : Hl) (xs : List Int) : runH eA Tryz.f128 5 [(2, [0, 1, 7, 8])] [2] hl [.d (.slice i64T) xs, .fn (.func 98) [] []] [] ah =
  hl (cL (cL (cR (cL (cR C_idxi))))) _ { fr := mkFr 5 [(0, AV.d (i64T).slice xs), (1, AV.fn (Fn.func 98) [] []), (7, I (Int.ofNat xs.length)), (8, I 0)], hp := [], nx := 0 } (blkK 0 (seqH eA cf_idxi [2] hl (cR (cR C_idxi)) (endC Tryz.prog 0 Tryz.f128.results.toList ah))) := by kernel_rfl
theorem idxi_eq (xs : List Int) : runC eA Tryz.f128 5 [(2, [0, 1, 7, 8])] [.d (.slice i64T) xs, .fn (.func 98) [] []] [] ah =
  (hlp eA cf_idxi) (cL (cL (cR (cL (cR C_idxi))))) _ { fr := mkFr 5 [(0, AV.d (i64T).slice xs), (1, AV.fn (Fn.func 98) [] []), (7, I (Int.ofNat xs.length)), (8, I 0)], hp := [], nx := 0 } (blkK 0 (seqH eA cf_idxi [2] (hlp eA cf_idxi) (cR (cR C_idxi)) (endC Tryz.prog 0 Tryz.f128.results.toList ah))) := runH_runC.trans (idxi_eqH (hlp eA cf_idxi) xs)
theorem idxi_stepH (hl : Hl) (xs : List Int) (i : Int) (n : Nat) {R : Type} (k : AEx → LSt → Option R) : lpH eA cf_idxi [2] hl (cL (cL (cR (cL (cR C_idxi))))) (n + 1) (stI xs i) k =
  bif decide (i < Int.ofNat xs.length) then (idx xs i).bind fun v1 =>
      bif decide (v1 < 1) then k AEx.ret { fr := mkFr 5 [(0, AV.d (i64T).slice xs), (1, AV.fn (Fn.func 98) [] []), (4, I i), (5, I i), (7, I (Int.ofNat xs.length)), (8, I i), (9, B true), (10, I i), (11, AV.fn (Fn.func 98) [] []), (12, AV.d (i64T).slice xs), (13, I i), (14, AV.ip (i64T) v1), (15, I v1), (16, B true), (17, I i)], hp := [], nx := 0 }
      else lpH eA cf_idxi [2] hl (cL (cL (cR (cL (cR C_idxi))))) n { fr := mkFr 5 [(0, AV.d (i64T).slice xs), (1, AV.fn (Fn.func 98) [] []), (7, I (Int.ofNat xs.length)), (8, I (IntKind.i64.wrap (i + 1)))], hp := [], nx := 0 } k
  else k (AEx.exit 0) { fr := mkFr 5 [(0, AV.d (i64T).slice xs), (1, AV.fn (Fn.func 98) [] []), (7, I (Int.ofNat xs.length)), (8, I i), (9, B false)], hp := [], nx := 0 } := by kernel_rfl
theorem idxi_step (xs : List Int) (i : Int) (n : Nat) {R : Type} (k : AEx → LSt → Option R) : lp eA cf_idxi (cL (cL (cR (cL (cR C_idxi))))) (n + 1) (stI xs i) k =
  bif decide (i < Int.ofNat xs.length) then (idx xs i).bind fun v1 =>
      bif decide (v1 < 1) then k AEx.ret { fr := mkFr 5 [(0, AV.d (i64T).slice xs), (1, AV.fn (Fn.func 98) [] []), (4, I i), (5, I i), (7, I (Int.ofNat xs.length)), (8, I i), (9, B true), (10, I i), (11, AV.fn (Fn.func 98) [] []), (12, AV.d (i64T).slice xs), (13, I i), (14, AV.ip (i64T) v1), (15, I v1), (16, B true), (17, I i)], hp := [], nx := 0 }
      else lp eA cf_idxi (cL (cL (cR (cL (cR C_idxi))))) n { fr := mkFr 5 [(0, AV.d (i64T).slice xs), (1, AV.fn (Fn.func 98) [] []), (7, I (Int.ofNat xs.length)), (8, I (IntKind.i64.wrap (i + 1)))], hp := [], nx := 0 } k
  else k (AEx.exit 0) { fr := mkFr 5 [(0, AV.d (i64T).slice xs), (1, AV.fn (Fn.func 98) [] []), (7, I (Int.ofNat xs.length)), (8, I i), (9, B false)], hp := [], nx := 0 } := by
  have h := idxi_stepH (hlp eA cf_idxi) xs i n k
  simp only [lpH_lp] at h
  exact h
theorem idxi_run (xs : List Int) (hl : xs.length ≤ maxLen) : runC eA Tryz.f128 5 [(2, [0, 1, 7, 8])] [.d (.slice i64T) xs, .fn (.func 98) [] []] [] ah = some (.ret [I (idxP (fun d => decide (d < 1)) xs)], []) := by
  rw [idxi_eq]
  have h := find_lp (T := fun n s => lp eA cf_idxi (cL (cL (cR (cL (cR C_idxi))))) n s (blkK 0 (seqH eA cf_idxi [2] (hlp eA cf_idxi) (cR (cR C_idxi)) (endC Tryz.prog 0 Tryz.f128.results.toList ah)))) (xs := xs) (st := fun i => stI xs i) hl (fun i n => idxi_step xs i n _)
  unfold stI at h
  refine h.trans ?_
  unfold idxP
  cases hq : xs.findIdx? (fun d => decide (d < 1)) with
  | none => show _ = _; kernel_rfl
  | some i =>
    obtain ⟨hi, _⟩ := List.findIdx?_eq_some_iff_getElem.1 hq
    simp only [List.getElem?_eq_getElem hi, Option.bind_some]
    show _ = _
    kernel_rfl
def idxiF : List AV → LHp → Tq
  | [.d (.slice (.int .i64)) xs, .fn (.func 98) [] []], [] => .br (decide (xs.length ≤ maxLen)) (.leaf (.ret [I (idxP (fun d => decide (d < 1)) xs)]) []) .no
  | _, _ => .no
theorem idxiE_ok : FnE.OK e0.P e0.gam 128 (treeE idxiF) := by
  refine treeC_ok eA_good hmix Tryz.func128 Tryz.call128 (depth := 5) (live := [(2, [0, 1, 7, 8])]) (by decide +kernel) rfl fun args hs p h => ?_
  unfold idxiF at h
  split at h
  · obtain ⟨hl, h⟩ := Tq.br_no h
    cases h
    have hl := of_decide_eq_true hl
    exact idxi_run _ hl
  · cases h
def coniF : List AV → LHp → Tq
  | [.d (.slice (.int .i64)) xs, .fn (.func 98) [] []], [] => .br (decide (xs.length ≤ maxLen)) (.leaf (.ret [B (decide (idxP (fun d => decide (d < 1)) xs ≥ 0))]) []) .no
  | _, _ => .no
noncomputable def eB : Env := e0.add 128 (treeE idxiF)
theorem eB_good : eB.Good := e0_good.add idxiE_ok
theorem coni_eq (xs : List Int) : runC eB Tryz.f97 4 [] [.d (.slice i64T) xs, .fn (.func 98) [] []] [] ah =
  bif decide (xs.length ≤ 9223372036854775807) then some (AEnd.ret [B (decide (idxP (fun d => decide (d < 1)) xs ≥ 0))], [])
  else none := by kernel_rfl
theorem coniE_ok : FnE.OK e0.P e0.gam 97 (treeE coniF) := by
  refine treeC_ok eB_good hmix Tryz.func97 Tryz.call97 (depth := 4) (live := []) (by decide +kernel) rfl fun args hs p h => ?_
  unfold coniF at h
  split at h
  · obtain ⟨hl, h⟩ := Tq.br_no h
    cases h
    have hl := of_decide_eq_true hl
    exact ((coni_eq _).trans (by rw [decide_eq_true (show _ ≤ 9223372036854775807 from hl)]; rfl))
  · cases h
noncomputable def eC : Env := e0.add 97 (treeE coniF)
theorem eC_good : eC.Good := e0_good.add coniE_ok
theorem count_eqH (hl : Hl) (xs : List Int) : runH eC Tryz.f57 5 [(7, [4, 12, 13, 14])] [7] hl [.d (.slice i64T) xs] [] ah =
  bif decide (xs.length ≤ 9223372036854775807) then 
    bif decide (idxP (fun d => decide (d < 1)) xs ≥ 0) then some (AEnd.ret [I 0, I 4], [])
    else 
      bif decide (Int.ofNat xs.length > 6) then some (AEnd.ret [I 0, I 6], [])
      else hl (cL (cL (cR (cL (cR (cR (cR (cR C_count)))))))) _ { fr := mkFr 5 [(4, I 1), (12, AV.d (i64T).slice xs), (13, I (Int.ofNat xs.length)), (14, I 0)], hp := [], nx := 0 } (blkK 0 (seqH eC cf_count [7] hl (cR (cR (cR (cR (cR C_count))))) (endC Tryz.prog 0 Tryz.f57.results.toList ah)))
  else none := by kernel_rfl
theorem count_eq (xs : List Int) : runC eC Tryz.f57 5 [(7, [4, 12, 13, 14])] [.d (.slice i64T) xs] [] ah =
  bif decide (xs.length ≤ 9223372036854775807) then 
    bif decide (idxP (fun d => decide (d < 1)) xs ≥ 0) then some (AEnd.ret [I 0, I 4], [])
    else 
      bif decide (Int.ofNat xs.length > 6) then some (AEnd.ret [I 0, I 6], [])
      else (hlp eC cf_count) (cL (cL (cR (cL (cR (cR (cR (cR C_count)))))))) _ { fr := mkFr 5 [(4, I 1), (12, AV.d (i64T).slice xs), (13, I (Int.ofNat xs.length)), (14, I 0)], hp := [], nx := 0 } (blkK 0 (seqH eC cf_count [7] (hlp eC cf_count) (cR (cR (cR (cR (cR C_count))))) (endC Tryz.prog 0 Tryz.f57.results.toList ah)))
  else none := runH_runC.trans (count_eqH (hlp eC cf_count) xs)
def stC (xs : List Int) (n i : Int) : LSt := ⟨mkFr 5 [(4, I n), (12, .d (.slice i64T) xs), (13, I (Int.ofNat xs.length)), (14, I i)], [], 0⟩
theorem count_stepH (hl : Hl) (xs : List Int) (v i : Int) (n : Nat) {R : Type} (k : AEx → LSt → Option R) : lpH eC cf_count [7] hl (cL (cL (cR (cL (cR (cR (cR (cR C_count)))))))) (n + 1) (stC xs v i) k =
  bif decide (i < Int.ofNat xs.length) then (idx xs i).bind fun v1 =>
      (if v = 0 then none else some (IntKind.i64.wrap (Int.tdiv 65536 v))).bind fun v2 =>
        bif decide (v1 > v2) then k AEx.ret { fr := mkFr 5 [(2, I 0), (3, I 6), (4, I v), (6, I v1), (12, AV.d (i64T).slice xs), (13, I (Int.ofNat xs.length)), (14, I i), (15, B true), (16, AV.ip (i64T) v1), (17, I v1), (18, I v1), (19, I v), (20, I v2), (21, B true)], hp := [], nx := 0 }
        else lpH eC cf_count [7] hl (cL (cL (cR (cL (cR (cR (cR (cR C_count)))))))) n { fr := mkFr 5 [(4, I (IntKind.i64.wrap (v * v1))), (12, AV.d (i64T).slice xs), (13, I (Int.ofNat xs.length)), (14, I (IntKind.i64.wrap (i + 1)))], hp := [], nx := 0 } k
  else k (AEx.exit 0) { fr := mkFr 5 [(4, I v), (12, AV.d (i64T).slice xs), (13, I (Int.ofNat xs.length)), (14, I i), (15, B false)], hp := [], nx := 0 } := by kernel_rfl
theorem count_step (xs : List Int) (v i : Int) (n : Nat) {R : Type} (k : AEx → LSt → Option R) : lp eC cf_count (cL (cL (cR (cL (cR (cR (cR (cR C_count)))))))) (n + 1) (stC xs v i) k =
  bif decide (i < Int.ofNat xs.length) then (idx xs i).bind fun v1 =>
      (if v = 0 then none else some (IntKind.i64.wrap (Int.tdiv 65536 v))).bind fun v2 =>
        bif decide (v1 > v2) then k AEx.ret { fr := mkFr 5 [(2, I 0), (3, I 6), (4, I v), (6, I v1), (12, AV.d (i64T).slice xs), (13, I (Int.ofNat xs.length)), (14, I i), (15, B true), (16, AV.ip (i64T) v1), (17, I v1), (18, I v1), (19, I v), (20, I v2), (21, B true)], hp := [], nx := 0 }
        else lp eC cf_count (cL (cL (cR (cL (cR (cR (cR (cR C_count)))))))) n { fr := mkFr 5 [(4, I (IntKind.i64.wrap (v * v1))), (12, AV.d (i64T).slice xs), (13, I (Int.ofNat xs.length)), (14, I (IntKind.i64.wrap (i + 1)))], hp := [], nx := 0 } k
  else k (AEx.exit 0) { fr := mkFr 5 [(4, I v), (12, AV.d (i64T).slice xs), (13, I (Int.ofNat xs.length)), (14, I i), (15, B false)], hp := [], nx := 0 } := by
  have h := count_stepH (hlp eC cf_count) xs v i n k
  simp only [lpH_lp] at h
  exact h
/-- the product of a list -/
def prodI (xs : List Int) : Int := xs.foldl (· * ·) 1
theorem prodI_succ {xs : List Int} {i : Nat} {x : Int} (h : xs[i]? = some x) : prodI (xs.take (i + 1)) = prodI (xs.take i) * x := by
  unfold prodI
  rw [List.take_add_one, h, List.foldl_append]
  rfl
theorem prodI_pos {xs : List Int} (h : ∀ x ∈ xs, 1 ≤ x) : ∀ i, 1 ≤ prodI (xs.take i) := by
  intro i
  induction i with
  | zero => simp [prodI]
  | succ i ih =>
    cases hx : xs[i]? with
    | none =>
      have : xs.length ≤ i := List.getElem?_eq_none_iff.1 hx
      rw [List.take_of_length_le (by omega)]
      rw [List.take_of_length_le (by omega)] at ih
      exact ih
    | some x =>
      rw [prodI_succ hx]
      have h1 := h x (List.mem_of_getElem? hx)
      have := Int.mul_le_mul ih h1 (by omega) (by omega)
      omega
theorem prodI_mono {xs : List Int} (h : ∀ x ∈ xs, 1 ≤ x) {i : Nat} : ∀ k, prodI (xs.take i) ≤ prodI (xs.take (i + k)) := by
  intro k
  induction k with
  | zero => exact Int.le_refl _
  | succ k ih =>
    cases hx : xs[i + k]? with
    | none =>
      have : xs.length ≤ i + k := List.getElem?_eq_none_iff.1 hx
      rw [List.take_of_length_le (l := xs) (i := i + (k + 1)) (by omega)]
      rw [List.take_of_length_le (l := xs) (i := i + k) (by omega)] at ih
      exact ih
    | some x =>
      rw [← Nat.add_assoc, prodI_succ hx]
      have h1 := h x (List.mem_of_getElem? hx)
      have h2 := prodI_pos h (i + k)
      have := Int.mul_le_mul_of_nonneg_left h1 (show 0 ≤ prodI (xs.take (i + k)) by omega)
      omega
theorem tdiv_lt {n v : Int} (hn : 1 ≤ n) : (v > Int.tdiv 65536 n) ↔ (n * v > 65536) := by
  rw [Int.tdiv_eq_ediv_of_nonneg (by omega)]
  constructor
  · intro h
    have h1 := (Int.ediv_lt_iff_lt_mul (by omega)).1 h
    rw [Int.mul_comm] at h1
    exact h1
  · intro h
    rw [Int.mul_comm] at h
    exact (Int.ediv_lt_iff_lt_mul (by omega)).2 h

noncomputable def KC : AEx → LSt → Option (AEnd × LHp) := (blkK 0 (seqH eC cf_count [7] (hlp eC cf_count) (cR (cR (cR (cR (cR C_count))))) (endC Tryz.prog 0 Tryz.f57.results.toList ah)))
theorem KC_ret (xs : List Int) (n i x v : Int) : KC AEx.ret { fr := mkFr 5 [(2, I 0), (3, I 6), (4, I n), (6, I x), (12, AV.d (i64T).slice xs), (13, I (Int.ofNat xs.length)), (14, I i), (15, B true), (16, AV.ip (i64T) x), (17, I x), (18, I x), (19, I n), (20, I v), (21, B true)], hp := [], nx := 0 } = some (.ret [I 0, I 6], []) := by kernel_rfl
theorem KC_exit (xs : List Int) (n i : Int) : KC (AEx.exit 0) { fr := mkFr 5 [(4, I n), (12, AV.d (i64T).slice xs), (13, I (Int.ofNat xs.length)), (14, I i), (15, B false)], hp := [], nx := 0 } = some (.ret [I n, I 0], []) := by kernel_rfl

def bigI (xs : List Int) : Bool := decide (prodI xs > 65536)
theorem count_loop {xs : List Int} (hp : ∀ x ∈ xs, 1 ≤ x) (hl : xs.length ≤ 6) : ∀ (k i m : Nat), i + k = xs.length → k < m → prodI (xs.take i) ≤ 65536 →
    lp eC cf_count (cL (cL (cR (cL (cR (cR (cR (cR C_count)))))))) m (stC xs (prodI (xs.take i)) i) KC = some (.ret (bif bigI xs then [I 0, I 6] else [I (prodI xs), I 0]), []) := by
  intro k
  induction k with
  | zero =>
    intro i m hi hm hP
    obtain ⟨m, rfl⟩ : ∃ m', m = m' + 1 := ⟨m - 1, by omega⟩
    rw [count_step, decide_eq_false (show ¬ ((i : Int) < Int.ofNat xs.length) from by rw [show i = xs.length by omega]; exact Int.lt_irrefl _)]
    simp only [cond_false]
    rw [KC_exit]
    have e : xs.take i = xs := List.take_of_length_le (by omega)
    rw [e] at hP ⊢
    unfold bigI
    rw [decide_eq_false (by omega)]
    rfl
  | succ k ih =>
    intro i m hi hm hP
    obtain ⟨m, rfl⟩ : ∃ m', m = m' + 1 := ⟨m - 1, by omega⟩
    have hlt : i < xs.length := by omega
    have hx : xs[i]? = some xs[i] := List.getElem?_eq_getElem hlt
    have hidx : idx xs (i : Int) = some xs[i] := by unfold idx; rw [if_pos (by omega), Int.toNat_natCast, hx]
    have h1 := prodI_pos hp i
    have hx1 := hp xs[i] (List.getElem_mem hlt)
    have hq0 : 0 ≤ Int.tdiv 65536 (prodI (xs.take i)) := by
      rw [Int.tdiv_eq_ediv_of_nonneg (by omega)]; exact Int.ediv_nonneg (by omega) (by omega)
    have hq1 : Int.tdiv 65536 (prodI (xs.take i)) ≤ 65536 := by
      rw [Int.tdiv_eq_ediv_of_nonneg (by omega)]; exact Int.ediv_le_self _ (by omega)
    rw [count_step, decide_eq_true (show (i : Int) < Int.ofNat xs.length from Int.ofNat_lt.2 hlt), hidx, if_neg (by omega), wrap64 (by omega) (by omega)]
    simp only [cond_true, Option.bind_some]
    by_cases hb : prodI (xs.take i) * xs[i] > 65536
    · rw [decide_eq_true ((tdiv_lt h1).2 hb)]
      simp only [cond_true]
      rw [KC_ret]
      have hm2 := prodI_mono hp (i := i + 1) (xs.length - (i + 1))
      rw [prodI_succ hx, show i + 1 + (xs.length - (i + 1)) = xs.length by omega, List.take_length] at hm2
      unfold bigI
      rw [decide_eq_true (by omega)]
      rfl
    · rw [decide_eq_false (fun h => hb ((tdiv_lt h1).1 h))]
      simp only [cond_false]
      have hm0 : 0 ≤ prodI (xs.take i) * xs[i] := Int.mul_nonneg (by omega) (by omega)
      have := ih (i + 1) m (by omega) (by omega) (by rw [prodI_succ hx]; omega)
      rw [prodI_succ hx] at this
      unfold stC at this
      rw [wrap64 (n := prodI (xs.take i) * xs[i]) (by omega) (by omega), wrap64 (n := (i : Int) + 1) (by omega) (by omega)]
      exact this
def countE (xs : List Int) : Int := bif decide (idxP (fun d => decide (d < 1)) xs ≥ 0) then 4 else bif decide (Int.ofNat xs.length > 6) then 6 else bif bigI xs then 6 else 0
def countN (xs : List Int) : Int := bif decide (idxP (fun d => decide (d < 1)) xs ≥ 0) then 0 else bif decide (Int.ofNat xs.length > 6) then 0 else bif bigI xs then 0 else prodI xs
theorem count_run (xs : List Int) (hl : xs.length ≤ maxLen) : runC eC Tryz.f57 5 [(7, [4, 12, 13, 14])] [.d (.slice i64T) xs] [] ah = some (.ret [I (countN xs), I (countE xs)], []) := by
  rw [count_eq, decide_eq_true (show xs.length ≤ 9223372036854775807 from hl)]
  unfold countN countE
  cases h1 : decide (idxP (fun d => decide (d < 1)) xs ≥ 0) with
  | true => rfl
  | false =>
    cases h2 : decide (Int.ofNat xs.length > 6) with
    | true => rfl
    | false =>
      simp only [cond_true, cond_false]
      have hp : ∀ x ∈ xs, 1 ≤ x := fun x hx => by
        rw [idxP_ge, List.any_eq_false] at h1
        have := h1 x hx
        simp only [decide_eq_true_eq] at this
        omega
      have hl6 : xs.length ≤ 6 := by
        have := of_decide_eq_false h2
        have e : Int.ofNat xs.length = (xs.length : Int) := rfl
        omega
      have key := count_loop hp hl6 xs.length 0 fu (by omega) (by unfold fu; omega) (by simp [prodI])
      unfold stC KC at key
      simp only [List.take_zero] at key
      refine Eq.trans key ?_
      cases bigI xs <;> rfl
def countF : List AV → LHp → Tq
  | [.d (.slice (.int .i64)) xs], [] => .br (decide (xs.length ≤ maxLen)) (.leaf (.ret [I (countN xs), I (countE xs)]) []) .no
  | _, _ => .no
theorem countE_ok : FnE.OK e0.P e0.gam 57 (treeE countF) := by
  refine treeC_ok eC_good hmix Tryz.func57 Tryz.call57 (depth := 5) (live := [(7, [4, 12, 13, 14])]) (by decide +kernel) rfl fun args hs p h => ?_
  unfold countF at h
  split at h
  · obtain ⟨hl, h⟩ := Tq.br_no h
    cases h
    have hl := of_decide_eq_true hl
    exact count_run _ hl
  · cases h

/-! ### pb.Check -/
noncomputable def eD : Env := e0.add 34 (fnE chkF)
theorem eD_good : eD.Good := e0_good.add chkE_ok
theorem typed_eq (t : Int) : runC eD Tryz.f86 3 [] [I t] [] ah =
  some (AEnd.ret [B (numOk t 0)], []) := by kernel_rfl
def typedF : List AV → LHp → Option (AEnd × LHp)
  | [.d (.int .i64) t], [] => some (.ret [B (numOk t 0)], [])
  | _, _ => none
theorem typedE_ok : FnE.OK e0.P e0.gam 86 (fnE typedF) := by
  refine fnC_ok eD_good hmix Tryz.func86 Tryz.call86 (depth := 3) (live := []) (by decide +kernel) rfl fun args hs p h => ?_
  unfold typedF at h
  split at h
  · cases h
    exact typed_eq _
  · cases h
def hpT (t : Int) (dims data : List Int) : LHp := [(0, .box (.d (Y0) (t, dims, data, ())))]
theorem pbc1_eq (x t : Int) (dims data : List Int) : runC eD Tryz.f88 4 [] [I x, .op 0 [] 0] (hpT t dims data) ah =
  some (AEnd.ret [B !numOk t x], [(0, AObj.box (AV.d ((i64T).pair ((i64T).slice.pair ((i64T).slice.pair Ty.unit))) (t, dims, data, PUnit.unit)))]) := by kernel_rfl
def pbc1F : List AV → LHp → Option (AEnd × LHp)
  | [.d (.int .i64) x, .op 0 [] 0], [(0, .box (.d (.pair (.int .i64) (.pair (.slice (.int .i64)) (.pair (.slice (.int .i64)) .unit))) (t, dims, data, _)))] => some (.ret [B (!numOk t x)], hpT t dims data)
  | _, _ => none
theorem pbc1E_ok : FnE.OK e0.P e0.gam 88 (fnE pbc1F) := by
  refine fnC_ok eD_good hmix Tryz.func88 Tryz.call88 (depth := 4) (live := []) (by decide +kernel) rfl fun args hs p h => ?_
  unfold pbc1F at h
  split at h
  · cases h
    exact pbc1_eq _ _ _ _
  · cases h
noncomputable def eF : Env := e0.add 88 (fnE pbc1F)
theorem eF_good : eF.Good := e0_good.add pbc1E_ok
theorem idxl_eqH (hl : Hl) (xs : List Int) (t : Int) (dims data : List Int) : runH eF Tryz.f112 5 [(2, [0, 1, 7, 8])] [2] hl [.d (.slice i64T) xs, .fn (.func 88) [] [.op 0 [] 0]] (hpT t dims data) ah =
  hl (cL (cL (cR (cL (cR C_idxl))))) _ { fr := mkFr 5 [(0, AV.d (i64T).slice xs), (1, AV.fn (Fn.func 88) [] [AV.op 0 [] 0]), (7, I (Int.ofNat xs.length)), (8, I 0)], hp := [(0, AObj.box (AV.d ((i64T).pair ((i64T).slice.pair ((i64T).slice.pair Ty.unit))) (t, dims, data, PUnit.unit)))], nx := 2 } (blkK 0 (seqH eF cf_idxl [2] hl (cR (cR C_idxl)) (endC Tryz.prog 1 Tryz.f112.results.toList ah))) := by kernel_rfl
theorem idxl_eq (xs : List Int) (t : Int) (dims data : List Int) : runC eF Tryz.f112 5 [(2, [0, 1, 7, 8])] [.d (.slice i64T) xs, .fn (.func 88) [] [.op 0 [] 0]] (hpT t dims data) ah =
  (hlp eF cf_idxl) (cL (cL (cR (cL (cR C_idxl))))) _ { fr := mkFr 5 [(0, AV.d (i64T).slice xs), (1, AV.fn (Fn.func 88) [] [AV.op 0 [] 0]), (7, I (Int.ofNat xs.length)), (8, I 0)], hp := [(0, AObj.box (AV.d ((i64T).pair ((i64T).slice.pair ((i64T).slice.pair Ty.unit))) (t, dims, data, PUnit.unit)))], nx := 2 } (blkK 0 (seqH eF cf_idxl [2] (hlp eF cf_idxl) (cR (cR C_idxl)) (endC Tryz.prog 1 Tryz.f112.results.toList ah))) := runH_runC.trans (idxl_eqH (hlp eF cf_idxl) xs t dims data)
def stL (xs : List Int) (t : Int) (dims data : List Int) (i : Int) : LSt := ⟨mkFr 5 [(0, .d (.slice i64T) xs), (1, .fn (.func 88) [] [.op 0 [] 0]), (7, I (Int.ofNat xs.length)), (8, I i)], hpT t dims data, 2⟩
theorem idxl_stepH (hl : Hl) (xs : List Int) (t : Int) (dims data : List Int) (i : Int) (n : Nat) {R : Type} (k : AEx → LSt → Option R) : lpH eF cf_idxl [2] hl (cL (cL (cR (cL (cR C_idxl))))) (n + 1) (stL xs t dims data i) k =
  bif decide (i < Int.ofNat xs.length) then (idx xs i).bind fun v1 =>
      bif !numOk t v1 then k AEx.ret { fr := mkFr 5 [(0, AV.d (i64T).slice xs), (1, AV.fn (Fn.func 88) [] [AV.op 0 [] 0]), (4, I i), (5, I i), (7, I (Int.ofNat xs.length)), (8, I i), (9, B true), (10, I i), (11, AV.fn (Fn.func 88) [] [AV.op 0 [] 0]), (12, AV.d (i64T).slice xs), (13, I i), (14, AV.ip (i64T) v1), (15, I v1), (16, B true), (17, I i)], hp := [(0, AObj.box (AV.d ((i64T).pair ((i64T).slice.pair ((i64T).slice.pair Ty.unit))) (t, dims, data, PUnit.unit))), (0, AObj.box (AV.d ((i64T).pair ((i64T).slice.pair ((i64T).slice.pair Ty.unit))) (t, dims, data, PUnit.unit)))], nx := 3 }
      else lpH eF cf_idxl [2] hl (cL (cL (cR (cL (cR C_idxl))))) n { fr := mkFr 5 [(0, AV.d (i64T).slice xs), (1, AV.fn (Fn.func 88) [] [AV.op 0 [] 0]), (7, I (Int.ofNat xs.length)), (8, I (IntKind.i64.wrap (i + 1)))], hp := [(0, AObj.box (AV.d ((i64T).pair ((i64T).slice.pair ((i64T).slice.pair Ty.unit))) (t, dims, data, PUnit.unit)))], nx := 2 } k
  else k (AEx.exit 0) { fr := mkFr 5 [(0, AV.d (i64T).slice xs), (1, AV.fn (Fn.func 88) [] [AV.op 0 [] 0]), (7, I (Int.ofNat xs.length)), (8, I i), (9, B false)], hp := [(0, AObj.box (AV.d ((i64T).pair ((i64T).slice.pair ((i64T).slice.pair Ty.unit))) (t, dims, data, PUnit.unit)))], nx := 2 } := by kernel_rfl
theorem idxl_step (xs : List Int) (t : Int) (dims data : List Int) (i : Int) (n : Nat) {R : Type} (k : AEx → LSt → Option R) : lp eF cf_idxl (cL (cL (cR (cL (cR C_idxl))))) (n + 1) (stL xs t dims data i) k =
  bif decide (i < Int.ofNat xs.length) then (idx xs i).bind fun v1 =>
      bif !numOk t v1 then k AEx.ret { fr := mkFr 5 [(0, AV.d (i64T).slice xs), (1, AV.fn (Fn.func 88) [] [AV.op 0 [] 0]), (4, I i), (5, I i), (7, I (Int.ofNat xs.length)), (8, I i), (9, B true), (10, I i), (11, AV.fn (Fn.func 88) [] [AV.op 0 [] 0]), (12, AV.d (i64T).slice xs), (13, I i), (14, AV.ip (i64T) v1), (15, I v1), (16, B true), (17, I i)], hp := [(0, AObj.box (AV.d ((i64T).pair ((i64T).slice.pair ((i64T).slice.pair Ty.unit))) (t, dims, data, PUnit.unit))), (0, AObj.box (AV.d ((i64T).pair ((i64T).slice.pair ((i64T).slice.pair Ty.unit))) (t, dims, data, PUnit.unit)))], nx := 3 }
      else lp eF cf_idxl (cL (cL (cR (cL (cR C_idxl))))) n { fr := mkFr 5 [(0, AV.d (i64T).slice xs), (1, AV.fn (Fn.func 88) [] [AV.op 0 [] 0]), (7, I (Int.ofNat xs.length)), (8, I (IntKind.i64.wrap (i + 1)))], hp := [(0, AObj.box (AV.d ((i64T).pair ((i64T).slice.pair ((i64T).slice.pair Ty.unit))) (t, dims, data, PUnit.unit)))], nx := 2 } k
  else k (AEx.exit 0) { fr := mkFr 5 [(0, AV.d (i64T).slice xs), (1, AV.fn (Fn.func 88) [] [AV.op 0 [] 0]), (7, I (Int.ofNat xs.length)), (8, I i), (9, B false)], hp := [(0, AObj.box (AV.d ((i64T).pair ((i64T).slice.pair ((i64T).slice.pair Ty.unit))) (t, dims, data, PUnit.unit)))], nx := 2 } := by
  have h := idxl_stepH (hlp eF cf_idxl) xs t dims data i n k
  simp only [lpH_lp] at h
  exact h
theorem idxl_run (xs : List Int) (t : Int) (dims data : List Int) (hl : xs.length ≤ maxLen) : runC eF Tryz.f112 5 [(2, [0, 1, 7, 8])] [.d (.slice i64T) xs, .fn (.func 88) [] [.op 0 [] 0]] (hpT t dims data) ah = some (.ret [I (idxP (fun x => !numOk t x) xs)], hpT t dims data) := by
  rw [idxl_eq]
  have h := find_lp (T := fun n s => lp eF cf_idxl (cL (cL (cR (cL (cR C_idxl))))) n s (blkK 0 (seqH eF cf_idxl [2] (hlp eF cf_idxl) (cR (cR C_idxl)) (endC Tryz.prog 1 Tryz.f112.results.toList ah)))) (xs := xs) (st := fun i => stL xs t dims data i) hl (fun i n => idxl_step xs t dims data i n _)
  unfold stL hpT at h
  refine h.trans ?_
  unfold idxP
  cases hq : xs.findIdx? (fun x => !numOk t x) with
  | none => show _ = _; kernel_rfl
  | some i =>
    obtain ⟨hi, _⟩ := List.findIdx?_eq_some_iff_getElem.1 hq
    simp only [List.getElem?_eq_getElem hi, Option.bind_some]
    show _ = _
    kernel_rfl
def idxlF : List AV → LHp → Tq
  | [.d (.slice (.int .i64)) xs, .fn (.func 88) [] [.op 0 [] 0]], [(0, .box (.d (.pair (.int .i64) (.pair (.slice (.int .i64)) (.pair (.slice (.int .i64)) .unit))) (t, dims, data, _)))] => .br (decide (xs.length ≤ maxLen)) (.leaf (.ret [I (idxP (fun x => !numOk t x) xs)]) (hpT t dims data)) .no
  | _, _ => .no
theorem idxlE_ok : FnE.OK e0.P e0.gam 112 (treeE idxlF) := by
  refine treeC_ok eF_good hmix Tryz.func112 Tryz.call112 (depth := 5) (live := [(2, [0, 1, 7, 8])]) (by decide +kernel) rfl fun args hs p h => ?_
  unfold idxlF at h
  split at h
  · obtain ⟨hl, h⟩ := Tq.br_no h
    cases h
    have hl := of_decide_eq_true hl
    exact idxl_run _ _ _ _ hl
  · cases h
noncomputable def eG : Env := e0.add 112 (treeE idxlF)
theorem eG_good : eG.Good := e0_good.add idxlE_ok
theorem conl_eq (xs : List Int) (t : Int) (dims data : List Int) : runC eG Tryz.f87 4 [] [.d (.slice i64T) xs, .fn (.func 88) [] [.op 0 [] 0]] (hpT t dims data) ah =
  bif decide (xs.length ≤ 9223372036854775807) then some (AEnd.ret [B (decide (idxP (fun x => !numOk t x) xs ≥ 0))], [(0, AObj.box (AV.d ((i64T).pair ((i64T).slice.pair ((i64T).slice.pair Ty.unit))) (t, dims, data, PUnit.unit)))])
  else none := by kernel_rfl
def conlF : List AV → LHp → Tq
  | [.d (.slice (.int .i64)) xs, .fn (.func 88) [] [.op 0 [] 0]], [(0, .box (.d (.pair (.int .i64) (.pair (.slice (.int .i64)) (.pair (.slice (.int .i64)) .unit))) (t, dims, data, _)))] => .br (decide (xs.length ≤ maxLen)) (.leaf (.ret [B (xs.any fun x => !numOk t x)]) (hpT t dims data)) .no
  | _, _ => .no
theorem conlE_ok : FnE.OK e0.P e0.gam 87 (treeE conlF) := by
  refine treeC_ok eG_good hmix Tryz.func87 Tryz.call87 (depth := 4) (live := []) (by decide +kernel) rfl fun args hs p h => ?_
  unfold conlF at h
  split at h
  · obtain ⟨hl, h⟩ := Tq.br_no h
    cases h
    have hl := of_decide_eq_true hl
    exact ((conl_eq _ _ _ _).trans (by rw [decide_eq_true (show _ ≤ 9223372036854775807 from hl), idxP_ge]; rfl))
  · cases h
noncomputable def eH : Env := ((e0.add 86 (fnE typedF)).add 57 (treeE countF)).add 87 (treeE conlF)
theorem eH_good : eH.Good := ((e0_good.add typedE_ok).add countE_ok).add conlE_ok
theorem pbc_eq (t : Int) (dims data : List Int) : runC eH Tryz.f54 5 [] [.d (Y0) (t, dims, data, ())] [] ah =
  bif !numOk t 0 then some (AEnd.ret [I 5], [])
  else 
    bif decide (dims.length ≤ 9223372036854775807) then 
      bif countE dims != 0 then some (AEnd.ret [I (countE dims)], [])
      else 
        bif Int.ofNat data.length != countN dims then some (AEnd.ret [I 4], [])
        else 
          bif decide (data.length ≤ 9223372036854775807) then 
            bif data.any fun x => !numOk t x then some (AEnd.ret [I 4], [])
            else some (AEnd.ret [I 0], [])
          else none
    else none := by kernel_rfl
/-- a tensor's error -/
def tenE (t : Int) (dims data : List Int) : Int := bif !numOk t 0 then 5 else bif countE dims != 0 then countE dims else bif Int.ofNat data.length != countN dims then 4 else bif data.any (fun x => !numOk t x) then 4 else 0
def pbcF : List AV → LHp → Tq
  | [.d (.pair (.int .i64) (.pair (.slice (.int .i64)) (.pair (.slice (.int .i64)) .unit))) (t, dims, data, _)], [] => .br (decide (dims.length ≤ maxLen ∧ data.length ≤ maxLen)) (.leaf (.ret [I (tenE t dims data)]) []) .no
  | _, _ => .no
theorem pbc_run (t : Int) (dims data : List Int) (h : dims.length ≤ maxLen ∧ data.length ≤ maxLen) : runC eH Tryz.f54 5 [] [.d (Y0) (t, dims, data, ())] [] ah = some (.ret [I (tenE t dims data)], []) := by
  rw [pbc_eq, decide_eq_true (show dims.length ≤ 9223372036854775807 from h.1), decide_eq_true (show data.length ≤ 9223372036854775807 from h.2)]
  unfold tenE
  cases !numOk t 0 <;> cases countE dims != 0 <;> cases Int.ofNat data.length != countN dims <;> cases data.any (fun x => !numOk t x) <;> rfl
theorem pbcE_ok : FnE.OK e0.P e0.gam 54 (treeE pbcF) := by
  refine treeC_ok eH_good hmix Tryz.func54 Tryz.call54 (depth := 5) (live := []) (by decide +kernel) rfl fun args hs p h => ?_
  unfold pbcF at h
  split at h
  · obtain ⟨hl, h⟩ := Tq.br_no h
    cases h
    have hl := of_decide_eq_true hl
    exact pbc_run _ _ _ hl
  · cases h
end Go.Proofs.XGT
/- shape.Count of a list that is just being made. -/
namespace Go.Proofs.XGT
open Go.Vm Go
set_option maxRecDepth 100000
set_option maxHeartbeats 4000000
noncomputable def C_idxo : Code := codeOf Tryz.f128
noncomputable def cf_idxo : Cfg := ⟨19, 5, 1, [(2, [0, 1, 7, 8])], true⟩
noncomputable def C_cono : Code := codeOf Tryz.f97
noncomputable def cf_cono : Cfg := ⟨9, 4, 1, [], true⟩
noncomputable def C_cnto : Code := codeOf Tryz.f57
noncomputable def cf_cnto : Cfg := ⟨27, 5, 1, [(7, [4, 12, 13, 14])], true⟩
theorem idx2 {α R : Type} {xs : List α} {i : Int} {f : α → Option R} : ((idx xs i).bind fun _ => (xs[i.toNat]?).bind f) = (idx xs i).bind f := by
  unfold idx
  split
  · cases xs[i.toNat]? <;> rfl
  · rfl
def hpO (z : Bool) (xs : List Int) : LHp := [(0, .arr 3 i64T 0 z xs)]
theorem idxo_eqH (hl : Hl) (z : Bool) (xs : List Int) : runH eA Tryz.f128 5 [(2, [0, 1, 7, 8])] [2] hl [.os 0 0, .fn (.func 98) [] []] (hpO z xs) ah =
  hl (cL (cL (cR (cL (cR C_idxo))))) _ { fr := mkFr 5 [(0, AV.os 0 0), (1, AV.fn (Fn.func 98) [] []), (7, I (Int.ofNat xs.length)), (8, I 0)], hp := [(0, AObj.arr 3 (i64T) 0 z xs)], nx := 2 } (blkK 0 (seqH eA cf_idxo [2] hl (cR (cR C_idxo)) (endC Tryz.prog 1 Tryz.f128.results.toList ah))) := by kernel_rfl
theorem idxo_eq (z : Bool) (xs : List Int) : runC eA Tryz.f128 5 [(2, [0, 1, 7, 8])] [.os 0 0, .fn (.func 98) [] []] (hpO z xs) ah =
  (hlp eA cf_idxo) (cL (cL (cR (cL (cR C_idxo))))) _ { fr := mkFr 5 [(0, AV.os 0 0), (1, AV.fn (Fn.func 98) [] []), (7, I (Int.ofNat xs.length)), (8, I 0)], hp := [(0, AObj.arr 3 (i64T) 0 z xs)], nx := 2 } (blkK 0 (seqH eA cf_idxo [2] (hlp eA cf_idxo) (cR (cR C_idxo)) (endC Tryz.prog 1 Tryz.f128.results.toList ah))) := runH_runC.trans (idxo_eqH (hlp eA cf_idxo) z xs)
def stIo (z : Bool) (xs : List Int) (i : Int) : LSt := ⟨mkFr 5 [(0, .os 0 0), (1, .fn (.func 98) [] []), (7, I (Int.ofNat xs.length)), (8, I i)], hpO z xs, 2⟩
theorem idxo_stepH (hl : Hl) (z : Bool) (xs : List Int) (i : Int) (n : Nat) {R : Type} (k : AEx → LSt → Option R) : lpH eA cf_idxo [2] hl (cL (cL (cR (cL (cR C_idxo))))) (n + 1) (stIo z xs i) k =
  bif decide (i < Int.ofNat xs.length) then (idx xs i).bind fun v1 =>
      (xs[i.toNat]?).bind fun v2 =>
        bif decide (v2 < 1) then k AEx.ret { fr := mkFr 5 [(0, AV.os 0 0), (1, AV.fn (Fn.func 98) [] []), (4, I i), (5, I i), (7, I (Int.ofNat xs.length)), (8, I i), (9, B true), (10, I i), (11, AV.fn (Fn.func 98) [] []), (12, AV.os 0 0), (13, I i), (14, AV.oe 0 0 i.toNat), (15, I v2), (16, B true), (17, I i)], hp := [(0, AObj.arr 3 (i64T) 0 z xs)], nx := 2 }
        else lpH eA cf_idxo [2] hl (cL (cL (cR (cL (cR C_idxo))))) n { fr := mkFr 5 [(0, AV.os 0 0), (1, AV.fn (Fn.func 98) [] []), (7, I (Int.ofNat xs.length)), (8, I (IntKind.i64.wrap (i + 1)))], hp := [(0, AObj.arr 3 (i64T) 0 z xs)], nx := 2 } k
  else k (AEx.exit 0) { fr := mkFr 5 [(0, AV.os 0 0), (1, AV.fn (Fn.func 98) [] []), (7, I (Int.ofNat xs.length)), (8, I i), (9, B false)], hp := [(0, AObj.arr 3 (i64T) 0 z xs)], nx := 2 } := by kernel_rfl
theorem idxo_step (z : Bool) (xs : List Int) (i : Int) (n : Nat) {R : Type} (k : AEx → LSt → Option R) : lp eA cf_idxo (cL (cL (cR (cL (cR C_idxo))))) (n + 1) (stIo z xs i) k =
  bif decide (i < Int.ofNat xs.length) then (idx xs i).bind fun v1 =>
      (xs[i.toNat]?).bind fun v2 =>
        bif decide (v2 < 1) then k AEx.ret { fr := mkFr 5 [(0, AV.os 0 0), (1, AV.fn (Fn.func 98) [] []), (4, I i), (5, I i), (7, I (Int.ofNat xs.length)), (8, I i), (9, B true), (10, I i), (11, AV.fn (Fn.func 98) [] []), (12, AV.os 0 0), (13, I i), (14, AV.oe 0 0 i.toNat), (15, I v2), (16, B true), (17, I i)], hp := [(0, AObj.arr 3 (i64T) 0 z xs)], nx := 2 }
        else lp eA cf_idxo (cL (cL (cR (cL (cR C_idxo))))) n { fr := mkFr 5 [(0, AV.os 0 0), (1, AV.fn (Fn.func 98) [] []), (7, I (Int.ofNat xs.length)), (8, I (IntKind.i64.wrap (i + 1)))], hp := [(0, AObj.arr 3 (i64T) 0 z xs)], nx := 2 } k
  else k (AEx.exit 0) { fr := mkFr 5 [(0, AV.os 0 0), (1, AV.fn (Fn.func 98) [] []), (7, I (Int.ofNat xs.length)), (8, I i), (9, B false)], hp := [(0, AObj.arr 3 (i64T) 0 z xs)], nx := 2 } := by
  have h := idxo_stepH (hlp eA cf_idxo) z xs i n k
  simp only [lpH_lp] at h
  exact h
theorem idxo_run (z : Bool) (xs : List Int) (hl : xs.length ≤ maxLen) : runC eA Tryz.f128 5 [(2, [0, 1, 7, 8])] [.os 0 0, .fn (.func 98) [] []] (hpO z xs) ah = some (.ret [I (idxP (fun d => decide (d < 1)) xs)], hpO z xs) := by
  rw [idxo_eq]
  have hs := fun (i : Int) (n : Nat) => idxo_step z xs i n (blkK 0 (seqH eA cf_idxo [2] (hlp eA cf_idxo) (cR (cR C_idxo)) (endC Tryz.prog 1 Tryz.f128.results.toList ah)))
  simp only [idx2] at hs
  have h := find_lp (T := fun n s => lp eA cf_idxo (cL (cL (cR (cL (cR C_idxo))))) n s (blkK 0 (seqH eA cf_idxo [2] (hlp eA cf_idxo) (cR (cR C_idxo)) (endC Tryz.prog 1 Tryz.f128.results.toList ah)))) (xs := xs) (st := fun i => stIo z xs i) hl hs
  unfold stIo hpO at h
  refine h.trans ?_
  unfold idxP
  cases hq : xs.findIdx? (fun d => decide (d < 1)) with
  | none => show _ = _; kernel_rfl
  | some i =>
    obtain ⟨hi, _⟩ := List.findIdx?_eq_some_iff_getElem.1 hq
    simp only [List.getElem?_eq_getElem hi, Option.bind_some]
    show _ = _
    kernel_rfl
def idxoF : List AV → LHp → Tq
  | [.os 0 0, .fn (.func 98) [] []], [(0, .arr 3 (.int .i64) 0 z xs)] => .br (decide (xs.length ≤ maxLen)) (.leaf (.ret [I (idxP (fun d => decide (d < 1)) xs)]) (hpO z xs)) .no
  | _, _ => .no
theorem idxoE_ok : FnE.OK e0.P e0.gam 128 (treeE idxoF) := by
  refine treeC_ok eA_good hmix Tryz.func128 Tryz.call128 (depth := 5) (live := [(2, [0, 1, 7, 8])]) (by decide +kernel) rfl fun args hs p h => ?_
  unfold idxoF at h
  split at h
  · obtain ⟨hl, h⟩ := Tq.br_no h
    cases h
    have hl := of_decide_eq_true hl
    exact idxo_run _ _ hl
  · cases h
noncomputable def eBo : Env := e0.add 128 (treeE idxoF)
theorem eBo_good : eBo.Good := e0_good.add idxoE_ok
theorem cono_eq (z : Bool) (xs : List Int) : runC eBo Tryz.f97 4 [] [.os 0 0, .fn (.func 98) [] []] (hpO z xs) ah =
  bif decide (xs.length ≤ 9223372036854775807) then some (AEnd.ret [B (decide (idxP (fun d => decide (d < 1)) xs ≥ 0))], [(0, AObj.arr 3 (i64T) 0 z xs)])
  else none := by kernel_rfl
def conoF : List AV → LHp → Tq
  | [.os 0 0, .fn (.func 98) [] []], [(0, .arr 3 (.int .i64) 0 z xs)] => .br (decide (xs.length ≤ maxLen)) (.leaf (.ret [B (decide (idxP (fun d => decide (d < 1)) xs ≥ 0))]) (hpO z xs)) .no
  | _, _ => .no
theorem conoE_ok : FnE.OK e0.P e0.gam 97 (treeE conoF) := by
  refine treeC_ok eBo_good hmix Tryz.func97 Tryz.call97 (depth := 4) (live := []) (by decide +kernel) rfl fun args hs p h => ?_
  unfold conoF at h
  split at h
  · obtain ⟨hl, h⟩ := Tq.br_no h
    cases h
    have hl := of_decide_eq_true hl
    exact ((cono_eq _ _).trans (by rw [decide_eq_true (show _ ≤ 9223372036854775807 from hl)]; rfl))
  · cases h
noncomputable def eCo : Env := e0.add 97 (treeE conoF)
theorem eCo_good : eCo.Good := e0_good.add conoE_ok
theorem cnto_eqH (hl : Hl) (z : Bool) (xs : List Int) : runH eCo Tryz.f57 5 [(7, [4, 12, 13, 14])] [7] hl [.os 0 0] (hpO z xs) ah =
  bif decide (xs.length ≤ 9223372036854775807) then 
    bif decide (idxP (fun d => decide (d < 1)) xs ≥ 0) then some (AEnd.ret [I 0, I 4], [(0, AObj.arr 3 (i64T) 0 z xs)])
    else 
      bif decide (Int.ofNat xs.length > 6) then some (AEnd.ret [I 0, I 6], [(0, AObj.arr 3 (i64T) 0 z xs)])
      else hl (cL (cL (cR (cL (cR (cR (cR (cR C_cnto)))))))) _ { fr := mkFr 5 [(4, I 1), (12, AV.os 0 0), (13, I (Int.ofNat xs.length)), (14, I 0)], hp := [(0, AObj.arr 3 (i64T) 0 z xs)], nx := 2 } (blkK 0 (seqH eCo cf_cnto [7] hl (cR (cR (cR (cR (cR C_cnto))))) (endC Tryz.prog 1 Tryz.f57.results.toList ah)))
  else none := by kernel_rfl
theorem cnto_eq (z : Bool) (xs : List Int) : runC eCo Tryz.f57 5 [(7, [4, 12, 13, 14])] [.os 0 0] (hpO z xs) ah =
  bif decide (xs.length ≤ 9223372036854775807) then 
    bif decide (idxP (fun d => decide (d < 1)) xs ≥ 0) then some (AEnd.ret [I 0, I 4], [(0, AObj.arr 3 (i64T) 0 z xs)])
    else 
      bif decide (Int.ofNat xs.length > 6) then some (AEnd.ret [I 0, I 6], [(0, AObj.arr 3 (i64T) 0 z xs)])
      else (hlp eCo cf_cnto) (cL (cL (cR (cL (cR (cR (cR (cR C_cnto)))))))) _ { fr := mkFr 5 [(4, I 1), (12, AV.os 0 0), (13, I (Int.ofNat xs.length)), (14, I 0)], hp := [(0, AObj.arr 3 (i64T) 0 z xs)], nx := 2 } (blkK 0 (seqH eCo cf_cnto [7] (hlp eCo cf_cnto) (cR (cR (cR (cR (cR C_cnto))))) (endC Tryz.prog 1 Tryz.f57.results.toList ah)))
  else none := runH_runC.trans (cnto_eqH (hlp eCo cf_cnto) z xs)
def stCo (z : Bool) (xs : List Int) (n i : Int) : LSt := ⟨mkFr 5 [(4, I n), (12, .os 0 0), (13, I (Int.ofNat xs.length)), (14, I i)], hpO z xs, 2⟩
theorem cnto_stepH (hl : Hl) (z : Bool) (xs : List Int) (v i : Int) (n : Nat) {R : Type} (k : AEx → LSt → Option R) : lpH eCo cf_cnto [7] hl (cL (cL (cR (cL (cR (cR (cR (cR C_cnto)))))))) (n + 1) (stCo z xs v i) k =
  bif decide (i < Int.ofNat xs.length) then (idx xs i).bind fun v1 =>
      (xs[i.toNat]?).bind fun v2 =>
        (if v = 0 then none else some (IntKind.i64.wrap (Int.tdiv 65536 v))).bind fun v3 =>
          bif decide (v2 > v3) then k AEx.ret { fr := mkFr 5 [(2, I 0), (3, I 6), (4, I v), (6, I v2), (12, AV.os 0 0), (13, I (Int.ofNat xs.length)), (14, I i), (15, B true), (16, AV.oe 0 0 i.toNat), (17, I v2), (18, I v2), (19, I v), (20, I v3), (21, B true)], hp := [(0, AObj.arr 3 (i64T) 0 z xs)], nx := 2 }
          else lpH eCo cf_cnto [7] hl (cL (cL (cR (cL (cR (cR (cR (cR C_cnto)))))))) n { fr := mkFr 5 [(4, I (IntKind.i64.wrap (v * v2))), (12, AV.os 0 0), (13, I (Int.ofNat xs.length)), (14, I (IntKind.i64.wrap (i + 1)))], hp := [(0, AObj.arr 3 (i64T) 0 z xs)], nx := 2 } k
  else k (AEx.exit 0) { fr := mkFr 5 [(4, I v), (12, AV.os 0 0), (13, I (Int.ofNat xs.length)), (14, I i), (15, B false)], hp := [(0, AObj.arr 3 (i64T) 0 z xs)], nx := 2 } := by kernel_rfl
theorem cnto_step (z : Bool) (xs : List Int) (v i : Int) (n : Nat) {R : Type} (k : AEx → LSt → Option R) : lp eCo cf_cnto (cL (cL (cR (cL (cR (cR (cR (cR C_cnto)))))))) (n + 1) (stCo z xs v i) k =
  bif decide (i < Int.ofNat xs.length) then (idx xs i).bind fun v1 =>
      (xs[i.toNat]?).bind fun v2 =>
        (if v = 0 then none else some (IntKind.i64.wrap (Int.tdiv 65536 v))).bind fun v3 =>
          bif decide (v2 > v3) then k AEx.ret { fr := mkFr 5 [(2, I 0), (3, I 6), (4, I v), (6, I v2), (12, AV.os 0 0), (13, I (Int.ofNat xs.length)), (14, I i), (15, B true), (16, AV.oe 0 0 i.toNat), (17, I v2), (18, I v2), (19, I v), (20, I v3), (21, B true)], hp := [(0, AObj.arr 3 (i64T) 0 z xs)], nx := 2 }
          else lp eCo cf_cnto (cL (cL (cR (cL (cR (cR (cR (cR C_cnto)))))))) n { fr := mkFr 5 [(4, I (IntKind.i64.wrap (v * v2))), (12, AV.os 0 0), (13, I (Int.ofNat xs.length)), (14, I (IntKind.i64.wrap (i + 1)))], hp := [(0, AObj.arr 3 (i64T) 0 z xs)], nx := 2 } k
  else k (AEx.exit 0) { fr := mkFr 5 [(4, I v), (12, AV.os 0 0), (13, I (Int.ofNat xs.length)), (14, I i), (15, B false)], hp := [(0, AObj.arr 3 (i64T) 0 z xs)], nx := 2 } := by
  have h := cnto_stepH (hlp eCo cf_cnto) z xs v i n k
  simp only [lpH_lp] at h
  exact h
noncomputable def KCo : AEx → LSt → Option (AEnd × LHp) := (blkK 0 (seqH eCo cf_cnto [7] (hlp eCo cf_cnto) (cR (cR (cR (cR (cR C_cnto))))) (endC Tryz.prog 1 Tryz.f57.results.toList ah)))
theorem KCo_ret (z : Bool) (xs : List Int) (n i x v : Int) (j : Nat) : KCo AEx.ret { fr := mkFr 5 [(2, I 0), (3, I 6), (4, I n), (6, I x), (12, AV.os 0 0), (13, I (Int.ofNat xs.length)), (14, I i), (15, B true), (16, AV.oe 0 0 j), (17, I x), (18, I x), (19, I n), (20, I v), (21, B true)], hp := hpO z xs, nx := 2 } = some (.ret [I 0, I 6], hpO z xs) := by kernel_rfl
theorem KCo_exit (z : Bool) (xs : List Int) (n i : Int) : KCo (AEx.exit 0) { fr := mkFr 5 [(4, I n), (12, AV.os 0 0), (13, I (Int.ofNat xs.length)), (14, I i), (15, B false)], hp := hpO z xs, nx := 2 } = some (.ret [I n, I 0], hpO z xs) := by kernel_rfl
theorem cnto_loop {z : Bool} {xs : List Int} (hp : ∀ x ∈ xs, 1 ≤ x) (hl : xs.length ≤ 6) : ∀ (k i m : Nat), i + k = xs.length → k < m → prodI (xs.take i) ≤ 65536 →
    lp eCo cf_cnto (cL (cL (cR (cL (cR (cR (cR (cR C_cnto)))))))) m (stCo z xs (prodI (xs.take i)) i) KCo = some (.ret (bif bigI xs then [I 0, I 6] else [I (prodI xs), I 0]), hpO z xs) := by
  intro k
  induction k with
  | zero =>
    intro i m hi hm hP
    obtain ⟨m, rfl⟩ : ∃ m', m = m' + 1 := ⟨m - 1, by omega⟩
    rw [cnto_step, decide_eq_false (show ¬ ((i : Int) < Int.ofNat xs.length) from by rw [show i = xs.length by omega]; exact Int.lt_irrefl _)]
    simp only [cond_false]
    have e : xs.take i = xs := List.take_of_length_le (by omega)
    rw [e] at hP ⊢
    refine (KCo_exit z xs _ _).trans ?_
    unfold bigI
    rw [decide_eq_false (by omega)]
    rfl
  | succ k ih =>
    intro i m hi hm hP
    obtain ⟨m, rfl⟩ : ∃ m', m = m' + 1 := ⟨m - 1, by omega⟩
    have hlt : i < xs.length := by omega
    have hx : xs[i]? = some xs[i] := List.getElem?_eq_getElem hlt
    have hidx : idx xs (i : Int) = some xs[i] := by unfold idx; rw [if_pos (by omega), Int.toNat_natCast, hx]
    have h1 := prodI_pos hp i
    have hx1 := hp xs[i] (List.getElem_mem hlt)
    have hq0 : 0 ≤ Int.tdiv 65536 (prodI (xs.take i)) := by
      rw [Int.tdiv_eq_ediv_of_nonneg (by omega)]; exact Int.ediv_nonneg (by omega) (by omega)
    have hq1 : Int.tdiv 65536 (prodI (xs.take i)) ≤ 65536 := by
      rw [Int.tdiv_eq_ediv_of_nonneg (by omega)]; exact Int.ediv_le_self _ (by omega)
    rw [cnto_step, decide_eq_true (show (i : Int) < Int.ofNat xs.length from Int.ofNat_lt.2 hlt), hidx, Int.toNat_natCast, hx]
    simp only [cond_true, Option.bind_some]
    rw [if_neg (by omega), wrap64 (by omega) (by omega)]
    simp only [Option.bind_some]
    by_cases hb : prodI (xs.take i) * xs[i] > 65536
    · rw [decide_eq_true ((tdiv_lt h1).2 hb)]
      simp only [cond_true]
      refine (KCo_ret z xs _ _ _ _ _).trans ?_
      have hm2 := prodI_mono hp (i := i + 1) (xs.length - (i + 1))
      rw [prodI_succ hx, show i + 1 + (xs.length - (i + 1)) = xs.length by omega, List.take_length] at hm2
      unfold bigI
      rw [decide_eq_true (by omega)]
      rfl
    · rw [decide_eq_false (fun h => hb ((tdiv_lt h1).1 h))]
      simp only [cond_false]
      have hm0 : 0 ≤ prodI (xs.take i) * xs[i] := Int.mul_nonneg (by omega) (by omega)
      have := ih (i + 1) m (by omega) (by omega) (by rw [prodI_succ hx]; omega)
      rw [prodI_succ hx] at this
      unfold stCo at this
      rw [wrap64 (n := prodI (xs.take i) * xs[i]) (by omega) (by omega), wrap64 (n := (i : Int) + 1) (by omega) (by omega)]
      exact this
theorem cnto_run (z : Bool) (xs : List Int) (hl : xs.length ≤ maxLen) : runC eCo Tryz.f57 5 [(7, [4, 12, 13, 14])] [.os 0 0] (hpO z xs) ah = some (.ret [I (countN xs), I (countE xs)], hpO z xs) := by
  rw [cnto_eq, decide_eq_true (show xs.length ≤ 9223372036854775807 from hl)]
  unfold countN countE
  cases h1 : decide (idxP (fun d => decide (d < 1)) xs ≥ 0) with
  | true => rfl
  | false =>
    cases h2 : decide (Int.ofNat xs.length > 6) with
    | true => rfl
    | false =>
      simp only [cond_true, cond_false]
      have hp : ∀ x ∈ xs, 1 ≤ x := fun x hx => by
        rw [idxP_ge, List.any_eq_false] at h1
        have := h1 x hx
        simp only [decide_eq_true_eq] at this
        omega
      have hl6 : xs.length ≤ 6 := by
        have := of_decide_eq_false h2
        have e : Int.ofNat xs.length = (xs.length : Int) := rfl
        omega
      have key := cnto_loop (z := z) hp hl6 xs.length 0 fu (by omega) (by unfold fu; omega) (by simp [prodI])
      unfold stCo KCo at key
      simp only [List.take_zero] at key
      refine Eq.trans key ?_
      cases bigI xs <;> rfl
def cntoF : List AV → LHp → Tq
  | [.os 0 0], [(0, .arr 3 (.int .i64) 0 z xs)] => .br (decide (xs.length ≤ maxLen)) (.leaf (.ret [I (countN xs), I (countE xs)]) (hpO z xs)) .no
  | _, _ => .no
theorem cntoE_ok : FnE.OK e0.P e0.gam 57 (treeE cntoF) := by
  refine treeC_ok eCo_good hmix Tryz.func57 Tryz.call57 (depth := 5) (live := [(7, [4, 12, 13, 14])]) (by decide +kernel) rfl fun args hs p h => ?_
  unfold cntoF at h
  split at h
  · obtain ⟨hl, h⟩ := Tq.br_no h
    cases h
    have hl := of_decide_eq_true hl
    exact cnto_run _ _ hl
  · cases h
noncomputable def C_cnte : Code := codeOf Tryz.f57
noncomputable def cf_cnte : Cfg := ⟨27, 5, 0, [(7, [4, 12, 13, 14])], true⟩
theorem cnte_eq  : runC e9 Tryz.f57 5 [(7, [4, 12, 13, 14])] [.emp] [] ah =
  some (AEnd.ret [I 1, I 0], []) := by kernel_rfl
def cnteF : List AV → LHp → Tq
  | [.emp], [] => .leaf (.ret [I 1, I 0]) []
  | _, _ => .no
theorem cnteE_ok : FnE.OK e0.P e0.gam 57 (treeE cnteF) := by
  have h1 : FnE.OK e0.P e0.gam 57 (execFnC e9 Tryz.f57 5 [(7, [4, 12, 13, 14])]) := x57_ok
  refine ⟨fun _ _ _ => Tq.eq _ _, fun args hs ae hs' h => ?_⟩
  have h' : (cnteF args hs).run ah = some (ae, hs') := h
  clear h
  unfold cnteF at h'
  split at h'
  · cases h'
    exact h1.okC cnte_eq
  · cases h'
/-- shape.Count, of whatever list -/
def countG (a : List AV) (h : LHp) : Tq := orT (countF a h) (orT (cntoF a h) (cnteF a h))
theorem countG_ok : FnE.OK e0.P e0.gam 57 (treeE countG) := treeE_or countE_ok (treeE_or cntoE_ok cnteE_ok)
end Go.Proofs.XGT
/- schema.find, and what asks it: Int, Ints. -/
namespace Go.Proofs.XGT
open Go.Vm Go
set_option maxRecDepth 100000
set_option maxHeartbeats 4000000

noncomputable def C_nmd1 : Code := codeOf Tryz.f129
noncomputable def cf_nmd1 : Cfg := ⟨15, 4, 2, [], true⟩
noncomputable def C_idxa : Code := codeOf Tryz.f52
noncomputable def cf_idxa : Cfg := ⟨19, 5, 3, [(2, [0, 1, 7, 8])], true⟩
noncomputable def C_find : Code := codeOf Tryz.f61
noncomputable def cf_find : Cfg := ⟨23, 5, 2, [], true⟩
noncomputable def C_ints : Code := codeOf Tryz.f30
noncomputable def cf_ints : Cfg := ⟨20, 5, 2, [], true⟩
noncomputable def C_int1 : Code := codeOf Tryz.f56
noncomputable def cf_int1 : Cfg := ⟨19, 5, 2, [], true⟩
def okA (name : List UInt8) (kind : Int) (a : (Y1).den) : Bool := a.1 == name && a.2.1 == kind
def hpA (z : Bool) (ats : List (Y1).den) (kind : Int) (name : List UInt8) : LHp := [(0, .box (I kind)), (1, .box (.d .str name)), (2, .arr 37 (Y1) 0 z ats)]
theorem nmd1_eq (a : (Y1).den) (kind : Int) (name : List UInt8) : runC e17 Tryz.f129 4 [] [.d (Y1) a, .op 1 [] 0, .op 0 [] 0] [(0, .box (I kind)), (1, .box (.d .str name))] ah =
  bif a.1 == name then some (AEnd.ret [B (a.2.1 == kind)], [(0, AObj.box (I kind)), (1, AObj.box (AV.d Ty.str name))])
  else some (AEnd.ret [B false], [(0, AObj.box (I kind)), (1, AObj.box (AV.d Ty.str name))]) := by kernel_rfl
def nmd1F : List AV → LHp → Option (AEnd × LHp)
  | [.d ((.pair .str (.pair (.int .i64) (.pair (.int .i64) (.pair (.int .i64) (.pair .str (.pair (.pair (.int .i64) (.pair (.slice (.int .i64)) (.pair (.slice (.int .i64)) .unit))) (.pair (.slice (.int .i64)) .unit)))))))) a, .op 1 [] 0, .op 0 [] 0], [(0, .box (.d (.int .i64) kind)), (1, .box (.d .str name))] => some (.ret [B (okA name kind a)], [(0, .box (I kind)), (1, .box (.d .str name))])
  | _, _ => none
theorem nmd1_run (a : (Y1).den) (kind : Int) (name : List UInt8) : runC e17 Tryz.f129 4 [] [.d (Y1) a, .op 1 [] 0, .op 0 [] 0] [(0, .box (I kind)), (1, .box (.d .str name))] ah = some (.ret [B (okA name kind a)], [(0, .box (I kind)), (1, .box (.d .str name))]) := by
  rw [nmd1_eq]
  unfold okA
  cases a.1 == name <;> rfl
theorem nmd1E_ok : FnE.OK e0.P e0.gam 129 (fnE nmd1F) := by
  refine fnC_ok e17_good hmix Tryz.func129 Tryz.call129 (depth := 4) (live := []) (by decide +kernel) rfl fun args hs p h => ?_
  unfold nmd1F at h
  split at h
  · cases h
    exact nmd1_run _ _ _
  · cases h
noncomputable def eJ : Env := e0.add 129 (fnE nmd1F)
theorem eJ_good : eJ.Good := e0_good.add nmd1E_ok
theorem idxa_eqH (hl : Hl) (z : Bool) (ats : List (Y1).den) (kind : Int) (name : List UInt8) : runH eJ Tryz.f52 5 [(2, [0, 1, 7, 8])] [2] hl [.os 2 0, .fn (.func 129) [] [.op 1 [] 0, .op 0 [] 0]] (hpA z ats kind name) ah =
  hl (cL (cL (cR (cL (cR C_idxa))))) _ { fr := mkFr 5 [(0, AV.os 2 0), (1, AV.fn (Fn.func 129) [] [AV.op 1 [] 0, AV.op 0 [] 0]), (7, I (Int.ofNat ats.length)), (8, I 0)], hp := [(0, AObj.box (I kind)), (1, AObj.box (AV.d Ty.str name)), (2, AObj.arr 37 (Ty.str.pair ((i64T).pair ((i64T).pair ((i64T).pair (Ty.str.pair (((i64T).pair ((i64T).slice.pair ((i64T).slice.pair Ty.unit))).pair ((i64T).slice.pair Ty.unit))))))) 0 z ats)], nx := 6 } (blkK 0 (seqH eJ cf_idxa [2] hl (cR (cR C_idxa)) (endC Tryz.prog 3 Tryz.f52.results.toList ah))) := by kernel_rfl
theorem idxa_eq (z : Bool) (ats : List (Y1).den) (kind : Int) (name : List UInt8) : runC eJ Tryz.f52 5 [(2, [0, 1, 7, 8])] [.os 2 0, .fn (.func 129) [] [.op 1 [] 0, .op 0 [] 0]] (hpA z ats kind name) ah =
  (hlp eJ cf_idxa) (cL (cL (cR (cL (cR C_idxa))))) _ { fr := mkFr 5 [(0, AV.os 2 0), (1, AV.fn (Fn.func 129) [] [AV.op 1 [] 0, AV.op 0 [] 0]), (7, I (Int.ofNat ats.length)), (8, I 0)], hp := [(0, AObj.box (I kind)), (1, AObj.box (AV.d Ty.str name)), (2, AObj.arr 37 (Ty.str.pair ((i64T).pair ((i64T).pair ((i64T).pair (Ty.str.pair (((i64T).pair ((i64T).slice.pair ((i64T).slice.pair Ty.unit))).pair ((i64T).slice.pair Ty.unit))))))) 0 z ats)], nx := 6 } (blkK 0 (seqH eJ cf_idxa [2] (hlp eJ cf_idxa) (cR (cR C_idxa)) (endC Tryz.prog 3 Tryz.f52.results.toList ah))) := runH_runC.trans (idxa_eqH (hlp eJ cf_idxa) z ats kind name)
def stA (z : Bool) (ats : List (Y1).den) (kind : Int) (name : List UInt8) (i : Int) : LSt := ⟨mkFr 5 [(0, .os 2 0), (1, .fn (.func 129) [] [.op 1 [] 0, .op 0 [] 0]), (7, I (Int.ofNat ats.length)), (8, I i)], hpA z ats kind name, 6⟩
theorem idxa_stepH (hl : Hl) (z : Bool) (ats : List (Y1).den) (kind : Int) (name : List UInt8) (i : Int) (n : Nat) {R : Type} (k : AEx → LSt → Option R) : lpH eJ cf_idxa [2] hl (cL (cL (cR (cL (cR C_idxa))))) (n + 1) (stA z ats kind name i) k =
  bif decide (i < Int.ofNat ats.length) then (idx ats i).bind fun v1 =>
      (ats[i.toNat]?).bind fun v2 =>
        bif okA name kind v2 then k AEx.ret { fr := mkFr 5 [(0, AV.os 2 0), (1, AV.fn (Fn.func 129) [] [AV.op 1 [] 0, AV.op 0 [] 0]), (4, I i), (5, I i), (7, I (Int.ofNat ats.length)), (8, I i), (9, B true), (10, I i), (11, AV.fn (Fn.func 129) [] [AV.op 1 [] 0, AV.op 0 [] 0]), (12, AV.os 2 0), (13, I i), (14, AV.oe 2 0 i.toNat), (15, AV.d (Ty.str.pair ((i64T).pair ((i64T).pair ((i64T).pair (Ty.str.pair (((i64T).pair ((i64T).slice.pair ((i64T).slice.pair Ty.unit))).pair ((i64T).slice.pair Ty.unit))))))) v2), (16, B true), (17, I i)], hp := [(0, AObj.box (I kind)), (1, AObj.box (AV.d Ty.str name)), (0, AObj.box (I kind)), (1, AObj.box (AV.d Ty.str name)), (2, AObj.arr 37 (Ty.str.pair ((i64T).pair ((i64T).pair ((i64T).pair (Ty.str.pair (((i64T).pair ((i64T).slice.pair ((i64T).slice.pair Ty.unit))).pair ((i64T).slice.pair Ty.unit))))))) 0 z ats)], nx := 8 }
        else lpH eJ cf_idxa [2] hl (cL (cL (cR (cL (cR C_idxa))))) n { fr := mkFr 5 [(0, AV.os 2 0), (1, AV.fn (Fn.func 129) [] [AV.op 1 [] 0, AV.op 0 [] 0]), (7, I (Int.ofNat ats.length)), (8, I (IntKind.i64.wrap (i + 1)))], hp := [(0, AObj.box (I kind)), (1, AObj.box (AV.d Ty.str name)), (2, AObj.arr 37 (Ty.str.pair ((i64T).pair ((i64T).pair ((i64T).pair (Ty.str.pair (((i64T).pair ((i64T).slice.pair ((i64T).slice.pair Ty.unit))).pair ((i64T).slice.pair Ty.unit))))))) 0 z ats)], nx := 6 } k
  else k (AEx.exit 0) { fr := mkFr 5 [(0, AV.os 2 0), (1, AV.fn (Fn.func 129) [] [AV.op 1 [] 0, AV.op 0 [] 0]), (7, I (Int.ofNat ats.length)), (8, I i), (9, B false)], hp := [(0, AObj.box (I kind)), (1, AObj.box (AV.d Ty.str name)), (2, AObj.arr 37 (Ty.str.pair ((i64T).pair ((i64T).pair ((i64T).pair (Ty.str.pair (((i64T).pair ((i64T).slice.pair ((i64T).slice.pair Ty.unit))).pair ((i64T).slice.pair Ty.unit))))))) 0 z ats)], nx := 6 } := by kernel_rfl
theorem idxa_step (z : Bool) (ats : List (Y1).den) (kind : Int) (name : List UInt8) (i : Int) (n : Nat) {R : Type} (k : AEx → LSt → Option R) : lp eJ cf_idxa (cL (cL (cR (cL (cR C_idxa))))) (n + 1) (stA z ats kind name i) k =
  bif decide (i < Int.ofNat ats.length) then (idx ats i).bind fun v1 =>
      (ats[i.toNat]?).bind fun v2 =>
        bif okA name kind v2 then k AEx.ret { fr := mkFr 5 [(0, AV.os 2 0), (1, AV.fn (Fn.func 129) [] [AV.op 1 [] 0, AV.op 0 [] 0]), (4, I i), (5, I i), (7, I (Int.ofNat ats.length)), (8, I i), (9, B true), (10, I i), (11, AV.fn (Fn.func 129) [] [AV.op 1 [] 0, AV.op 0 [] 0]), (12, AV.os 2 0), (13, I i), (14, AV.oe 2 0 i.toNat), (15, AV.d (Ty.str.pair ((i64T).pair ((i64T).pair ((i64T).pair (Ty.str.pair (((i64T).pair ((i64T).slice.pair ((i64T).slice.pair Ty.unit))).pair ((i64T).slice.pair Ty.unit))))))) v2), (16, B true), (17, I i)], hp := [(0, AObj.box (I kind)), (1, AObj.box (AV.d Ty.str name)), (0, AObj.box (I kind)), (1, AObj.box (AV.d Ty.str name)), (2, AObj.arr 37 (Ty.str.pair ((i64T).pair ((i64T).pair ((i64T).pair (Ty.str.pair (((i64T).pair ((i64T).slice.pair ((i64T).slice.pair Ty.unit))).pair ((i64T).slice.pair Ty.unit))))))) 0 z ats)], nx := 8 }
        else lp eJ cf_idxa (cL (cL (cR (cL (cR C_idxa))))) n { fr := mkFr 5 [(0, AV.os 2 0), (1, AV.fn (Fn.func 129) [] [AV.op 1 [] 0, AV.op 0 [] 0]), (7, I (Int.ofNat ats.length)), (8, I (IntKind.i64.wrap (i + 1)))], hp := [(0, AObj.box (I kind)), (1, AObj.box (AV.d Ty.str name)), (2, AObj.arr 37 (Ty.str.pair ((i64T).pair ((i64T).pair ((i64T).pair (Ty.str.pair (((i64T).pair ((i64T).slice.pair ((i64T).slice.pair Ty.unit))).pair ((i64T).slice.pair Ty.unit))))))) 0 z ats)], nx := 6 } k
  else k (AEx.exit 0) { fr := mkFr 5 [(0, AV.os 2 0), (1, AV.fn (Fn.func 129) [] [AV.op 1 [] 0, AV.op 0 [] 0]), (7, I (Int.ofNat ats.length)), (8, I i), (9, B false)], hp := [(0, AObj.box (I kind)), (1, AObj.box (AV.d Ty.str name)), (2, AObj.arr 37 (Ty.str.pair ((i64T).pair ((i64T).pair ((i64T).pair (Ty.str.pair (((i64T).pair ((i64T).slice.pair ((i64T).slice.pair Ty.unit))).pair ((i64T).slice.pair Ty.unit))))))) 0 z ats)], nx := 6 } := by
  have h := idxa_stepH (hlp eJ cf_idxa) z ats kind name i n k
  simp only [lpH_lp] at h
  exact h
theorem idxa_run (z : Bool) (ats : List (Y1).den) (kind : Int) (name : List UInt8) (hl : ats.length ≤ maxLen) : runC eJ Tryz.f52 5 [(2, [0, 1, 7, 8])] [.os 2 0, .fn (.func 129) [] [.op 1 [] 0, .op 0 [] 0]] (hpA z ats kind name) ah = some (.ret [I (idxP (okA name kind) ats)], hpA z ats kind name) := by
  rw [idxa_eq]
  have hs := fun (i : Int) (n : Nat) => idxa_step z ats kind name i n (blkK 0 (seqH eJ cf_idxa [2] (hlp eJ cf_idxa) (cR (cR C_idxa)) (endC Tryz.prog 3 Tryz.f52.results.toList ah)))
  simp only [idx2] at hs
  have h := find_lp (T := fun n s => lp eJ cf_idxa (cL (cL (cR (cL (cR C_idxa))))) n s (blkK 0 (seqH eJ cf_idxa [2] (hlp eJ cf_idxa) (cR (cR C_idxa)) (endC Tryz.prog 3 Tryz.f52.results.toList ah)))) (xs := ats) (st := fun i => stA z ats kind name i) hl hs
  unfold stA hpA at h
  refine h.trans ?_
  unfold idxP
  cases hq : ats.findIdx? (okA name kind) with
  | none => show _ = _; kernel_rfl
  | some i =>
    obtain ⟨hi, _⟩ := List.findIdx?_eq_some_iff_getElem.1 hq
    simp only [List.getElem?_eq_getElem hi, Option.bind_some]
    show _ = _
    kernel_rfl
def idxaF : List AV → LHp → Tq
  | [.os 2 0, .fn (.func 129) [] [.op 1 [] 0, .op 0 [] 0]], [(0, .box (.d (.int .i64) kind)), (1, .box (.d .str name)), (2, .arr 37 ((.pair .str (.pair (.int .i64) (.pair (.int .i64) (.pair (.int .i64) (.pair .str (.pair (.pair (.int .i64) (.pair (.slice (.int .i64)) (.pair (.slice (.int .i64)) .unit))) (.pair (.slice (.int .i64)) .unit)))))))) 0 z ats)] => .br (decide (ats.length ≤ maxLen)) (.leaf (.ret [I (idxP (okA name kind) ats)]) (hpA z ats kind name)) .no
  | _, _ => .no
theorem idxaE_ok : FnE.OK e0.P e0.gam 52 (treeE idxaF) := by
  refine treeC_ok eJ_good hmix Tryz.func52 Tryz.call52 (depth := 5) (live := [(2, [0, 1, 7, 8])]) (by decide +kernel) rfl fun args hs p h => ?_
  unfold idxaF at h
  split at h
  · obtain ⟨hl, h⟩ := Tq.br_no h
    cases h
    have hl := of_decide_eq_true hl
    exact idxa_run _ _ _ _ hl
  · cases h

/-! ### find -/
def nodeA (op nm out : List UInt8) (i a : AV) : AV := .pr (.d .str op) (.pr (.d .str nm) (.pr i (.pr (.d .str out) (.pr a (.d .unit ())))))
def hpN (z z2 : Bool) (ats : List (Y1).den) (ins : List (List UInt8)) : LHp := [(0, .arr 37 (Y1) 0 z ats), (1, .arr 9 .str 0 z2 ins)]
noncomputable def eK : Env := e22.add 52 (treeE idxaF)
noncomputable def eK0 : Env := e22
theorem find_eq (op nm out : List UInt8) (z z2 : Bool) (ats : List (Y1).den) (ins : List (List UInt8)) (name : List UInt8) (kind : Int) : runC eK Tryz.f61 5 [] [nodeA op nm out (.os 1 0) (.os 0 0), .d .str name, I kind] (hpN z z2 ats ins) ah =
  bif decide (ats.length ≤ 9223372036854775807) then 
    bif decide (idxP (fun a => a.fst == name && a.snd.fst == kind) ats < 0) then some (AEnd.ret [(AV.d Ty.str []).pr ((I 0).pr ((I 0).pr ((I 0).pr ((AV.d Ty.str []).pr (((I 0).pr (AV.nils.pr (AV.nils.pr (AV.d Ty.unit PUnit.unit)))).pr (AV.nils.pr (AV.d Ty.unit PUnit.unit))))))), B false], [(0, AObj.arr 37 (Ty.str.pair ((i64T).pair ((i64T).pair ((i64T).pair (Ty.str.pair (((i64T).pair ((i64T).slice.pair ((i64T).slice.pair Ty.unit))).pair ((i64T).slice.pair Ty.unit))))))) 0 z ats), (1, AObj.arr 9 Ty.str 0 z2 ins)])
    else (idx ats (idxP (fun a => a.fst == name && a.snd.fst == kind) ats)).bind fun v2 =>
        (ats[(idxP (fun a => a.fst == name && a.snd.fst == kind) ats).toNat]?).bind fun v3 =>
          some (AEnd.ret [AV.d (Ty.str.pair ((i64T).pair ((i64T).pair ((i64T).pair (Ty.str.pair (((i64T).pair ((i64T).slice.pair ((i64T).slice.pair Ty.unit))).pair ((i64T).slice.pair Ty.unit))))))) v3, B true], [(0, AObj.arr 37 (Ty.str.pair ((i64T).pair ((i64T).pair ((i64T).pair (Ty.str.pair (((i64T).pair ((i64T).slice.pair ((i64T).slice.pair Ty.unit))).pair ((i64T).slice.pair Ty.unit))))))) 0 z ats), (1, AObj.arr 9 Ty.str 0 z2 ins)])
  else none := by
  cases z <;> cases z2 <;> kernel_rfl
theorem eK_good : eK.Good := e22_good.add idxaE_ok
theorem idx_find {α : Type} (p : α → Bool) (xs : List α) : idx xs (idxP p xs) = xs.find? p := by
  unfold idxP
  cases h : xs.findIdx? p with
  | none =>
    rw [List.findIdx?_eq_none_iff] at h
    rw [List.find?_eq_none.2 (fun x hx => by simp [h x hx])]
    rfl
  | some i =>
    obtain ⟨hi, hp, hn⟩ := List.findIdx?_eq_some_iff_getElem.1 h
    show idx xs (i : Int) = _
    unfold idx
    rw [if_pos (by omega), Int.toNat_natCast, List.getElem?_eq_getElem hi]
    exact (List.find?_eq_some_iff_getElem.2 ⟨hp, i, hi, rfl, fun j hj => by simpa using hn j hj⟩).symm
def noAttr : AV := (AV.d Ty.str []).pr ((I 0).pr ((I 0).pr ((I 0).pr ((AV.d Ty.str []).pr (((I 0).pr (AV.nils.pr (AV.nils.pr (AV.d Ty.unit PUnit.unit)))).pr (AV.nils.pr (AV.d Ty.unit PUnit.unit)))))))
def findT (z z2 : Bool) (ats : List (Y1).den) (ins : List (List UInt8)) (name : List UInt8) (kind : Int) : Tq :=
  .br (decide (ats.length ≤ 9223372036854775807)) (.br (decide (idxP (okA name kind) ats < 0)) (.leaf (.ret [noAttr, B false]) (hpN z z2 ats ins)) (.opt (ats.find? (okA name kind)) fun a => .leaf (.ret [.d (Y1) a, B true]) (hpN z z2 ats ins))) .no
def nodeP : AV → Option (List UInt8 × List UInt8 × List UInt8 × AV × AV)
  | .pr (.d .str op) (.pr (.d .str nm) (.pr i (.pr (.d .str out) (.pr a (.d .unit _))))) => some (op, nm, out, i, a)
  | _ => none
theorem nodeP_some {n : AV} {op nm out : List UInt8} {i a : AV} (h : nodeP n = some (op, nm, out, i, a)) : n = nodeA op nm out i a := by
  unfold nodeP at h
  split at h
  · cases h; rfl
  · cases h
def findF1 : List AV → LHp → Tq
  | [n, .d .str name, .d (.int .i64) kind], [(0, .arr 37 ((.pair .str (.pair (.int .i64) (.pair (.int .i64) (.pair (.int .i64) (.pair .str (.pair (.pair (.int .i64) (.pair (.slice (.int .i64)) (.pair (.slice (.int .i64)) .unit))) (.pair (.slice (.int .i64)) .unit)))))))) 0 z ats), (1, .arr 9 .str 0 z2 ins)] =>
    (match nodeP n with
    | some (_, _, _, .os 1 0, .os 0 0) => findT z z2 ats ins name kind
    | _ => .no)
  | _, _ => .no
def findF2 : List AV → LHp → Tq
  | [n, .d .str _, .d (.int .i64) _], [(0, .arr 9 .str 0 z2 ins)] =>
    (match nodeP n with
    | some (_, _, _, .os 0 0, .nils) => .leaf (.ret [noAttr, B false]) [(0, .arr 9 .str 0 z2 ins)]
    | _ => .no)
  | _, _ => .no
def findF (args : List AV) (hs : LHp) : Tq := orT (findF1 args hs) (findF2 args hs)
theorem find_nil (op nm out : List UInt8) (z2 : Bool) (ins : List (List UInt8)) (name : List UInt8) (kind : Int) : runC eK0 Tryz.f61 5 [] [nodeA op nm out (.os 0 0) .nils, .d .str name, I kind] [(0, .arr 9 .str 0 z2 ins)] ah =
  some (AEnd.ret [(AV.d Ty.str []).pr ((I 0).pr ((I 0).pr ((I 0).pr ((AV.d Ty.str []).pr (((I 0).pr (AV.nils.pr (AV.nils.pr (AV.d Ty.unit PUnit.unit)))).pr (AV.nils.pr (AV.d Ty.unit PUnit.unit))))))), B false], [(0, AObj.arr 9 Ty.str 0 z2 ins)]) := by kernel_rfl
theorem find_run (op nm out : List UInt8) (z z2 : Bool) (ats : List (Y1).den) (ins : List (List UInt8)) (name : List UInt8) (kind : Int) : runC eK Tryz.f61 5 [] [nodeA op nm out (.os 1 0) (.os 0 0), .d .str name, I kind] (hpN z z2 ats ins) ah = (findT z z2 ats ins name kind).run ah := by
  rw [find_eq]
  simp only [idx2]
  simp only [idx_find]
  unfold findT
  show _ = _
  kernel_rfl
theorem findE_ok : FnE.OK e0.P e0.gam 61 (treeE findF) := by
  have h1 : FnE.OK e0.P e0.gam 61 (execFnC eK Tryz.f61 5 []) := execFnC_ok eK_good hmix Tryz.func61 Tryz.call61 (by decide +kernel) rfl
  have h2 : FnE.OK e0.P e0.gam 61 (execFnC e22 Tryz.f61 5 []) := x61_ok
  refine ⟨fun _ _ _ => Tq.eq _ _, fun args hs ae hs' h => ?_⟩
  have h' : (findF args hs).run ah = some (ae, hs') := h
  clear h
  rcases orT_run h' with h' | h'
  · unfold findF1 at h'
    split at h'
    · split at h'
      · rename_i hn
        rw [nodeP_some hn]
        exact h1.okC ((find_run _ _ _ _ _ _ _ _ _).trans h')
      · cases h'
    · cases h'
  · unfold findF2 at h'
    split at h'
    · split at h'
      · rename_i hn
        rw [nodeP_some hn]
        cases h'
        exact h2.okC (find_nil _ _ _ _ _ _ _)
      · cases h'
    · cases h'
end Go.Proofs.XGT
/- schema.Check of the nodes of the laws. -/
namespace Go.Proofs.XGT
open Go.Vm Go
set_option maxRecDepth 100000
set_option maxHeartbeats 4000000
noncomputable def C_sck : Code := codeOf Tryz.f91
noncomputable def cf_sck : Cfg := ⟨72, 7, 2, [], true⟩
def strMP : List UInt8 := [77, 97, 120, 80, 111, 111, 108]
def strKS : List UInt8 := [107, 101, 114, 110, 101, 108, 95, 115, 104, 97, 112, 101]
def kattr (l : List Int) : (Y1).den := (strKS, 7, 0, 0, [], (0, [], [], ()), l, ())
theorem ck_mp (l : List Int) : runC e56 Tryz.f91 7 [] [nodeA strMP [] [122] (.os 1 0) (.os 0 0)] (hpN false false [kattr l] [[120]]) ah = some (.ret [I 0], hpN true false [kattr l] [[120]]) := by kernel_rfl
/-- the attributes are just one list of numbers under a name -/
def oneAttr (nm : List UInt8) : List (Y1).den → Option (List Int)
  | [a] => if a.1 = nm ∧ a.2.1 = (7 : Int) ∧ a.2.2.1 = (0 : Int) ∧ a.2.2.2.1 = (0 : Int) ∧ a.2.2.2.2.1 = ([] : List UInt8) ∧ a.2.2.2.2.2.1.1 = (0 : Int) ∧ a.2.2.2.2.2.1.2.1 = ([] : List Int) ∧ a.2.2.2.2.2.1.2.2.1 = ([] : List Int) then some a.2.2.2.2.2.2.1 else none
  | _ => none
theorem oneAttr_some {ats : List (Y1).den} {l : List Int} (h : oneAttr strKS ats = some l) : ats = [kattr l] := by
  unfold oneAttr at h
  split at h
  · rename_i a
    split at h
    · rename_i hh
      obtain ⟨a1, a2, a3, a4, a5, ⟨b1, b2, b3, ⟨⟩⟩, a7, ⟨⟩⟩ := a
      obtain ⟨h1, h2, h3, h4, h5, h6, h7, h8⟩ := hh
      cases h
      simp only at h1 h2 h3 h4 h5 h6 h7 h8
      subst h1 h2 h3 h4 h5 h6 h7 h8
      rfl
    · cases h
  · cases h
def sckF : List AV → LHp → Tq
  | [n], [(0, .arr 37 ((.pair .str (.pair (.int .i64) (.pair (.int .i64) (.pair (.int .i64) (.pair .str (.pair (.pair (.int .i64) (.pair (.slice (.int .i64)) (.pair (.slice (.int .i64)) .unit))) (.pair (.slice (.int .i64)) .unit)))))))) 0 false ats), (1, .arr 9 .str 0 false ins)] =>
    (match nodeP n with
    | some (op, nm, out, .os 1 0, .os 0 0) => .br (decide (op = strMP) && decide (nm = []) && decide (out = [122]) && decide (ins = [[120]])) (.opt (oneAttr strKS ats) fun l => .leaf (.ret [I 0]) (hpN true false [kattr l] [[120]])) .no
    | _ => .no)
  | _, _ => .no
theorem sckE_ok : FnE.OK e0.P e0.gam 91 (treeE sckF) := by
  have h1 : FnE.OK e0.P e0.gam 91 (execFnC e56 Tryz.f91 7 []) := x91_ok
  refine ⟨fun _ _ _ => Tq.eq _ _, fun args hs ae hs' h => ?_⟩
  have h' : (sckF args hs).run ah = some (ae, hs') := h
  clear h
  unfold sckF at h'
  split at h'
  · split at h'
    · rename_i ats ins _ op nm out hn
      rw [nodeP_some hn]
      obtain ⟨hb, h'⟩ := Tq.br_no h'
      simp only [Bool.and_eq_true, decide_eq_true_eq] at hb
      obtain ⟨⟨⟨rfl, rfl⟩, rfl⟩, rfl⟩ := hb
      simp only [Tq.run] at h'
      obtain ⟨l, hl, h'⟩ := bind_some h'
      rw [oneAttr_some hl]
      cases h'
      exact h1.okC (ck_mp l)
    · cases h'
  · cases h'
end Go.Proofs.XGT
/- schema.Check of more nodes. -/
namespace Go.Proofs.XGT
open Go.Vm Go
set_option maxRecDepth 100000
set_option maxHeartbeats 4000000
def strAP : List UInt8 := [65, 118, 101, 114, 97, 103, 101, 80, 111, 111, 108]
def strGAP : List UInt8 := [71, 108, 111, 98, 97, 108, 65, 118, 101, 114, 97, 103, 101, 80, 111, 111, 108]
def strMM : List UInt8 := [77, 97, 116, 77, 117, 108]
def strGM : List UInt8 := [71, 101, 109, 109]
theorem ck_ap (l : List Int) : runC e56 Tryz.f91 7 [] [nodeA strAP [] [122] (.os 1 0) (.os 0 0)] (hpN false false [kattr l] [[120]]) ah = some (.ret [I 0], hpN true false [kattr l] [[120]]) := by kernel_rfl
theorem ck_gap : runC e56 Tryz.f91 7 [] [nodeA strGAP [] [122] (.os 0 0) .nils] [(0, .arr 9 .str 0 false [[120]])] ah = some (.ret [I 0], [(0, .arr 9 .str 0 false [[120]])]) := by kernel_rfl
theorem ck_mm : runC e56 Tryz.f91 7 [] [nodeA strMM [] [122] (.os 0 0) .nils] [(0, .arr 9 .str 0 false [[120], [121]])] ah = some (.ret [I 0], [(0, .arr 9 .str 0 false [[120], [121]])]) := by kernel_rfl
theorem ck_gm : runC e56 Tryz.f91 7 [] [nodeA strGM [] [122] (.os 0 0) .nils] [(0, .arr 9 .str 0 false [[120], [121]])] ah = some (.ret [I 0], [(0, .arr 9 .str 0 false [[120], [121]])]) := by kernel_rfl
/-- an answer where c holds, else none of this kind -/
def gate (c : Bool) (t : Tq) : Tq := bif c then t else .no
theorem gate_run {c : Bool} {t : Tq} {p : AEnd × LHp} (h : (gate c t).run ah = some p) : c = true ∧ t.run ah = some p := by
  cases c with
  | true => exact ⟨rfl, h⟩
  | false => cases h
/-- nodes with the one attribute kernel_shape -/
def sckK (op0 : List UInt8) : List AV → LHp → Tq
  | [n], [(0, .arr 37 ((.pair .str (.pair (.int .i64) (.pair (.int .i64) (.pair (.int .i64) (.pair .str (.pair (.pair (.int .i64) (.pair (.slice (.int .i64)) (.pair (.slice (.int .i64)) .unit))) (.pair (.slice (.int .i64)) .unit)))))))) 0 false ats), (1, .arr 9 .str 0 false ins)] =>
    (match nodeP n with
    | some (op, nm, out, .os 1 0, .os 0 0) => gate (decide (op = op0) && decide (nm = []) && decide (out = [122]) && decide (ins = [[120]])) (.opt (oneAttr strKS ats) fun l => .leaf (.ret [I 0]) (hpN true false [kattr l] [[120]]))
    | _ => .no)
  | _, _ => .no
theorem sckK_ok {op0 : List UInt8} (hc : ∀ l, runC e56 Tryz.f91 7 [] [nodeA op0 [] [122] (.os 1 0) (.os 0 0)] (hpN false false [kattr l] [[120]]) ah = some (.ret [I 0], hpN true false [kattr l] [[120]])) : FnE.OK e0.P e0.gam 91 (treeE (sckK op0)) := by
  have h1 : FnE.OK e0.P e0.gam 91 (execFnC e56 Tryz.f91 7 []) := x91_ok
  refine ⟨fun _ _ _ => Tq.eq _ _, fun args hs ae hs' h => ?_⟩
  have h' : (sckK op0 args hs).run ah = some (ae, hs') := h
  clear h
  unfold sckK at h'
  split at h'
  · split at h'
    · rename_i ats ins _ op nm out hn
      rw [nodeP_some hn]
      obtain ⟨hb, h2⟩ := gate_run h'
      clear h'
      simp only [Bool.and_eq_true, decide_eq_true_eq] at hb
      obtain ⟨⟨⟨b1, b2⟩, b3⟩, b4⟩ := hb
      subst b1 b2 b3 b4
      simp only [Tq.run] at h2
      obtain ⟨l, hl, h3⟩ := bind_some h2
      clear h2
      rw [oneAttr_some hl]
      cases h3
      exact h1.okC (hc l)
    · cases h'
  · cases h'
/-- nodes without attributes -/
def sckN (op0 : List UInt8) (ins0 : List (List UInt8)) : List AV → LHp → Tq
  | [n], [(0, .arr 9 .str 0 false ins)] =>
    (match nodeP n with
    | some (op, nm, out, .os 0 0, .nils) => gate (decide (op = op0) && decide (nm = []) && decide (out = [122]) && decide (ins = ins0)) (.leaf (.ret [I 0]) [(0, .arr 9 .str 0 false ins0)])
    | _ => .no)
  | _, _ => .no
theorem sckN_ok {op0 : List UInt8} {ins0 : List (List UInt8)} (hc : runC e56 Tryz.f91 7 [] [nodeA op0 [] [122] (.os 0 0) .nils] [(0, .arr 9 .str 0 false ins0)] ah = some (.ret [I 0], [(0, .arr 9 .str 0 false ins0)])) : FnE.OK e0.P e0.gam 91 (treeE (sckN op0 ins0)) := by
  have h1 : FnE.OK e0.P e0.gam 91 (execFnC e56 Tryz.f91 7 []) := x91_ok
  refine ⟨fun _ _ _ => Tq.eq _ _, fun args hs ae hs' h => ?_⟩
  have h' : (sckN op0 ins0 args hs).run ah = some (ae, hs') := h
  clear h
  unfold sckN at h'
  split at h'
  · split at h'
    · rename_i ins _ op nm out hn
      rw [nodeP_some hn]
      obtain ⟨hb, h2⟩ := gate_run h'
      clear h'
      simp only [Bool.and_eq_true, decide_eq_true_eq] at hb
      obtain ⟨⟨⟨b1, b2⟩, b3⟩, b4⟩ := hb
      subst b1 b2 b3 b4
      cases h2
      exact h1.okC hc
    · cases h'
  · cases h'
def sckG (args : List AV) (hs : LHp) : Tq := orT (sckK strMP args hs) (orT (sckK strAP args hs) (orT (sckN strGAP [[120]] args hs) (orT (sckN strMM [[120], [121]] args hs) (sckN strGM [[120], [121]] args hs))))
theorem sckG_ok : FnE.OK e0.P e0.gam 91 (treeE sckG) := treeE_or (sckK_ok ck_mp) (treeE_or (sckK_ok ck_ap) (treeE_or (sckN_ok ck_gap) (treeE_or (sckN_ok ck_mm) (sckN_ok ck_gm))))
end Go.Proofs.XGT
/- schema.Check of a Gather. -/
namespace Go.Proofs.XGT
open Go.Vm Go
set_option maxRecDepth 100000
set_option maxHeartbeats 4000000
def strAxis : List UInt8 := [97, 120, 105, 115]
def strGA : List UInt8 := [71, 97, 116, 104, 101, 114]
def iattr (nm : List UInt8) (v : Int) : (Y1).den := (nm, 2, 0, v, [], (0, [], [], ()), [], ())
theorem ck_ga (v : Int) : runC e56 Tryz.f91 7 [] [nodeA strGA [] [122] (.os 1 0) (.os 0 0)] (hpN false false [iattr strAxis v] [[120], [121]]) ah = some (.ret [I 0], hpN true false [iattr strAxis v] [[120], [121]]) := by kernel_rfl
theorem ck_ga0 : runC e56 Tryz.f91 7 [] [nodeA strGA [] [122] (.os 0 0) .nils] [(0, .arr 9 .str 0 false [[120], [121]])] ah = some (.ret [I 0], [(0, .arr 9 .str 0 false [[120], [121]])]) := by kernel_rfl
/-- the attributes are just one number under a name -/
def oneInt (nm : List UInt8) : List (Y1).den → Option Int
  | [a] => if a.1 = nm ∧ a.2.1 = (2 : Int) ∧ a.2.2.1 = (0 : Int) ∧ a.2.2.2.2.1 = ([] : List UInt8) ∧ a.2.2.2.2.2.1.1 = (0 : Int) ∧ a.2.2.2.2.2.1.2.1 = ([] : List Int) ∧ a.2.2.2.2.2.1.2.2.1 = ([] : List Int) ∧ a.2.2.2.2.2.2.1 = ([] : List Int) then some a.2.2.2.1 else none
  | _ => none
theorem oneInt_some {nm : List UInt8} {ats : List (Y1).den} {v : Int} (h : oneInt nm ats = some v) : ats = [iattr nm v] := by
  unfold oneInt at h
  split at h
  · rename_i a
    split at h
    · rename_i hh
      obtain ⟨a1, a2, a3, a4, a5, ⟨b1, b2, b3, ⟨⟩⟩, a7, ⟨⟩⟩ := a
      obtain ⟨h1, h2, h3, h4, h5, h6, h7, h8⟩ := hh
      cases h
      simp only at h1 h2 h3 h4 h5 h6 h7 h8
      subst h1 h2 h3 h4 h5 h6 h7 h8
      rfl
    · cases h
  · cases h
def sckI (op0 nm0 : List UInt8) (ins0 : List (List UInt8)) : List AV → LHp → Tq
  | [n], [(0, .arr 37 ((.pair .str (.pair (.int .i64) (.pair (.int .i64) (.pair (.int .i64) (.pair .str (.pair (.pair (.int .i64) (.pair (.slice (.int .i64)) (.pair (.slice (.int .i64)) .unit))) (.pair (.slice (.int .i64)) .unit)))))))) 0 false ats), (1, .arr 9 .str 0 false ins)] =>
    (match nodeP n with
    | some (op, nm, out, .os 1 0, .os 0 0) => gate (decide (op = op0) && decide (nm = []) && decide (out = [122]) && decide (ins = ins0)) (.opt (oneInt nm0 ats) fun v => .leaf (.ret [I 0]) (hpN true false [iattr nm0 v] ins0))
    | _ => .no)
  | _, _ => .no
theorem sckI_ok {op0 nm0 : List UInt8} {ins0 : List (List UInt8)} (hc : ∀ v, runC e56 Tryz.f91 7 [] [nodeA op0 [] [122] (.os 1 0) (.os 0 0)] (hpN false false [iattr nm0 v] ins0) ah = some (.ret [I 0], hpN true false [iattr nm0 v] ins0)) : FnE.OK e0.P e0.gam 91 (treeE (sckI op0 nm0 ins0)) := by
  have h1 : FnE.OK e0.P e0.gam 91 (execFnC e56 Tryz.f91 7 []) := x91_ok
  refine ⟨fun _ _ _ => Tq.eq _ _, fun args hs ae hs' h => ?_⟩
  have h' : (sckI op0 nm0 ins0 args hs).run ah = some (ae, hs') := h
  clear h
  unfold sckI at h'
  split at h'
  · split at h'
    · rename_i ats ins _ op nm out hn
      rw [nodeP_some hn]
      obtain ⟨hb, h2⟩ := gate_run h'
      clear h'
      simp only [Bool.and_eq_true, decide_eq_true_eq] at hb
      obtain ⟨⟨⟨b1, b2⟩, b3⟩, b4⟩ := hb
      subst b1 b2 b3 b4
      simp only [Tq.run] at h2
      obtain ⟨l, hl, h3⟩ := bind_some h2
      clear h2
      rw [oneInt_some hl]
      cases h3
      exact h1.okC (hc l)
    · cases h'
  · cases h'
def sckM (args : List AV) (hs : LHp) : Tq := orT (sckG args hs) (orT (sckI strGA strAxis [[120], [121]] args hs) (sckN strGA [[120], [121]] args hs))
theorem sckM_ok : FnE.OK e0.P e0.gam 91 (treeE sckM) := treeE_or sckG_ok (treeE_or (sckI_ok ck_ga) (sckN_ok ck_ga0))
end Go.Proofs.XGT
/- slices.Concat of three lists. -/
namespace Go.Proofs.XGT
open Go.Vm Go
set_option maxRecDepth 100000
set_option maxHeartbeats 4000000
noncomputable def C_cat : Code := codeOf Tryz.f165
noncomputable def cf_cat : Cfg := ⟨36, 6, 1, [(3, [0, 3, 9, 10, 11]), (11, [6, 25, 26, 27])], true⟩
theorem cat_eq (l1 l2 l3 : List Int) : runC e118 Tryz.f165 6 [(3, [0, 3, 9, 10, 11]), (11, [6, 25, 26, 27])] [.os 0 0] [(0, .arr 22 (.slice i64T) 0 false [l1, l2, l3])] ah =
  bif decide (IntKind.i64.wrap (Int.ofNat (0 + l1.length)) < 0) then none
  else 
    bif decide (IntKind.i64.wrap (IntKind.i64.wrap (Int.ofNat (0 + l1.length)) + Int.ofNat l2.length) < 0) then none
    else 
      bif decide (IntKind.i64.wrap (IntKind.i64.wrap (IntKind.i64.wrap (Int.ofNat (0 + l1.length)) + Int.ofNat l2.length) + Int.ofNat l3.length) < 0) then none
      else 
        bif decide (IntKind.i64.wrap (IntKind.i64.wrap (IntKind.i64.wrap (Int.ofNat (0 + l1.length)) + Int.ofNat l2.length) + Int.ofNat l3.length) < 0) then none
        else 
          bif decide (IntKind.i64.wrap (IntKind.i64.wrap (IntKind.i64.wrap (IntKind.i64.wrap (Int.ofNat (0 + l1.length)) + Int.ofNat l2.length) + Int.ofNat l3.length) - 0) > 0) then 
            bif decide (0 < IntKind.i64.wrap (IntKind.i64.wrap (IntKind.i64.wrap (IntKind.i64.wrap (Int.ofNat (0 + l1.length)) + Int.ofNat l2.length) + Int.ofNat l3.length) - 0)) && decide (IntKind.i64.wrap (IntKind.i64.wrap (IntKind.i64.wrap (IntKind.i64.wrap (Int.ofNat (0 + l1.length)) + Int.ofNat l2.length) + Int.ofNat l3.length) - 0) ≤ 4294967296) then (app [] l1).bind fun v6 =>
                (app v6 l2).bind fun v7 =>
                  (app v7 l3).bind fun v8 =>
                    some (AEnd.ret [AV.os 1 0], [(0, AObj.arr 22 (i64T).slice 0 false [l1, l2, l3]), (1, AObj.arr 3 (i64T) 0 false v8)])
            else none
          else (app [] l1).bind fun v5 =>
              (app v5 l2).bind fun v6 =>
                (app v6 l3).bind fun v7 =>
                  some (AEnd.ret [AV.os 1 0], [(0, AObj.arr 22 (i64T).slice 0 false [l1, l2, l3]), (1, AObj.arr 3 (i64T) 0 false v7)]) := by kernel_rfl
theorem app_mk {α : Type} {xs ys : List α} (h : xs.length + ys.length ≤ lim) : app xs ys = some (xs ++ ys) := by
  unfold app
  rw [if_pos h]
theorem cat_run (l1 l2 l3 : List Int) (h : l1.length + l2.length + l3.length ≤ 65536) : runC e118 Tryz.f165 6 [(3, [0, 3, 9, 10, 11]), (11, [6, 25, 26, 27])] [.os 0 0] [(0, .arr 22 (.slice i64T) 0 false [l1, l2, l3])] ah = some (.ret [.os 1 0], [(0, .arr 22 (.slice i64T) 0 false [l1, l2, l3]), (1, .arr 3 i64T 0 false (l1 ++ l2 ++ l3))]) := by
  have e1 : IntKind.i64.wrap (Int.ofNat (0 + l1.length)) = (l1.length : Int) := by
    rw [Nat.zero_add]
    exact wrap64 (by simp only [Int.ofNat_eq_natCast]; omega) (by simp only [Int.ofNat_eq_natCast]; omega)
  have e2 : IntKind.i64.wrap ((l1.length : Int) + Int.ofNat l2.length) = ((l1.length + l2.length : Nat) : Int) := by
    rw [wrap64 (by simp only [Int.ofNat_eq_natCast]; omega) (by simp only [Int.ofNat_eq_natCast]; omega)]
    rfl
  have e3 : IntKind.i64.wrap (((l1.length + l2.length : Nat) : Int) + Int.ofNat l3.length) = ((l1.length + l2.length + l3.length : Nat) : Int) := by
    rw [wrap64 (by simp only [Int.ofNat_eq_natCast]; omega) (by simp only [Int.ofNat_eq_natCast]; omega)]
    rfl
  have e4 : IntKind.i64.wrap (((l1.length + l2.length + l3.length : Nat) : Int) - 0) = ((l1.length + l2.length + l3.length : Nat) : Int) := by
    rw [Int.sub_zero]
    exact wrap64 (by omega) (by omega)
  rw [cat_eq, e1, e2, e3, e4, decide_eq_false (show ¬ ((l1.length : Int) < 0) by omega), decide_eq_false (show ¬ (((l1.length + l2.length : Nat) : Int) < 0) by omega), decide_eq_false (show ¬ (((l1.length + l2.length + l3.length : Nat) : Int) < 0) by omega)]
  have a1 : app ([] : List Int) l1 = some l1 := by rw [app_mk (by unfold lim; simp; omega)]; rfl
  have a2 : app l1 l2 = some (l1 ++ l2) := app_mk (by unfold lim; omega)
  have a3 : app (l1 ++ l2) l3 = some (l1 ++ l2 ++ l3) := app_mk (by unfold lim; rw [List.length_append]; omega)
  simp only [cond_false, a1, a2, a3, Option.bind_some]
  by_cases h0 : (((l1.length + l2.length + l3.length : Nat) : Int)) > 0
  · rw [decide_eq_true h0, decide_eq_true (show ((l1.length + l2.length + l3.length : Nat) : Int) ≤ 4294967296 by omega)]
    rfl
  · rw [decide_eq_false h0]
    rfl
def unc : List Int → Option (Int × List Int)
  | [] => none
  | x :: l => some (x, l)
def catT : List AV → LHp → Tq
  | [.os 0 0], [(0, .arr 22 (.slice (.int .i64)) 0 false [l1, l2, l3])] => .opt (unc (l1 ++ l2 ++ l3)) fun p => .br (decide (l1.length + l2.length + l3.length ≤ 65536)) (.leaf (.ret [.os 1 0]) [(0, .arr 22 (.slice i64T) 0 false [l1, l2, l3]), (1, .arr 3 i64T 0 false (p.1 :: p.2))]) .no
  | _, _ => .no
theorem catT_ok : FnE.OK e0.P e0.gam 165 (treeE catT) := by
  have h1 : FnE.OK e0.P e0.gam 165 (execFnC e118 Tryz.f165 6 [(3, [0, 3, 9, 10, 11]), (11, [6, 25, 26, 27])]) := x165_ok
  refine ⟨fun _ _ _ => Tq.eq _ _, fun args hs ae hs' h => ?_⟩
  have h' : (catT args hs).run ah = some (ae, hs') := h
  clear h
  unfold catT at h'
  split at h'
  · simp only [Tq.run] at h'
    obtain ⟨p, hp, h2⟩ := bind_some h'
    clear h'
    obtain ⟨x, l⟩ := p
    obtain ⟨hb, h3⟩ := Tq.br_no (t := .leaf _ _) (show (Tq.br (decide _) (.leaf _ _) .no).run ah = some (ae, hs') from h2)
    cases h3
    have e : ∀ {ls : List Int}, unc ls = some (x, l) → ls = x :: l := fun {ls} h => by
      cases ls with
      | nil => cases h
      | cons a b => cases h; rfl
    rw [← e hp]
    exact h1.okC (cat_run _ _ _ (of_decide_eq_true hb))
  · cases h'
end Go.Proofs.XGT
/- schema.Check of a Transpose without attributes, and of a Gemm that turns both. -/
namespace Go.Proofs.XGT
open Go.Vm Go
set_option maxRecDepth 100000
set_option maxHeartbeats 4000000
def strTR : List UInt8 := [84, 114, 97, 110, 115, 112, 111, 115, 101]
def strTA : List UInt8 := [116, 114, 97, 110, 115, 65]
def strTB : List UInt8 := [116, 114, 97, 110, 115, 66]
def flagsAB : List (Y1).den := [iattr strTA 1, iattr strTB 1]
theorem ck_tr : runC e56 Tryz.f91 7 [] [nodeA strTR [] [121] (.os 0 0) .nils] [(0, .arr 9 .str 0 false [[120]])] ah = some (.ret [I 0], [(0, .arr 9 .str 0 false [[120]])]) := by kernel_rfl
theorem ck_fl : runC e56 Tryz.f91 7 [] [nodeA strGM [] [122] (.os 1 0) (.os 0 0)] (hpN false false flagsAB [[120], [121]]) ah = some (.ret [I 0], hpN true false flagsAB [[120], [121]]) := by kernel_rfl
/-- nodes without attributes, out named -/
def sckO (op0 out0 : List UInt8) (ins0 : List (List UInt8)) : List AV → LHp → Tq
  | [n], [(0, .arr 9 .str 0 false ins)] =>
    (match nodeP n with
    | some (op, nm, out, .os 0 0, .nils) => gate (decide (op = op0) && decide (nm = []) && decide (out = out0) && decide (ins = ins0)) (.leaf (.ret [I 0]) [(0, .arr 9 .str 0 false ins0)])
    | _ => .no)
  | _, _ => .no
theorem sckO_ok {op0 out0 : List UInt8} {ins0 : List (List UInt8)} (hc : runC e56 Tryz.f91 7 [] [nodeA op0 [] out0 (.os 0 0) .nils] [(0, .arr 9 .str 0 false ins0)] ah = some (.ret [I 0], [(0, .arr 9 .str 0 false ins0)])) : FnE.OK e0.P e0.gam 91 (treeE (sckO op0 out0 ins0)) := by
  have h1 : FnE.OK e0.P e0.gam 91 (execFnC e56 Tryz.f91 7 []) := x91_ok
  refine ⟨fun _ _ _ => Tq.eq _ _, fun args hs ae hs' h => ?_⟩
  have h' : (sckO op0 out0 ins0 args hs).run ah = some (ae, hs') := h
  clear h
  unfold sckO at h'
  split at h'
  · split at h'
    · rename_i ins _ op nm out hn
      rw [nodeP_some hn]
      obtain ⟨hb, h2⟩ := gate_run h'
      clear h'
      simp only [Bool.and_eq_true, decide_eq_true_eq] at hb
      obtain ⟨⟨⟨b1, b2⟩, b3⟩, b4⟩ := hb
      subst b1 b2 b3 b4
      cases h2
      exact h1.okC hc
    · cases h'
  · cases h'
/-- an attribute that is a number -/
def isInt (a : (Y1).den) (nm : List UInt8) (v : Int) : Bool := decide (a.1 = nm ∧ a.2.1 = (2 : Int) ∧ a.2.2.1 = (0 : Int) ∧ a.2.2.2.1 = v ∧ a.2.2.2.2.1 = ([] : List UInt8)) && decide (a.2.2.2.2.2.1.1 = (0 : Int) ∧ a.2.2.2.2.2.1.2.1 = ([] : List Int) ∧ a.2.2.2.2.2.1.2.2.1 = ([] : List Int) ∧ a.2.2.2.2.2.2.1 = ([] : List Int))
theorem isInt_eq {a : (Y1).den} {nm : List UInt8} {v : Int} (h : isInt a nm v = true) : a = iattr nm v := by
  unfold isInt at h
  simp only [Bool.and_eq_true, decide_eq_true_eq] at h
  obtain ⟨a1, a2, a3, a4, a5, ⟨b1, b2, b3, ⟨⟩⟩, a7, ⟨⟩⟩ := a
  obtain ⟨⟨h1, h2, h3, h4, h5⟩, h6, h7, h8, h9⟩ := h
  simp only at h1 h2 h3 h4 h5 h6 h7 h8 h9
  subst h1 h2 h3 h4 h5 h6 h7 h8 h9
  rfl
def sckP : List AV → LHp → Tq
  | [n], [(0, .arr 37 ((.pair .str (.pair (.int .i64) (.pair (.int .i64) (.pair (.int .i64) (.pair .str (.pair (.pair (.int .i64) (.pair (.slice (.int .i64)) (.pair (.slice (.int .i64)) .unit))) (.pair (.slice (.int .i64)) .unit)))))))) 0 false [a1, a2]), (1, .arr 9 .str 0 false ins)] =>
    (match nodeP n with
    | some (op, nm, out, .os 1 0, .os 0 0) => gate (decide (op = strGM) && decide (nm = []) && decide (out = [122]) && decide (ins = [[120], [121]]) && (isInt a1 strTA 1 && isInt a2 strTB 1)) (.leaf (.ret [I 0]) (hpN true false flagsAB [[120], [121]]))
    | _ => .no)
  | _, _ => .no
theorem sckP_ok : FnE.OK e0.P e0.gam 91 (treeE sckP) := by
  have h1 : FnE.OK e0.P e0.gam 91 (execFnC e56 Tryz.f91 7 []) := x91_ok
  refine ⟨fun _ _ _ => Tq.eq _ _, fun args hs ae hs' h => ?_⟩
  have h' : (sckP args hs).run ah = some (ae, hs') := h
  clear h
  unfold sckP at h'
  split at h'
  · split at h'
    · rename_i hn
      rw [nodeP_some hn]
      obtain ⟨hb, h2⟩ := gate_run h'
      clear h'
      simp only [Bool.and_eq_true, decide_eq_true_eq] at hb
      obtain ⟨⟨⟨⟨b1, b2⟩, b3⟩, b4⟩, b5, b6⟩ := hb
      subst b1 b2 b3 b4
      rw [isInt_eq b5, isInt_eq b6]
      cases h2
      exact h1.okC ck_fl
    · cases h'
  · cases h'
def sckZ (args : List AV) (hs : LHp) : Tq := orT (sckM args hs) (orT (sckO strTR [121] [[120]] args hs) (sckP args hs))
theorem sckZ_ok : FnE.OK e0.P e0.gam 91 (treeE sckZ) := treeE_or sckM_ok (treeE_or (sckO_ok ck_tr) sckP_ok)
end Go.Proofs.XGT
