/- shape.Count of a list that is just being made. -/
import Derived.Test.YtbijfcooljoogaaGreatDoorKC1
namespace Go.Proofs.XGT
open Go.Vm Go
set_option maxRecDepth 100000
set_option maxHeartbeats 4000000
noncomputable def C_idxo : Code := codeOf Tryz.f128
noncomputable def cf_idxo : Cfg := ⟨19, 5, 1, [(2, [0, 1, 7, 8])], true⟩
noncomputable def C_cono : Code := codeOf Tryz.f97
noncomputable def cf_cono : Cfg := ⟨9, 4, 1, [], true⟩
noncomputable def C_cnto : Code := codeOf Tryz.f57
noncomputable def cf_cnto : Cfg := ⟨27, 5, 1, [(7, [4, 12, 13, 14])], true⟩
theorem idx2 {α R : Type} {xs : List α} {i : Int} {f : α → Option R} : ((idx xs i).bind fun _ => (xs[i.toNat]?).bind f) = (idx xs i).bind f := by
  unfold idx
  split
  · cases xs[i.toNat]? <;> rfl
  · rfl
def hpO (z : Bool) (xs : List Int) : LHp := [(0, .arr 3 i64T 0 z xs)]
theorem idxo_eqH (hl : Hl) (z : Bool) (xs : List Int) : runH eA Tryz.f128 5 [(2, [0, 1, 7, 8])] [2] hl [.os 0 0, .fn (.func 98) [] []] (hpO z xs) ah =
  hl (cL (cL (cR (cL (cR C_idxo))))) _ { fr := mkFr 5 [(0, AV.os 0 0), (1, AV.fn (Fn.func 98) [] []), (7, I (Int.ofNat xs.length)), (8, I 0)], hp := [(0, AObj.arr 3 (i64T) 0 z xs)], nx := 2 } (blkK 0 (seqH eA cf_idxo [2] hl (cR (cR C_idxo)) (endC Tryz.prog 1 Tryz.f128.results.toList ah))) := by kernel_rfl
theorem idxo_eq (z : Bool) (xs : List Int) : runC eA Tryz.f128 5 [(2, [0, 1, 7, 8])] [.os 0 0, .fn (.func 98) [] []] (hpO z xs) ah =
  (hlp eA cf_idxo) (cL (cL (cR (cL (cR C_idxo))))) _ { fr := mkFr 5 [(0, AV.os 0 0), (1, AV.fn (Fn.func 98) [] []), (7, I (Int.ofNat xs.length)), (8, I 0)], hp := [(0, AObj.arr 3 (i64T) 0 z xs)], nx := 2 } (blkK 0 (seqH eA cf_idxo [2] (hlp eA cf_idxo) (cR (cR C_idxo)) (endC Tryz.prog 1 Tryz.f128.results.toList ah))) := runH_runC.trans (idxo_eqH (hlp eA cf_idxo) z xs)
def stIo (z : Bool) (xs : List Int) (i : Int) : LSt := ⟨mkFr 5 [(0, .os 0 0), (1, .fn (.func 98) [] []), (7, I (Int.ofNat xs.length)), (8, I i)], hpO z xs, 2⟩
theorem idxo_stepH (hl : Hl) (z : Bool) (xs : List Int) (i : Int) (n : Nat) {R : Type} (k : AEx → LSt → Option R) : lpH eA cf_idxo [2] hl (cL (cL (cR (cL (cR C_idxo))))) (n + 1) (stIo z xs i) k =
  bif decide (i < Int.ofNat xs.length) then (idx xs i).bind fun v1 =>
      (xs[i.toNat]?).bind fun v2 =>
        bif decide (v2 < 1) then k AEx.ret { fr := mkFr 5 [(0, AV.os 0 0), (1, AV.fn (Fn.func 98) [] []), (4, I i), (5, I i), (7, I (Int.ofNat xs.length)), (8, I i), (9, B true), (10, I i), (11, AV.fn (Fn.func 98) [] []), (12, AV.os 0 0), (13, I i), (14, AV.oe 0 0 i.toNat), (15, I v2), (16, B true), (17, I i)], hp := [(0, AObj.arr 3 (i64T) 0 z xs)], nx := 2 }
        else lpH eA cf_idxo [2] hl (cL (cL (cR (cL (cR C_idxo))))) n { fr := mkFr 5 [(0, AV.os 0 0), (1, AV.fn (Fn.func 98) [] []), (7, I (Int.ofNat xs.length)), (8, I (IntKind.i64.wrap (i + 1)))], hp := [(0, AObj.arr 3 (i64T) 0 z xs)], nx := 2 } k
  else k (AEx.exit 0) { fr := mkFr 5 [(0, AV.os 0 0), (1, AV.fn (Fn.func 98) [] []), (7, I (Int.ofNat xs.length)), (8, I i), (9, B false)], hp := [(0, AObj.arr 3 (i64T) 0 z xs)], nx := 2 } := by kernel_rfl
theorem idxo_step (z : Bool) (xs : List Int) (i : Int) (n : Nat) {R : Type} (k : AEx → LSt → Option R) : lp eA cf_idxo (cL (cL (cR (cL (cR C_idxo))))) (n + 1) (stIo z xs i) k =
  bif decide (i < Int.ofNat xs.length) then (idx xs i).bind fun v1 =>
      (xs[i.toNat]?).bind fun v2 =>
        bif decide (v2 < 1) then k AEx.ret { fr := mkFr 5 [(0, AV.os 0 0), (1, AV.fn (Fn.func 98) [] []), (4, I i), (5, I i), (7, I (Int.ofNat xs.length)), (8, I i), (9, B true), (10, I i), (11, AV.fn (Fn.func 98) [] []), (12, AV.os 0 0), (13, I i), (14, AV.oe 0 0 i.toNat), (15, I v2), (16, B true), (17, I i)], hp := [(0, AObj.arr 3 (i64T) 0 z xs)], nx := 2 }
        else lp eA cf_idxo (cL (cL (cR (cL (cR C_idxo))))) n { fr := mkFr 5 [(0, AV.os 0 0), (1, AV.fn (Fn.func 98) [] []), (7, I (Int.ofNat xs.length)), (8, I (IntKind.i64.wrap (i + 1)))], hp := [(0, AObj.arr 3 (i64T) 0 z xs)], nx := 2 } k
  else k (AEx.exit 0) { fr := mkFr 5 [(0, AV.os 0 0), (1, AV.fn (Fn.func 98) [] []), (7, I (Int.ofNat xs.length)), (8, I i), (9, B false)], hp := [(0, AObj.arr 3 (i64T) 0 z xs)], nx := 2 } := by
  have h := idxo_stepH (hlp eA cf_idxo) z xs i n k
  simp only [lpH_lp] at h
  exact h
theorem idxo_run (z : Bool) (xs : List Int) (hl : xs.length ≤ maxLen) : runC eA Tryz.f128 5 [(2, [0, 1, 7, 8])] [.os 0 0, .fn (.func 98) [] []] (hpO z xs) ah = some (.ret [I (idxP (fun d => decide (d < 1)) xs)], hpO z xs) := by
  rw [idxo_eq]
  have hs := fun (i : Int) (n : Nat) => idxo_step z xs i n (blkK 0 (seqH eA cf_idxo [2] (hlp eA cf_idxo) (cR (cR C_idxo)) (endC Tryz.prog 1 Tryz.f128.results.toList ah)))
  simp only [idx2] at hs
  have h := find_lp (T := fun n s => lp eA cf_idxo (cL (cL (cR (cL (cR C_idxo))))) n s (blkK 0 (seqH eA cf_idxo [2] (hlp eA cf_idxo) (cR (cR C_idxo)) (endC Tryz.prog 1 Tryz.f128.results.toList ah)))) (xs := xs) (st := fun i => stIo z xs i) hl hs
  unfold stIo hpO at h
  refine h.trans ?_
  unfold idxP
  cases hq : xs.findIdx? (fun d => decide (d < 1)) with
  | none => show _ = _; kernel_rfl
  | some i =>
    obtain ⟨hi, _⟩ := List.findIdx?_eq_some_iff_getElem.1 hq
    simp only [List.getElem?_eq_getElem hi, Option.bind_some]
    show _ = _
    kernel_rfl
def idxoF : List AV → LHp → Tq
  | [.os 0 0, .fn (.func 98) [] []], [(0, .arr 3 (.int .i64) 0 z xs)] => .br (decide (xs.length ≤ maxLen)) (.leaf (.ret [I (idxP (fun d => decide (d < 1)) xs)]) (hpO z xs)) .no
  | _, _ => .no
theorem idxoE_ok : FnE.OK e0.P e0.gam 128 (treeE idxoF) := by
  refine treeC_ok eA_good hmix Tryz.func128 Tryz.call128 (depth := 5) (live := [(2, [0, 1, 7, 8])]) (by decide +kernel) rfl fun args hs p h => ?_
  unfold idxoF at h
  split at h
  · obtain ⟨hl, h⟩ := Tq.br_no h
    cases h
    have hl := of_decide_eq_true hl
    exact idxo_run _ _ hl
  · cases h
noncomputable def eBo : Env := e0.add 128 (treeE idxoF)
theorem eBo_good : eBo.Good := e0_good.add idxoE_ok
theorem cono_eq (z : Bool) (xs : List Int) : runC eBo Tryz.f97 4 [] [.os 0 0, .fn (.func 98) [] []] (hpO z xs) ah =
  bif decide (xs.length ≤ 9223372036854775807) then some (AEnd.ret [B (decide (idxP (fun d => decide (d < 1)) xs ≥ 0))], [(0, AObj.arr 3 (i64T) 0 z xs)])
  else none := by kernel_rfl
def conoF : List AV → LHp → Tq
  | [.os 0 0, .fn (.func 98) [] []], [(0, .arr 3 (.int .i64) 0 z xs)] => .br (decide (xs.length ≤ maxLen)) (.leaf (.ret [B (decide (idxP (fun d => decide (d < 1)) xs ≥ 0))]) (hpO z xs)) .no
  | _, _ => .no
theorem conoE_ok : FnE.OK e0.P e0.gam 97 (treeE conoF) := by
  refine treeC_ok eBo_good hmix Tryz.func97 Tryz.call97 (depth := 4) (live := []) (by decide +kernel) rfl fun args hs p h => ?_
  unfold conoF at h
  split at h
  · obtain ⟨hl, h⟩ := Tq.br_no h
    cases h
    have hl := of_decide_eq_true hl
    exact ((cono_eq _ _).trans (by rw [decide_eq_true (show _ ≤ 9223372036854775807 from hl)]; rfl))
  · cases h
noncomputable def eCo : Env := e0.add 97 (treeE conoF)
theorem eCo_good : eCo.Good := e0_good.add conoE_ok
theorem cnto_eqH (hl : Hl) (z : Bool) (xs : List Int) : runH eCo Tryz.f57 5 [(7, [4, 12, 13, 14])] [7] hl [.os 0 0] (hpO z xs) ah =
  bif decide (xs.length ≤ 9223372036854775807) then 
    bif decide (idxP (fun d => decide (d < 1)) xs ≥ 0) then some (AEnd.ret [I 0, I 4], [(0, AObj.arr 3 (i64T) 0 z xs)])
    else 
      bif decide (Int.ofNat xs.length > 6) then some (AEnd.ret [I 0, I 6], [(0, AObj.arr 3 (i64T) 0 z xs)])
      else hl (cL (cL (cR (cL (cR (cR (cR (cR C_cnto)))))))) _ { fr := mkFr 5 [(4, I 1), (12, AV.os 0 0), (13, I (Int.ofNat xs.length)), (14, I 0)], hp := [(0, AObj.arr 3 (i64T) 0 z xs)], nx := 2 } (blkK 0 (seqH eCo cf_cnto [7] hl (cR (cR (cR (cR (cR C_cnto))))) (endC Tryz.prog 1 Tryz.f57.results.toList ah)))
  else none := by kernel_rfl
theorem cnto_eq (z : Bool) (xs : List Int) : runC eCo Tryz.f57 5 [(7, [4, 12, 13, 14])] [.os 0 0] (hpO z xs) ah =
  bif decide (xs.length ≤ 9223372036854775807) then 
    bif decide (idxP (fun d => decide (d < 1)) xs ≥ 0) then some (AEnd.ret [I 0, I 4], [(0, AObj.arr 3 (i64T) 0 z xs)])
    else 
      bif decide (Int.ofNat xs.length > 6) then some (AEnd.ret [I 0, I 6], [(0, AObj.arr 3 (i64T) 0 z xs)])
      else (hlp eCo cf_cnto) (cL (cL (cR (cL (cR (cR (cR (cR C_cnto)))))))) _ { fr := mkFr 5 [(4, I 1), (12, AV.os 0 0), (13, I (Int.ofNat xs.length)), (14, I 0)], hp := [(0, AObj.arr 3 (i64T) 0 z xs)], nx := 2 } (blkK 0 (seqH eCo cf_cnto [7] (hlp eCo cf_cnto) (cR (cR (cR (cR (cR C_cnto))))) (endC Tryz.prog 1 Tryz.f57.results.toList ah)))
  else none := runH_runC.trans (cnto_eqH (hlp eCo cf_cnto) z xs)
def stCo (z : Bool) (xs : List Int) (n i : Int) : LSt := ⟨mkFr 5 [(4, I n), (12, .os 0 0), (13, I (Int.ofNat xs.length)), (14, I i)], hpO z xs, 2⟩
theorem cnto_stepH (hl : Hl) (z : Bool) (xs : List Int) (v i : Int) (n : Nat) {R : Type} (k : AEx → LSt → Option R) : lpH eCo cf_cnto [7] hl (cL (cL (cR (cL (cR (cR (cR (cR C_cnto)))))))) (n + 1) (stCo z xs v i) k =
  bif decide (i < Int.ofNat xs.length) then (idx xs i).bind fun v1 =>
      (xs[i.toNat]?).bind fun v2 =>
        (if v = 0 then none else some (IntKind.i64.wrap (Int.tdiv 65536 v))).bind fun v3 =>
          bif decide (v2 > v3) then k AEx.ret { fr := mkFr 5 [(2, I 0), (3, I 6), (4, I v), (6, I v2), (12, AV.os 0 0), (13, I (Int.ofNat xs.length)), (14, I i), (15, B true), (16, AV.oe 0 0 i.toNat), (17, I v2), (18, I v2), (19, I v), (20, I v3), (21, B true)], hp := [(0, AObj.arr 3 (i64T) 0 z xs)], nx := 2 }
          else lpH eCo cf_cnto [7] hl (cL (cL (cR (cL (cR (cR (cR (cR C_cnto)))))))) n { fr := mkFr 5 [(4, I (IntKind.i64.wrap (v * v2))), (12, AV.os 0 0), (13, I (Int.ofNat xs.length)), (14, I (IntKind.i64.wrap (i + 1)))], hp := [(0, AObj.arr 3 (i64T) 0 z xs)], nx := 2 } k
  else k (AEx.exit 0) { fr := mkFr 5 [(4, I v), (12, AV.os 0 0), (13, I (Int.ofNat xs.length)), (14, I i), (15, B false)], hp := [(0, AObj.arr 3 (i64T) 0 z xs)], nx := 2 } := by kernel_rfl
theorem cnto_step (z : Bool) (xs : List Int) (v i : Int) (n : Nat) {R : Type} (k : AEx → LSt → Option R) : lp eCo cf_cnto (cL (cL (cR (cL (cR (cR (cR (cR C_cnto)))))))) (n + 1) (stCo z xs v i) k =
  bif decide (i < Int.ofNat xs.length) then (idx xs i).bind fun v1 =>
      (xs[i.toNat]?).bind fun v2 =>
        (if v = 0 then none else some (IntKind.i64.wrap (Int.tdiv 65536 v))).bind fun v3 =>
          bif decide (v2 > v3) then k AEx.ret { fr := mkFr 5 [(2, I 0), (3, I 6), (4, I v), (6, I v2), (12, AV.os 0 0), (13, I (Int.ofNat xs.length)), (14, I i), (15, B true), (16, AV.oe 0 0 i.toNat), (17, I v2), (18, I v2), (19, I v), (20, I v3), (21, B true)], hp := [(0, AObj.arr 3 (i64T) 0 z xs)], nx := 2 }
          else lp eCo cf_cnto (cL (cL (cR (cL (cR (cR (cR (cR C_cnto)))))))) n { fr := mkFr 5 [(4, I (IntKind.i64.wrap (v * v2))), (12, AV.os 0 0), (13, I (Int.ofNat xs.length)), (14, I (IntKind.i64.wrap (i + 1)))], hp := [(0, AObj.arr 3 (i64T) 0 z xs)], nx := 2 } k
  else k (AEx.exit 0) { fr := mkFr 5 [(4, I v), (12, AV.os 0 0), (13, I (Int.ofNat xs.length)), (14, I i), (15, B false)], hp := [(0, AObj.arr 3 (i64T) 0 z xs)], nx := 2 } := by
  have h := cnto_stepH (hlp eCo cf_cnto) z xs v i n k
  simp only [lpH_lp] at h
  exact h
noncomputable def KCo : AEx → LSt → Option (AEnd × LHp) := (blkK 0 (seqH eCo cf_cnto [7] (hlp eCo cf_cnto) (cR (cR (cR (cR (cR C_cnto))))) (endC Tryz.prog 1 Tryz.f57.results.toList ah)))
theorem KCo_ret (z : Bool) (xs : List Int) (n i x v : Int) (j : Nat) : KCo AEx.ret { fr := mkFr 5 [(2, I 0), (3, I 6), (4, I n), (6, I x), (12, AV.os 0 0), (13, I (Int.ofNat xs.length)), (14, I i), (15, B true), (16, AV.oe 0 0 j), (17, I x), (18, I x), (19, I n), (20, I v), (21, B true)], hp := hpO z xs, nx := 2 } = some (.ret [I 0, I 6], hpO z xs) := by kernel_rfl
theorem KCo_exit (z : Bool) (xs : List Int) (n i : Int) : KCo (AEx.exit 0) { fr := mkFr 5 [(4, I n), (12, AV.os 0 0), (13, I (Int.ofNat xs.length)), (14, I i), (15, B false)], hp := hpO z xs, nx := 2 } = some (.ret [I n, I 0], hpO z xs) := by kernel_rfl
theorem cnto_loop {z : Bool} {xs : List Int} (hp : ∀ x ∈ xs, 1 ≤ x) (hl : xs.length ≤ 6) : ∀ (k i m : Nat), i + k = xs.length → k < m → prodI (xs.take i) ≤ 65536 →
    lp eCo cf_cnto (cL (cL (cR (cL (cR (cR (cR (cR C_cnto)))))))) m (stCo z xs (prodI (xs.take i)) i) KCo = some (.ret (bif bigI xs then [I 0, I 6] else [I (prodI xs), I 0]), hpO z xs) := by
  intro k
  induction k with
  | zero =>
    intro i m hi hm hP
    obtain ⟨m, rfl⟩ : ∃ m', m = m' + 1 := ⟨m - 1, by omega⟩
    rw [cnto_step, decide_eq_false (show ¬ ((i : Int) < Int.ofNat xs.length) from by rw [show i = xs.length by omega]; exact Int.lt_irrefl _)]
    simp only [cond_false]
    have e : xs.take i = xs := List.take_of_length_le (by omega)
    rw [e] at hP ⊢
    refine (KCo_exit z xs _ _).trans ?_
    unfold bigI
    rw [decide_eq_false (by omega)]
    rfl
  | succ k ih =>
    intro i m hi hm hP
    obtain ⟨m, rfl⟩ : ∃ m', m = m' + 1 := ⟨m - 1, by omega⟩
    have hlt : i < xs.length := by omega
    have hx : xs[i]? = some xs[i] := List.getElem?_eq_getElem hlt
    have hidx : idx xs (i : Int) = some xs[i] := by unfold idx; rw [if_pos (by omega), Int.toNat_natCast, hx]
    have h1 := prodI_pos hp i
    have hx1 := hp xs[i] (List.getElem_mem hlt)
    have hq0 : 0 ≤ Int.tdiv 65536 (prodI (xs.take i)) := by
      rw [Int.tdiv_eq_ediv_of_nonneg (by omega)]; exact Int.ediv_nonneg (by omega) (by omega)
    have hq1 : Int.tdiv 65536 (prodI (xs.take i)) ≤ 65536 := by
      rw [Int.tdiv_eq_ediv_of_nonneg (by omega)]; exact Int.ediv_le_self _ (by omega)
    rw [cnto_step, decide_eq_true (show (i : Int) < Int.ofNat xs.length from Int.ofNat_lt.2 hlt), hidx, Int.toNat_natCast, hx]
    simp only [cond_true, Option.bind_some]
    rw [if_neg (by omega), wrap64 (by omega) (by omega)]
    simp only [Option.bind_some]
    by_cases hb : prodI (xs.take i) * xs[i] > 65536
    · rw [decide_eq_true ((tdiv_lt h1).2 hb)]
      simp only [cond_true]
      refine (KCo_ret z xs _ _ _ _ _).trans ?_
      have hm2 := prodI_mono hp (i := i + 1) (xs.length - (i + 1))
      rw [prodI_succ hx, show i + 1 + (xs.length - (i + 1)) = xs.length by omega, List.take_length] at hm2
      unfold bigI
      rw [decide_eq_true (by omega)]
      rfl
    · rw [decide_eq_false (fun h => hb ((tdiv_lt h1).1 h))]
      simp only [cond_false]
      have hm0 : 0 ≤ prodI (xs.take i) * xs[i] := Int.mul_nonneg (by omega) (by omega)
      have := ih (i + 1) m (by omega) (by omega) (by rw [prodI_succ hx]; omega)
      rw [prodI_succ hx] at this
      unfold stCo at this
      rw [wrap64 (n := prodI (xs.take i) * xs[i]) (by omega) (by omega), wrap64 (n := (i : Int) + 1) (by omega) (by omega)]
      exact this
theorem cnto_run (z : Bool) (xs : List Int) (hl : xs.length ≤ maxLen) : runC eCo Tryz.f57 5 [(7, [4, 12, 13, 14])] [.os 0 0] (hpO z xs) ah = some (.ret [I (countN xs), I (countE xs)], hpO z xs) := by
  rw [cnto_eq, decide_eq_true (show xs.length ≤ 9223372036854775807 from hl)]
  unfold countN countE
  cases h1 : decide (idxP (fun d => decide (d < 1)) xs ≥ 0) with
  | true => rfl
  | false =>
    cases h2 : decide (Int.ofNat xs.length > 6) with
    | true => rfl
    | false =>
      simp only [cond_true, cond_false]
      have hp : ∀ x ∈ xs, 1 ≤ x := fun x hx => by
        rw [idxP_ge, List.any_eq_false] at h1
        have := h1 x hx
        simp only [decide_eq_true_eq] at this
        omega
      have hl6 : xs.length ≤ 6 := by
        have := of_decide_eq_false h2
        have e : Int.ofNat xs.length = (xs.length : Int) := rfl
        omega
      have key := cnto_loop (z := z) hp hl6 xs.length 0 fu (by omega) (by unfold fu; omega) (by simp [prodI])
      unfold stCo KCo at key
      simp only [List.take_zero] at key
      refine Eq.trans key ?_
      cases bigI xs <;> rfl
def cntoF : List AV → LHp → Tq
  | [.os 0 0], [(0, .arr 3 (.int .i64) 0 z xs)] => .br (decide (xs.length ≤ maxLen)) (.leaf (.ret [I (countN xs), I (countE xs)]) (hpO z xs)) .no
  | _, _ => .no
theorem cntoE_ok : FnE.OK e0.P e0.gam 57 (treeE cntoF) := by
  refine treeC_ok eCo_good hmix Tryz.func57 Tryz.call57 (depth := 5) (live := [(7, [4, 12, 13, 14])]) (by decide +kernel) rfl fun args hs p h => ?_
  unfold cntoF at h
  split at h
  · obtain ⟨hl, h⟩ := Tq.br_no h
    cases h
    have hl := of_decide_eq_true hl
    exact cnto_run _ _ hl
  · cases h
/-- shape.Count, of whatever list -/
def countG (a : List AV) (h : LHp) : Tq := orT (countF a h) (cntoF a h)
theorem countG_ok : FnE.OK e0.P e0.gam 57 (treeE countG) := treeE_or countE_ok cntoE_ok
end Go.Proofs.XGT
