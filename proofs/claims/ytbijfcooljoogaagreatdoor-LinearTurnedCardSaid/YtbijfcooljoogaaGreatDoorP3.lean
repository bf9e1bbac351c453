/- SameTensor of a made tensor and one that is made, where they are the same. -/
import Derived.Test.YtbijfcooljoogaaGreatDoorGUn
import Derived.Test.YtbijfcooljoogaaGreatDoorP1
import Derived.Test.YtbijfcooljoogaaGreatDoorP2

namespace Go.Proofs.XGT
open Go.Vm Go
set_option maxRecDepth 100000
set_option maxHeartbeats 4000000
/-- a loop that goes through a list -/
theorem allP_lp {R S α : Type} {T : Nat → S → Option R} {xs : List α} {st : Int → S} {r : Option R} (hl : xs.length ≤ maxLen)
    (h : ∀ (i : Nat) (x : α), xs[i]? = some x → idx xs (i : Int) = some x → i < xs.length → ∀ n, T (n + 1) (st (i : Nat)) = T n (st (IntKind.i64.wrap ((i : Int) + 1)))) (he : ∀ n, T (n + 1) (st (Int.ofNat xs.length)) = r) : T fu (st 0) = r := by
  have hm : maxLen = 9223372036854775807 := by decide
  have hf : fu = 18446744073709551616 := rfl
  have := lp_to (T := T) (f := fun i : Nat => st (i : Int)) xs.length fu (by omega) (fun i hi n => by
    have hx : xs[i]? = some xs[i] := List.getElem?_eq_getElem hi
    rw [h i _ hx (by unfold idx; rw [if_pos (by omega), Int.toNat_natCast, hx]) hi n, wrap64 (by omega) (by omega)]
    rfl)
  refine Eq.trans this ?_
  obtain ⟨m', hm'⟩ : ∃ m', fu - xs.length = m' + 1 := ⟨fu - xs.length - 1, by omega⟩
  rw [hm']
  exact he m'
noncomputable def C_smos : Code := codeOf Tryz.f33
noncomputable def cf_smos : Cfg := ⟨26, 5, 2, [(4, [0, 1, 5])], true⟩
def smosH (z3 z4 : Bool) (xs : List Int) : LHp := [(0, .arr 3 i64T 0 z3 xs), (1, .arr 3 i64T 0 z4 xs)]
theorem smos_eqH (hl : Hl) (z3 z4 : Bool) (xs : List Int) : runH g173 Tryz.f33 5 [(4, [0, 1, 5])] [4] hl [.os 1 0, .os 0 0] (smosH z3 z4 xs) ah =
  bif Int.ofNat xs.length != Int.ofNat xs.length then some (AEnd.ret [B false], [(0, AObj.arr 3 (i64T) 0 z3 xs), (1, AObj.arr 3 (i64T) 0 z4 xs)])
  else hl (cL (cL (cR (cL (cR (cR C_smos)))))) _ { fr := mkFr 5 [(0, AV.os 1 0), (1, AV.os 0 0), (5, I 0)], hp := [(0, AObj.arr 3 (i64T) 0 z3 xs), (1, AObj.arr 3 (i64T) 0 z4 xs)], nx := 4 } (blkK 0 (seqH g173 cf_smos [4] hl (cR (cR (cR C_smos))) (endC Tryz.prog 2 Tryz.f33.results.toList ah))) := by kernel_rfl
theorem smos_eq (z3 z4 : Bool) (xs : List Int) : runC g173 Tryz.f33 5 [(4, [0, 1, 5])] [.os 1 0, .os 0 0] (smosH z3 z4 xs) ah =
  bif Int.ofNat xs.length != Int.ofNat xs.length then some (AEnd.ret [B false], [(0, AObj.arr 3 (i64T) 0 z3 xs), (1, AObj.arr 3 (i64T) 0 z4 xs)])
  else (hlp g173 cf_smos) (cL (cL (cR (cL (cR (cR C_smos)))))) _ { fr := mkFr 5 [(0, AV.os 1 0), (1, AV.os 0 0), (5, I 0)], hp := [(0, AObj.arr 3 (i64T) 0 z3 xs), (1, AObj.arr 3 (i64T) 0 z4 xs)], nx := 4 } (blkK 0 (seqH g173 cf_smos [4] (hlp g173 cf_smos) (cR (cR (cR C_smos))) (endC Tryz.prog 2 Tryz.f33.results.toList ah))) := runH_runC.trans (smos_eqH (hlp g173 cf_smos) z3 z4 xs)
def smosSt (z3 z4 : Bool) (xs : List Int) (i : Int) : LSt := ⟨mkFr 5 [(0, .os 1 0), (1, .os 0 0), (5, I i)], smosH z3 z4 xs, 4⟩
theorem smos_stepH (hl : Hl) (z3 z4 : Bool) (xs : List Int) (i : Int) (n : Nat) {R : Type} (k : AEx → LSt → Option R) : lpH g173 cf_smos [4] hl (cL (cL (cR (cL (cR (cR C_smos)))))) (n + 1) (smosSt z3 z4 xs i) k =
  bif decide (i < Int.ofNat xs.length) then (idx xs i).bind fun v1 =>
      (xs[i.toNat]?).bind fun v2 =>
        (idx xs i).bind fun v3 =>
          (xs[i.toNat]?).bind fun v4 =>
            bif v2 != v4 then k AEx.ret { fr := mkFr 5 [(0, AV.os 1 0), (1, AV.os 0 0), (4, B false), (5, I i), (11, I i), (12, AV.os 1 0), (13, I (Int.ofNat xs.length)), (14, B true), (17, AV.os 1 0), (18, I i), (19, AV.oe 1 0 i.toNat), (20, I v2), (21, AV.os 0 0), (22, I i), (23, AV.oe 0 0 i.toNat), (24, I v4), (25, B true)], hp := [(0, AObj.arr 3 (i64T) 0 z3 xs), (1, AObj.arr 3 (i64T) 0 z4 xs)], nx := 4 }
            else lpH g173 cf_smos [4] hl (cL (cL (cR (cL (cR (cR C_smos)))))) n { fr := mkFr 5 [(0, AV.os 1 0), (1, AV.os 0 0), (5, I (IntKind.i64.wrap (i + 1)))], hp := [(0, AObj.arr 3 (i64T) 0 z3 xs), (1, AObj.arr 3 (i64T) 0 z4 xs)], nx := 4 } k
  else k (AEx.exit 0) { fr := mkFr 5 [(0, AV.os 1 0), (1, AV.os 0 0), (5, I i), (11, I i), (12, AV.os 1 0), (13, I (Int.ofNat xs.length)), (14, B false)], hp := [(0, AObj.arr 3 (i64T) 0 z3 xs), (1, AObj.arr 3 (i64T) 0 z4 xs)], nx := 4 } := by kernel_rfl
theorem smos_step (z3 z4 : Bool) (xs : List Int) (i : Int) (n : Nat) {R : Type} (k : AEx → LSt → Option R) : lp g173 cf_smos (cL (cL (cR (cL (cR (cR C_smos)))))) (n + 1) (smosSt z3 z4 xs i) k =
  bif decide (i < Int.ofNat xs.length) then (idx xs i).bind fun v1 =>
      (xs[i.toNat]?).bind fun v2 =>
        (idx xs i).bind fun v3 =>
          (xs[i.toNat]?).bind fun v4 =>
            bif v2 != v4 then k AEx.ret { fr := mkFr 5 [(0, AV.os 1 0), (1, AV.os 0 0), (4, B false), (5, I i), (11, I i), (12, AV.os 1 0), (13, I (Int.ofNat xs.length)), (14, B true), (17, AV.os 1 0), (18, I i), (19, AV.oe 1 0 i.toNat), (20, I v2), (21, AV.os 0 0), (22, I i), (23, AV.oe 0 0 i.toNat), (24, I v4), (25, B true)], hp := [(0, AObj.arr 3 (i64T) 0 z3 xs), (1, AObj.arr 3 (i64T) 0 z4 xs)], nx := 4 }
            else lp g173 cf_smos (cL (cL (cR (cL (cR (cR C_smos)))))) n { fr := mkFr 5 [(0, AV.os 1 0), (1, AV.os 0 0), (5, I (IntKind.i64.wrap (i + 1)))], hp := [(0, AObj.arr 3 (i64T) 0 z3 xs), (1, AObj.arr 3 (i64T) 0 z4 xs)], nx := 4 } k
  else k (AEx.exit 0) { fr := mkFr 5 [(0, AV.os 1 0), (1, AV.os 0 0), (5, I i), (11, I i), (12, AV.os 1 0), (13, I (Int.ofNat xs.length)), (14, B false)], hp := [(0, AObj.arr 3 (i64T) 0 z3 xs), (1, AObj.arr 3 (i64T) 0 z4 xs)], nx := 4 } := by
  have h := smos_stepH (hlp g173 cf_smos) z3 z4 xs i n k
  simp only [lpH_lp] at h
  exact h
noncomputable def smosK : AEx → LSt → Option (AEnd × LHp) := (blkK 0 (seqH g173 cf_smos [4] (hlp g173 cf_smos) (cR (cR (cR C_smos))) (endC Tryz.prog 2 Tryz.f33.results.toList ah)))
theorem smos_lp (z3 z4 : Bool) (xs : List Int) : runC g173 Tryz.f33 5 [(4, [0, 1, 5])] [.os 1 0, .os 0 0] (smosH z3 z4 xs) ah = lp g173 cf_smos (cL (cL (cR (cL (cR (cR C_smos)))))) fu (smosSt z3 z4 xs 0) smosK := (smos_eq z3 z4 xs).trans (by rw [bne_self_eq_false, cond_false]; kernel_rfl)
theorem smosK_exit (z3 z4 : Bool) (xs : List Int) (i : Int) : smosK (AEx.exit 0) ⟨mkFr 5 [(0, .os 1 0), (1, .os 0 0), (5, I i), (11, I i), (12, .os 1 0), (13, I (Int.ofNat xs.length)), (14, B false)], smosH z3 z4 xs, 4⟩ = some (.ret [B true], smosH z3 z4 xs) := by kernel_rfl
theorem smos_run (z3 z4 : Bool) (xs : List Int) (hl : xs.length ≤ maxLen) : runC g173 Tryz.f33 5 [(4, [0, 1, 5])] [.os 1 0, .os 0 0] (smosH z3 z4 xs) ah = some (.ret [B true], smosH z3 z4 xs) := by
  rw [smos_lp]
  exact allP_lp (T := fun n s => lp g173 cf_smos (cL (cL (cR (cL (cR (cR C_smos)))))) n s smosK) (xs := xs) (st := smosSt z3 z4 xs) (r := some (.ret [B true], smosH z3 z4 xs)) hl (fun i x hx hi hlt n => by
    rw [smos_step, decide_eq_true (show (i : Int) < Int.ofNat xs.length from Int.ofNat_lt.2 hlt), hi, show xs[(i : Int).toNat]? = some x from hx]
    simp only [cond_true, Option.bind_some, bne_self_eq_false, cond_false]
    rfl) (fun n => by
    rw [smos_step, decide_eq_false (show ¬ (Int.ofNat xs.length < Int.ofNat xs.length) from Int.lt_irrefl _)]
    exact smosK_exit _ _ _ _)
def smosF : List AV → LHp → Tq
  | [.os 1 0, .os 0 0], [(0, .arr 3 (.int .i64) 0 z3 ys), (1, .arr 3 (.int .i64) 0 z4 xs)] => .br (decide (xs.length ≤ maxLen ∧ xs = ys)) (.leaf (.ret [B true]) (smosH z3 z4 xs)) .no
  | _, _ => .no
theorem smosE_ok : FnE.OK e0.P e0.gam 33 (treeE smosF) := by
  have h1 : FnE.OK e0.P e0.gam 33 (execFnC g173 Tryz.f33 5 [(4, [0, 1, 5])]) := y33_ok
  refine ⟨fun _ _ _ => Tq.eq _ _, fun args hs ae hs' h => ?_⟩
  have h' : (smosF args hs).run ah = some (ae, hs') := h
  clear h
  unfold smosF at h'
  split at h'
  · obtain ⟨hb, h2⟩ := Tq.br_no h'
    clear h'
    obtain ⟨hl, he⟩ := of_decide_eq_true hb
    subst he
    cases h2
    exact h1.okC (smos_run _ _ _ hl)
  · cases h'
noncomputable def C_smot : Code := codeOf Tryz.f18
noncomputable def cf_smot : Cfg := ⟨46, 6, 4, [(4, [2, 3, 5])], true⟩
noncomputable def gsmo : Env := g174.add 33 (treeE smosF)
theorem gsmo_good : gsmo.Good := g174_good.add smosE_ok
def smotH (z1 z2 z3 z4 : Bool) (xd dt : List Int) : LHp := [(0, .arr 2 i64T 0 z1 dt), (1, .arr 3 i64T 0 z2 xd), (2, .arr 2 i64T 0 z3 dt), (3, .arr 3 i64T 0 z4 xd)]
def smotA (t : Int) : AV := .pr (I t) (.pr (.os 3 0) (.pr (.os 2 0) (.d .unit ())))
def smotB (t : Int) (xd dt : List Int) : AV := .pr (I t) (.pr (.os 1 0) (.pr (.os 0 0) (.d .unit ())))
theorem smot_eqH (hl : Hl) (z1 z2 z3 z4 : Bool) (t : Int) (xd dt : List Int) : runH gsmo Tryz.f18 6 [(4, [2, 3, 5])] [4] hl [smotA t, smotB t xd dt] (smotH z1 z2 z3 z4 xd dt) ah =
  bif t != t then some (AEnd.ret [B false], [(0, AObj.arr 2 (i64T) 0 z1 dt), (1, AObj.arr 3 (i64T) 0 z2 xd), (2, AObj.arr 2 (i64T) 0 z3 dt), (3, AObj.arr 3 (i64T) 0 z4 xd)])
  else 
    bif decide (xd.length ≤ 9223372036854775807 ∧ xd = xd) then 
      bif Int.ofNat dt.length != Int.ofNat dt.length then some (AEnd.ret [B false], [(0, AObj.arr 2 (i64T) 0 z1 dt), (1, AObj.arr 3 (i64T) 0 z2 xd), (2, AObj.arr 2 (i64T) 0 z3 dt), (3, AObj.arr 3 (i64T) 0 z4 xd)])
      else hl (cL (cL (cR (cL (cR (cR C_smot)))))) _ { fr := mkFr 6 [(2, AV.op 4 [] 0), (3, AV.op 5 [] 0), (5, I 0)], hp := [(0, AObj.arr 2 (i64T) 0 z1 dt), (1, AObj.arr 3 (i64T) 0 z2 xd), (2, AObj.arr 2 (i64T) 0 z3 dt), (3, AObj.arr 3 (i64T) 0 z4 xd), (4, AObj.box ((I t).pr ((AV.os 3 0).pr ((AV.os 2 0).pr (AV.d Ty.unit PUnit.unit))))), (5, AObj.box ((I t).pr ((AV.os 1 0).pr ((AV.os 0 0).pr (AV.d Ty.unit PUnit.unit)))))], nx := 10 } (blkK 0 (seqH gsmo cf_smot [4] hl (cR (cR (cR C_smot))) (endC Tryz.prog 4 Tryz.f18.results.toList ah)))
    else none := by kernel_rfl
theorem smot_eq (z1 z2 z3 z4 : Bool) (t : Int) (xd dt : List Int) : runC gsmo Tryz.f18 6 [(4, [2, 3, 5])] [smotA t, smotB t xd dt] (smotH z1 z2 z3 z4 xd dt) ah =
  bif t != t then some (AEnd.ret [B false], [(0, AObj.arr 2 (i64T) 0 z1 dt), (1, AObj.arr 3 (i64T) 0 z2 xd), (2, AObj.arr 2 (i64T) 0 z3 dt), (3, AObj.arr 3 (i64T) 0 z4 xd)])
  else 
    bif decide (xd.length ≤ 9223372036854775807 ∧ xd = xd) then 
      bif Int.ofNat dt.length != Int.ofNat dt.length then some (AEnd.ret [B false], [(0, AObj.arr 2 (i64T) 0 z1 dt), (1, AObj.arr 3 (i64T) 0 z2 xd), (2, AObj.arr 2 (i64T) 0 z3 dt), (3, AObj.arr 3 (i64T) 0 z4 xd)])
      else (hlp gsmo cf_smot) (cL (cL (cR (cL (cR (cR C_smot)))))) _ { fr := mkFr 6 [(2, AV.op 4 [] 0), (3, AV.op 5 [] 0), (5, I 0)], hp := [(0, AObj.arr 2 (i64T) 0 z1 dt), (1, AObj.arr 3 (i64T) 0 z2 xd), (2, AObj.arr 2 (i64T) 0 z3 dt), (3, AObj.arr 3 (i64T) 0 z4 xd), (4, AObj.box ((I t).pr ((AV.os 3 0).pr ((AV.os 2 0).pr (AV.d Ty.unit PUnit.unit))))), (5, AObj.box ((I t).pr ((AV.os 1 0).pr ((AV.os 0 0).pr (AV.d Ty.unit PUnit.unit)))))], nx := 10 } (blkK 0 (seqH gsmo cf_smot [4] (hlp gsmo cf_smot) (cR (cR (cR C_smot))) (endC Tryz.prog 4 Tryz.f18.results.toList ah)))
    else none := runH_runC.trans (smot_eqH (hlp gsmo cf_smot) z1 z2 z3 z4 t xd dt)
def smotSt (z1 z2 z3 z4 : Bool) (t : Int) (xd dt : List Int) (i : Int) : LSt := ⟨mkFr 6 [(2, .op 4 [] 0), (3, .op 5 [] 0), (5, I i)], smotH z1 z2 z3 z4 xd dt ++ [(4, .box (smotA t)), (5, .box (smotB t xd dt))], 10⟩
theorem smot_stepH (hl : Hl) (z1 z2 z3 z4 : Bool) (t : Int) (xd dt : List Int) (i : Int) (n : Nat) {R : Type} (k : AEx → LSt → Option R) : lpH gsmo cf_smot [4] hl (cL (cL (cR (cL (cR (cR C_smot)))))) (n + 1) (smotSt z1 z2 z3 z4 t xd dt i) k =
  bif decide (i < Int.ofNat dt.length) then (idx dt i).bind fun v1 =>
      (dt[i.toNat]?).bind fun v2 =>
        (idx dt i).bind fun v3 =>
          (dt[i.toNat]?).bind fun v4 =>
            bif v2 != v4 then k AEx.ret { fr := mkFr 6 [(2, AV.op 4 [] 0), (3, AV.op 5 [] 0), (4, B false), (5, I i), (28, I i), (29, AV.op 4 [2] 2), (30, AV.os 2 0), (31, I (Int.ofNat dt.length)), (32, B true), (35, AV.op 4 [2] 2), (36, AV.os 2 0), (37, I i), (38, AV.oe 2 0 i.toNat), (39, I v2), (40, AV.op 5 [2] 2), (41, AV.os 0 0), (42, I i), (43, AV.oe 0 0 i.toNat), (44, I v4), (45, B true)], hp := [(0, AObj.arr 2 (i64T) 0 z1 dt), (1, AObj.arr 3 (i64T) 0 z2 xd), (2, AObj.arr 2 (i64T) 0 z3 dt), (3, AObj.arr 3 (i64T) 0 z4 xd), (4, AObj.box ((I t).pr ((AV.os 3 0).pr ((AV.os 2 0).pr (AV.d Ty.unit PUnit.unit))))), (5, AObj.box ((I t).pr ((AV.os 1 0).pr ((AV.os 0 0).pr (AV.d Ty.unit PUnit.unit)))))], nx := 10 }
            else lpH gsmo cf_smot [4] hl (cL (cL (cR (cL (cR (cR C_smot)))))) n { fr := mkFr 6 [(2, AV.op 4 [] 0), (3, AV.op 5 [] 0), (5, I (IntKind.i64.wrap (i + 1)))], hp := [(0, AObj.arr 2 (i64T) 0 z1 dt), (1, AObj.arr 3 (i64T) 0 z2 xd), (2, AObj.arr 2 (i64T) 0 z3 dt), (3, AObj.arr 3 (i64T) 0 z4 xd), (4, AObj.box ((I t).pr ((AV.os 3 0).pr ((AV.os 2 0).pr (AV.d Ty.unit PUnit.unit))))), (5, AObj.box ((I t).pr ((AV.os 1 0).pr ((AV.os 0 0).pr (AV.d Ty.unit PUnit.unit)))))], nx := 10 } k
  else k (AEx.exit 0) { fr := mkFr 6 [(2, AV.op 4 [] 0), (3, AV.op 5 [] 0), (5, I i), (28, I i), (29, AV.op 4 [2] 2), (30, AV.os 2 0), (31, I (Int.ofNat dt.length)), (32, B false)], hp := [(0, AObj.arr 2 (i64T) 0 z1 dt), (1, AObj.arr 3 (i64T) 0 z2 xd), (2, AObj.arr 2 (i64T) 0 z3 dt), (3, AObj.arr 3 (i64T) 0 z4 xd), (4, AObj.box ((I t).pr ((AV.os 3 0).pr ((AV.os 2 0).pr (AV.d Ty.unit PUnit.unit))))), (5, AObj.box ((I t).pr ((AV.os 1 0).pr ((AV.os 0 0).pr (AV.d Ty.unit PUnit.unit)))))], nx := 10 } := by kernel_rfl
theorem smot_step (z1 z2 z3 z4 : Bool) (t : Int) (xd dt : List Int) (i : Int) (n : Nat) {R : Type} (k : AEx → LSt → Option R) : lp gsmo cf_smot (cL (cL (cR (cL (cR (cR C_smot)))))) (n + 1) (smotSt z1 z2 z3 z4 t xd dt i) k =
  bif decide (i < Int.ofNat dt.length) then (idx dt i).bind fun v1 =>
      (dt[i.toNat]?).bind fun v2 =>
        (idx dt i).bind fun v3 =>
          (dt[i.toNat]?).bind fun v4 =>
            bif v2 != v4 then k AEx.ret { fr := mkFr 6 [(2, AV.op 4 [] 0), (3, AV.op 5 [] 0), (4, B false), (5, I i), (28, I i), (29, AV.op 4 [2] 2), (30, AV.os 2 0), (31, I (Int.ofNat dt.length)), (32, B true), (35, AV.op 4 [2] 2), (36, AV.os 2 0), (37, I i), (38, AV.oe 2 0 i.toNat), (39, I v2), (40, AV.op 5 [2] 2), (41, AV.os 0 0), (42, I i), (43, AV.oe 0 0 i.toNat), (44, I v4), (45, B true)], hp := [(0, AObj.arr 2 (i64T) 0 z1 dt), (1, AObj.arr 3 (i64T) 0 z2 xd), (2, AObj.arr 2 (i64T) 0 z3 dt), (3, AObj.arr 3 (i64T) 0 z4 xd), (4, AObj.box ((I t).pr ((AV.os 3 0).pr ((AV.os 2 0).pr (AV.d Ty.unit PUnit.unit))))), (5, AObj.box ((I t).pr ((AV.os 1 0).pr ((AV.os 0 0).pr (AV.d Ty.unit PUnit.unit)))))], nx := 10 }
            else lp gsmo cf_smot (cL (cL (cR (cL (cR (cR C_smot)))))) n { fr := mkFr 6 [(2, AV.op 4 [] 0), (3, AV.op 5 [] 0), (5, I (IntKind.i64.wrap (i + 1)))], hp := [(0, AObj.arr 2 (i64T) 0 z1 dt), (1, AObj.arr 3 (i64T) 0 z2 xd), (2, AObj.arr 2 (i64T) 0 z3 dt), (3, AObj.arr 3 (i64T) 0 z4 xd), (4, AObj.box ((I t).pr ((AV.os 3 0).pr ((AV.os 2 0).pr (AV.d Ty.unit PUnit.unit))))), (5, AObj.box ((I t).pr ((AV.os 1 0).pr ((AV.os 0 0).pr (AV.d Ty.unit PUnit.unit)))))], nx := 10 } k
  else k (AEx.exit 0) { fr := mkFr 6 [(2, AV.op 4 [] 0), (3, AV.op 5 [] 0), (5, I i), (28, I i), (29, AV.op 4 [2] 2), (30, AV.os 2 0), (31, I (Int.ofNat dt.length)), (32, B false)], hp := [(0, AObj.arr 2 (i64T) 0 z1 dt), (1, AObj.arr 3 (i64T) 0 z2 xd), (2, AObj.arr 2 (i64T) 0 z3 dt), (3, AObj.arr 3 (i64T) 0 z4 xd), (4, AObj.box ((I t).pr ((AV.os 3 0).pr ((AV.os 2 0).pr (AV.d Ty.unit PUnit.unit))))), (5, AObj.box ((I t).pr ((AV.os 1 0).pr ((AV.os 0 0).pr (AV.d Ty.unit PUnit.unit)))))], nx := 10 } := by
  have h := smot_stepH (hlp gsmo cf_smot) z1 z2 z3 z4 t xd dt i n k
  simp only [lpH_lp] at h
  exact h
noncomputable def smotK : AEx → LSt → Option (AEnd × LHp) := (blkK 0 (seqH gsmo cf_smot [4] (hlp gsmo cf_smot) (cR (cR (cR C_smot))) (endC Tryz.prog 4 Tryz.f18.results.toList ah)))
theorem smot_lp (z1 z2 z3 z4 : Bool) (t : Int) (xd dt : List Int) (hl : xd.length ≤ maxLen) : runC gsmo Tryz.f18 6 [(4, [2, 3, 5])] [smotA t, smotB t xd dt] (smotH z1 z2 z3 z4 xd dt) ah = lp gsmo cf_smot (cL (cL (cR (cL (cR (cR C_smot)))))) fu (smotSt z1 z2 z3 z4 t xd dt 0) smotK := (smot_eq z1 z2 z3 z4 t xd dt).trans (by rw [bne_self_eq_false, bne_self_eq_false, decide_eq_true (show xd.length ≤ 9223372036854775807 ∧ xd = xd from ⟨hl, rfl⟩), cond_false, cond_false, cond_true]; kernel_rfl)
theorem smotK_exit (z1 z2 z3 z4 : Bool) (t : Int) (xd dt : List Int) (i : Int) : smotK (AEx.exit 0) ⟨mkFr 6 [(2, .op 4 [] 0), (3, .op 5 [] 0), (5, I i), (28, I i), (29, AV.op 4 [2] 2), (30, AV.os 2 0), (31, I (Int.ofNat dt.length)), (32, B false)], smotH z1 z2 z3 z4 xd dt ++ [(4, .box (smotA t)), (5, .box (smotB t xd dt))], 10⟩ = some (.ret [B true], smotH z1 z2 z3 z4 xd dt) := by kernel_rfl
theorem smot_run (z1 z2 z3 z4 : Bool) (t : Int) (xd dt : List Int) (h1 : xd.length ≤ maxLen) (h2 : dt.length ≤ maxLen) : runC gsmo Tryz.f18 6 [(4, [2, 3, 5])] [smotA t, smotB t xd dt] (smotH z1 z2 z3 z4 xd dt) ah = some (.ret [B true], smotH z1 z2 z3 z4 xd dt) := by
  rw [smot_lp z1 z2 z3 z4 t xd dt h1]
  exact allP_lp (T := fun n s => lp gsmo cf_smot (cL (cL (cR (cL (cR (cR C_smot)))))) n s smotK) (xs := dt) (st := smotSt z1 z2 z3 z4 t xd dt) (r := some (.ret [B true], smotH z1 z2 z3 z4 xd dt)) h2 (fun i x hx hi hlt n => by
    rw [smot_step, decide_eq_true (show (i : Int) < Int.ofNat dt.length from Int.ofNat_lt.2 hlt), hi]
    simp only [show dt[(i : Int).toNat]? = some x from hx, cond_true, Option.bind_some, bne_self_eq_false, cond_false]
    rfl) (fun n => by
    rw [smot_step, decide_eq_false (show ¬ (Int.ofNat dt.length < Int.ofNat dt.length) from Int.lt_irrefl _)]
    exact smotK_exit _ _ _ _ _ _ _ _)
def smotF : List AV → LHp → Tq
  | [.pr (.d (.int .i64) t) (.pr (.os 3 0) (.pr (.os 2 0) (.d .unit ()))), .pr (.d (.int .i64) t2) (.pr (.os 1 0) (.pr (.os 0 0) (.d .unit ())))], [(0, .arr 2 (.int .i64) 0 z1 dt2), (1, .arr 3 (.int .i64) 0 z2 xd2), (2, .arr 2 (.int .i64) 0 z3 dt), (3, .arr 3 (.int .i64) 0 z4 xd)] =>
    .br (decide (xd.length ≤ maxLen ∧ dt.length ≤ maxLen ∧ t = t2 ∧ xd = xd2 ∧ dt = dt2)) (.leaf (.ret [B true]) (smotH z1 z2 z3 z4 xd dt)) .no
  | _, _ => .no
theorem smotE_ok : FnE.OK e0.P e0.gam 18 (treeE smotF) := by
  have h1 : FnE.OK e0.P e0.gam 18 (execFnC gsmo Tryz.f18 6 [(4, [2, 3, 5])]) := execFnC_ok gsmo_good hmix Tryz.func18 Tryz.call18 (by decide +kernel) rfl
  refine ⟨fun _ _ _ => Tq.eq _ _, fun args hs ae hs' h => ?_⟩
  have h' : (smotF args hs).run ah = some (ae, hs') := h
  clear h
  unfold smotF at h'
  split at h'
  · obtain ⟨hb, h2⟩ := Tq.br_no h'
    clear h'
    obtain ⟨hl, hl2, he1, he2, he3⟩ := of_decide_eq_true hb
    subst he1 he2 he3
    cases h2
    exact h1.okC (smot_run _ _ _ _ _ _ _ hl hl2)
  · cases h'
end Go.Proofs.XGT
/- the anchor of layer 12: its answer. -/
namespace Go.Proofs.XGT
open Go.Vm Go
set_option maxRecDepth 100000
set_option maxHeartbeats 4000000
noncomputable def C_livl : Code := codeOf Tryz.f21
noncomputable def cf_livl : Cfg := ⟨25, 5, 0, [], true⟩
theorem livl_run : runC g204 Tryz.f21 5 [] [] [] ah = some (.ret [B true], []) := by kernel_rfl
def livlF : List AV → LHp → Option (AEnd × LHp)
  | [], [] => some (.ret [B true], [])
  | _, _ => none
theorem livlE_ok : FnE.OK e0.P e0.gam 21 (fnE livlF) := by
  have h1 : FnE.OK e0.P e0.gam 21 (execFnC g204 Tryz.f21 5 []) := y21_ok
  refine ⟨fun args hs k => ?_, fun args hs ae hs' h => ?_⟩
  · simp only [fnE]
    cases livlF args hs <;> rfl
  · have h' : (livlF args hs).bind (fun p => ah p.1 p.2) = some (ae, hs') := h
    unfold livlF at h'
    split at h'
    · cases h'
      exact h1.okC livl_run
    · cases h'
end Go.Proofs.XGT
/- The order of Floats is the order of their rungs; what the greater of two is. -/
namespace Go.Proofs.XGT
open Go.Vm Go
set_option maxRecDepth 100000
set_option maxHeartbeats 400000
def vR (r : Nat) : Nat := if r < 8388608 then r else (8388608 + r % 8388608) * 2 ^ (r / 8388608 - 1)
theorem vR_step (r : Nat) : vR r < vR (r + 1) := by
  unfold vR
  by_cases h1 : r + 1 < 8388608
  · rw [if_pos (by omega), if_pos h1]; omega
  · by_cases h2 : r < 8388608
    · have : r + 1 = 8388608 := by omega
      rw [if_pos h2, if_neg h1, this]
      show r < (8388608 + 8388608 % 8388608) * 2 ^ (8388608 / 8388608 - 1)
      simp
      omega
    · rw [if_neg h2, if_neg h1]
      have hq : 1 ≤ r / 8388608 := by omega
      by_cases h3 : r % 8388608 + 1 < 8388608
      · have e1 : (r + 1) / 8388608 = r / 8388608 := by omega
        have e2 : (r + 1) % 8388608 = r % 8388608 + 1 := by omega
        rw [e1, e2]
        exact Nat.mul_lt_mul_of_pos_right (by omega) (Nat.pow_pos (by decide))
      · have e1 : (r + 1) / 8388608 - 1 = (r / 8388608 - 1) + 1 := by omega
        have e2 : (r + 1) % 8388608 = 0 := by omega
        rw [e1, e2, Nat.pow_succ]
        have hp : 0 < 2 ^ (r / 8388608 - 1) := Nat.pow_pos (by decide)
        generalize 2 ^ (r / 8388608 - 1) = P at *
        have : (8388608 + r % 8388608) * P < (8388608 * 2) * P := Nat.mul_lt_mul_of_pos_right (by omega) hp
        have e3 : (8388608 + 0) * (P * 2) = (8388608 * 2) * P := by rw [Nat.add_zero, Nat.mul_comm P 2, Nat.mul_assoc]
        omega
theorem vR_mono {r s : Nat} (h : r < s) : vR r < vR s := by
  induction s with
  | zero => omega
  | succ s ih =>
    have := vR_step s
    by_cases hrs : r = s
    · subst hrs; exact this
    · have := ih (by omega); omega
theorem vR_zero : vR 0 = 0 := rfl
def ordK (a b : Int) : Ordering := if a < b then .lt else if a = b then .eq else .gt
theorem compare_int (a b : Int) : compare a b = ordK a b := rfl
theorem ordK_mul {a b c : Int} (h : 0 < c) : ordK (a * c) (b * c) = ordK a b := by
  unfold ordK
  have h1 : a * c < b * c ↔ a < b := Int.mul_lt_mul_right h
  have h2 : a * c = b * c ↔ a = b := Int.mul_eq_mul_right_iff (by omega)
  simp only [h1, h2]
def sgV (s : Bool) (n : Nat) : Int := bif s then -(n : Int) else n
theorem signed_sg (s : Bool) (m up : Nat) : Ieee.signed s m up = sgV s (m * 2 ^ up) := by
  unfold Ieee.signed sgV
  cases s <;> simp [Nat.shiftLeft_eq]
theorem sgV_mul (s : Bool) (n c : Nat) : sgV s (n * c) = sgV s n * c := by
  cases s <;> simp [sgV, Int.neg_mul]
theorem order_num (s t : Bool) (m n d e : Nat) : (Ieee.Datum.number s m (-149 + (d : Int))).order (.number t n (-149 + (e : Int))) = some (ordK (sgV s (m * 2 ^ d)) (sgV t (n * 2 ^ e))) := by
  unfold Ieee.Datum.order
  simp only [signed_sg, compare_int]
  congr 1
  have h1 : (-149 + (d : Int) - min (-149 + (d : Int)) (-149 + (e : Int))).toNat = d - min d e := by omega
  have h2 : (-149 + (e : Int) - min (-149 + (d : Int)) (-149 + (e : Int))).toNat = e - min d e := by omega
  rw [h1, h2]
  have hc : (0 : Int) < ((2 ^ min d e : Nat) : Int) := by
    have : 0 < 2 ^ min d e := Nat.pow_pos (by decide)
    omega
  rw [← ordK_mul hc, ← sgV_mul, ← sgV_mul, Nat.mul_assoc, Nat.mul_assoc, ← Nat.pow_add, ← Nat.pow_add, show d - min d e + min d e = d by omega, show e - min d e + min d e = e by omega]
/-- a word's sign and rung -/
def negW (x : Nat) : Bool := x / 2147483648 % 2 == 1
def rungW (x : Nat) : Nat := x % 2147483648
def keyW (x : Nat) : Int := sgV (negW x) (rungW x)
theorem read_low {x : Nat} (h : rungW x < 8388608) : FloatKind.f32.format.read x = .number (negW x) (rungW x) (-149 + ((0 : Nat) : Int)) := by
  show (if rungW x < 8388608 then _ else _) = _
  rw [if_pos h]
  rfl
theorem read_mid {x : Nat} (h : ¬ rungW x < 8388608) (h2 : rungW x < 2139095040) : FloatKind.f32.format.read x = .number (negW x) (8388608 + rungW x % 8388608) (-149 + ((rungW x / 8388608 - 1 : Nat) : Int)) := by
  show (if rungW x < 8388608 then _ else if rungW x < 2139095040 then _ else _) = _
  rw [if_neg h, if_pos h2]
  rfl
theorem read_inf {x : Nat} (h : rungW x = 2139095040) : FloatKind.f32.format.read x = .infinity (negW x) := by
  show (if rungW x < 8388608 then _ else if rungW x < 2139095040 then _ else if rungW x = 2139095040 then _ else _) = _
  rw [if_neg (by omega), if_neg (by omega), if_pos h]
  rfl
theorem read_nan {x : Nat} (h : 2139095040 < rungW x) : (FloatKind.f32.format.read x).isNaN = true := by
  show (if rungW x < 8388608 then _ else if rungW x < 2139095040 then _ else if rungW x = 2139095040 then _ else _ : Ieee.Datum).isNaN = true
  rw [if_neg (by omega), if_neg (by omega), if_neg (by omega)]
  rfl
theorem read_num {x : Nat} (h : rungW x < 2139095040) : ∃ m d, FloatKind.f32.format.read x = .number (negW x) m (-149 + (d : Nat)) ∧ m * 2 ^ d = vR (rungW x) := by
  by_cases h1 : rungW x < 8388608
  · exact ⟨_, 0, read_low h1, by simp [vR, h1]⟩
  · exact ⟨_, _, read_mid h1 h, by simp [vR, h1]⟩
theorem ordK_congr {a b a' b' : Int} (h1 : a < b ↔ a' < b') (h2 : a = b ↔ a' = b') : ordK a b = ordK a' b' := by
  unfold ordK
  simp only [h1, h2]
theorem ordK_lt {a b : Int} (h : a < b) : ordK a b = .lt := by unfold ordK; rw [if_pos h]
theorem ordK_gt {a b : Int} (h : b < a) : ordK a b = .gt := by unfold ordK; rw [if_neg (by omega), if_neg (by omega)]
theorem sgV_le (s : Bool) (r : Nat) : sgV s r ≤ r ∧ -(r : Int) ≤ sgV s r := by cases s <;> simp [sgV] <;> omega
theorem ordK_key (s t : Bool) {r r' : Nat} : ordK (sgV s (vR r)) (sgV t (vR r')) = ordK (sgV s r) (sgV t r') := by
  have h0 := vR_zero
  have key : (vR r < vR r' ↔ r < r') ∧ (vR r = vR r' ↔ r = r') := by
    rcases Nat.lt_trichotomy r r' with h | h | h
    · have := vR_mono h; omega
    · subst h; omega
    · have := vR_mono h; omega
  have k1 : vR r = 0 ↔ r = 0 := by
    rcases Nat.eq_zero_or_pos r with h | h
    · subst h; omega
    · have := vR_mono h; omega
  have k2 : vR r' = 0 ↔ r' = 0 := by
    rcases Nat.eq_zero_or_pos r' with h | h
    · subst h; omega
    · have := vR_mono h; omega
  obtain ⟨g1, g2⟩ := key
  generalize vR r = a at *
  generalize vR r' = b at *
  cases s <;> cases t <;> simp only [sgV, cond_true, cond_false] <;> exact ordK_congr (by omega) (by omega)
/-- the order of words that are no NaNs -/
theorem ord_key {x y : Nat} (hx : rungW x ≤ 2139095040) (hy : rungW y ≤ 2139095040) : (FloatKind.f32.format.read x).order (FloatKind.f32.format.read y) = some (ordK (keyW x) (keyW y)) := by
  unfold keyW
  by_cases h1 : rungW x < 2139095040
  · obtain ⟨m, d, e1, e2⟩ := read_num h1
    by_cases h2 : rungW y < 2139095040
    · obtain ⟨n, e, f1, f2⟩ := read_num h2
      rw [e1, f1, order_num, e2, f2, ordK_key]
    · have h2 : rungW y = 2139095040 := by omega
      rw [e1, read_inf h2, h2]
      have hb := sgV_le (negW x) (rungW x)
      cases negW y with
      | false => rw [ordK_lt (by show _ < ((2139095040 : Nat) : Int); omega)]; rfl
      | true => rw [ordK_gt (by show -((2139095040 : Nat) : Int) < _; omega)]; rfl
  · have h1 : rungW x = 2139095040 := by omega
    by_cases h2 : rungW y < 2139095040
    · obtain ⟨n, e, f1, f2⟩ := read_num h2
      rw [f1, read_inf h1, h1]
      have hb := sgV_le (negW y) (rungW y)
      cases negW x with
      | false => rw [ordK_gt (by show _ < ((2139095040 : Nat) : Int); omega)]; rfl
      | true => rw [ordK_lt (by show -((2139095040 : Nat) : Int) < _; omega)]; rfl
    · have h2 : rungW y = 2139095040 := by omega
      rw [read_inf h1, read_inf h2, h1, h2]
      cases negW x <;> cases negW y <;> decide
end Go.Proofs.XGT
/- The greater of two Floats is no less than either. -/
namespace Go.Proofs.XGT
open Go.Vm Go
set_option maxRecDepth 100000
set_option maxHeartbeats 1000000
def good (x : Int) : Prop := numOk 1 x = true ∧ x ≠ 2143289344
def keyI (x : Int) : Int := keyW x.toNat
theorem and_lo (n : Nat) : n &&& 8388607 = n % 8388608 := Nat.and_two_pow_sub_one_eq_mod n 23
theorem and_hi (n : Nat) : n &&& 2139095040 = n / 8388608 % 256 * 8388608 := by
  have e : (2139095040 : Nat) = 255 <<< 23 := by decide
  have h1 : n / 8388608 % 256 * 8388608 = ((n >>> 23) &&& 255) <<< 23 := by
    rw [Nat.shiftLeft_eq, Nat.shiftRight_eq_div_pow, show (255 : Nat) = 2 ^ 8 - 1 from rfl, Nat.and_two_pow_sub_one_eq_mod]
  rw [h1, e]
  apply Nat.eq_of_testBit_eq
  intro i
  simp only [Nat.testBit_and, Nat.testBit_shiftLeft, Nat.testBit_shiftRight]
  by_cases h : 23 ≤ i
  · simp only [h, decide_true, Bool.true_and]
    rw [show 23 + (i - 23) = i by omega]
  · simp [h]
theorem fdiv_zero {x : Int} (h : (x.fdiv 4294967296 == 0) = true) : 0 ≤ x ∧ x < 4294967296 := by
  have h1 : x.fdiv 4294967296 = 0 := by simpa using h
  rw [Int.fdiv_eq_ediv_of_nonneg x (by decide)] at h1
  omega
theorem bv_and (n m : Nat) (h : n < 4294967296) (h2 : m < 4294967296) : IntKind.i64.wrap (Int.ofNat (BitVec.ofInt 64 (n : Int) &&& BitVec.ofNat 64 m).toNat) = ((n &&& m : Nat) : Int) := by
  have e : (BitVec.ofInt 64 (n : Int) &&& BitVec.ofNat 64 m).toNat = n &&& m := by
    rw [BitVec.toNat_and, BitVec.ofInt_natCast, BitVec.toNat_ofNat, BitVec.toNat_ofNat, Nat.mod_eq_of_lt (by omega), Nat.mod_eq_of_lt (by omega)]
  rw [e]
  have : n &&& m ≤ n := Nat.and_le_left
  exact wrap64 (by simp only [Int.ofNat_eq_natCast]; omega) (by simp only [Int.ofNat_eq_natCast]; omega)
theorem good_nat {x : Int} (h : good x) : ∃ n : Nat, x = n ∧ n < 4294967296 ∧ rungW n ≤ 2139095040 := by
  obtain ⟨h1, h2⟩ := h
  have hb : 0 ≤ x ∧ x < 4294967296 := by
    unfold numOk at h1
    simp only [beq_self_eq_true, cond_true] at h1
    cases hc : (x.fdiv 4294967296 == 0) with
    | true => exact fdiv_zero hc
    | false =>
      rw [hc] at h1
      simp at h1
  obtain ⟨n, rfl⟩ := Int.eq_ofNat_of_zero_le hb.1
  refine ⟨n, rfl, by omega, ?_⟩
  rcases Nat.lt_or_ge 2139095040 (rungW n) with hr | hr
  · exfalso
    unfold rungW at hr
    unfold numOk at h1
    rw [bv_and n 2139095040 (by omega) (by decide), bv_and n 8388607 (by omega) (by decide), and_lo, and_hi] at h1
    have e1 : n / 8388608 % 256 = 255 := by omega
    have e2 : n % 8388608 ≠ 0 := by omega
    rw [e1] at h1
    have e3 : (((n % 8388608 : Nat) : Int) != 0) = true := by simp; omega
    have e4 : ((n : Int) == 2143289344) = false := by simpa using h2
    rw [e3, e4] at h1
    simp only [beq_self_eq_true, cond_true, Bool.not_true, cond_false] at h1
    have e5 : ((((255 * 8388608 : Nat) : Nat) : Int) == 2139095040) = true := by decide
    rw [e5] at h1
    simp only [cond_true] at h1
    cases hc : ((n : Int).fdiv 4294967296 == 0) <;> rw [hc] at h1 <;> simp at h1
  · exact hr
theorem not_nan {n : Nat} (h : rungW n ≤ 2139095040) : (FloatKind.f32.format.read n).isNaN = false := by
  by_cases h1 : rungW n < 2139095040
  · obtain ⟨m, d, e, _⟩ := read_num h1
    rw [e]; rfl
  · rw [read_inf (by omega)]; rfl
theorem cw_nat {n : Nat} (h : n < 4294967296) (h2 : rungW n ≤ 2139095040) : cw (n : Int) = n := by
  unfold cw
  have e : (IntKind.u32.wrap (n : Int)).toNat = n := by
    have : IntKind.u32.wrap (n : Int) = n := by
      simp [IntKind.wrap, IntKind.signed, IntKind.bits]
      omega
    rw [this]; rfl
  rw [e]
  unfold canonF fNaN
  rw [not_nan h2]
  rfl
theorem zero_good : good 0 ∧ keyI 0 = 0 := ⟨⟨by decide, by decide⟩, by decide⟩
theorem word_eq {n m : Nat} (h1 : n < 4294967296) (h2 : m < 4294967296) (h : keyW n = keyW m) : n = m ∨ (n % 2147483648 = 0 ∧ m % 2147483648 = 0) := by
  unfold keyW sgV negW rungW at h
  have a1 : n / 2147483648 % 2 = 0 ∨ n / 2147483648 % 2 = 1 := by omega
  have a2 : m / 2147483648 % 2 = 0 ∨ m / 2147483648 % 2 = 1 := by omega
  rcases a1 with a1 | a1 <;> rcases a2 with a2 | a2 <;> rw [a1, a2] at h
  · have h' : ((n % 2147483648 : Nat) : Int) = ((m % 2147483648 : Nat) : Int) := h
    left; omega
  · have h' : ((n % 2147483648 : Nat) : Int) = -((m % 2147483648 : Nat) : Int) := h
    right; omega
  · have h' : -((n % 2147483648 : Nat) : Int) = ((m % 2147483648 : Nat) : Int) := h
    right; omega
  · have h' : -((n % 2147483648 : Nat) : Int) = -((m % 2147483648 : Nat) : Int) := h
    left; omega
theorem max_good {s y : Int} (hs : good s) (hy : good y) : good (maxW s y) ∧ keyI s ≤ keyI (maxW s y) := by
  obtain ⟨n, rfl, n1, n2⟩ := good_nat hs
  obtain ⟨m, rfl, m1, m2⟩ := good_nat hy
  unfold maxW rdW
  rw [hs.1, hy.1, cw_nat n1 n2, cw_nat m1 m2, not_nan n2, not_nan m2, ord_key n2 m2]
  simp only [Bool.and_true, cond_true, Bool.or_false, cond_false]
  by_cases hlt : keyW n < keyW m
  · rw [ordK_lt hlt]
    exact ⟨hy, Int.le_of_lt hlt⟩
  · by_cases heq : keyW n = keyW m
    · have e : ordK (keyW n) (keyW m) = .eq := by unfold ordK; rw [if_neg hlt, if_pos heq]
      rw [e]
      show good (IntKind.i64.wrap _) ∧ keyI _ ≤ keyI (IntKind.i64.wrap _)
      have ew : BitVec.ofInt 64 (m : Int) = BitVec.ofNat 64 m := BitVec.ofInt_natCast 64 m
      rw [ew, bv_and n m n1 m1]
      rcases word_eq n1 m1 heq with h | ⟨h1, h2⟩
      · subst h
        rw [Nat.and_self]
        exact ⟨hs, Int.le_refl _⟩
      · have c1 : n = 0 ∨ n = 2147483648 := by omega
        have c2 : m = 0 ∨ m = 2147483648 := by omega
        rcases c1 with c1 | c1 <;> rcases c2 with c2 | c2 <;> subst c1 c2
        · exact ⟨⟨by decide, by decide⟩, by decide⟩
        · exact ⟨⟨by decide, by decide⟩, by decide⟩
        · exact ⟨⟨by decide, by decide⟩, by decide⟩
        · exact ⟨⟨by decide, by decide⟩, by decide⟩
    · rw [ordK_gt (by omega)]
      exact ⟨hs, Int.le_refl _⟩
/-- what is no less by its key does not stand below -/
theorem not_less {x y : Int} (hx : good x) (hy : good y) (h : keyI y ≤ keyI x) : ((rdW x).order (rdW y) == some .lt) = false := by
  obtain ⟨n, rfl, n1, n2⟩ := good_nat hx
  obtain ⟨m, rfl, m1, m2⟩ := good_nat hy
  unfold rdW
  rw [cw_nat n1 n2, cw_nat m1 m2, ord_key n2 m2]
  have h' : keyW m ≤ keyW n := h
  by_cases he : keyW n = keyW m
  · have e : ordK (keyW n) (keyW m) = .eq := by unfold ordK; rw [if_neg (by omega), if_pos he]
    rw [e]; rfl
  · rw [ordK_gt (by omega)]; rfl
end Go.Proofs.XGT
/- Words of Floats: a word times 1 is the word; sums with 0; products with 0. -/
namespace Go.Proofs.XGT
open Go.Vm Go
set_option maxRecDepth 100000
set_option maxHeartbeats 1000000
def okN (n : Nat) : Prop := n < 4294967296 ∧ rungW n ≤ 2139095040
/-- a word: the NaN, or a number's -/
def gw (x : Int) : Prop := x = 2143289344 ∨ ∃ n : Nat, x = n ∧ okN n
theorem gw_of {x : Int} (h : numOk 1 x = true) : gw x := by
  by_cases hx : x = 2143289344
  · exact .inl hx
  · obtain ⟨n, e, h1, h2⟩ := good_nat ⟨h, hx⟩
    exact .inr ⟨n, e, h1, h2⟩
theorem numOk_nat {n : Nat} (h : okN n) : numOk 1 (n : Int) = true := by
  obtain ⟨h1, h2⟩ := h
  unfold numOk
  rw [bv_and n 2139095040 (by omega) (by decide), bv_and n 8388607 (by omega) (by decide), and_lo, and_hi]
  have hd : (((n : Int).fdiv 4294967296) == 0) = true := by
    rw [Int.fdiv_eq_ediv_of_nonneg _ (by decide)]
    simp
    omega
  rw [hd]
  unfold rungW at h2
  by_cases he : n / 8388608 % 256 = 255
  · have hz : n % 8388608 = 0 := by omega
    rw [he, hz]
    rfl
  · have : (((n / 8388608 % 256 * 8388608 : Nat) : Int) == 2139095040) = false := by
      rw [beq_eq_false_iff_ne]
      omega
    rw [this]
    rfl
theorem numOk_gw {x : Int} (h : gw x) : numOk 1 x = true := by
  rcases h with rfl | ⟨n, rfl, h⟩
  · decide
  · exact numOk_nat h
theorem word_ok {s : Bool} {r : Nat} (h : r ≤ 2139095040) : okN (Ieee.single.word s r) ∧ negW (Ieee.single.word s r) = s ∧ rungW (Ieee.single.word s r) = r := by
  unfold Ieee.Format.word
  show okN (if s then 2147483648 + r else r) ∧ negW (if s then 2147483648 + r else r) = s ∧ rungW (if s then 2147483648 + r else r) = r
  unfold okN negW rungW
  cases s with
  | true =>
    simp only [if_true]
    refine ⟨⟨by omega, by omega⟩, ?_, by omega⟩
    rw [beq_iff_eq]
    omega
  | false =>
    simp only [Bool.false_eq_true, if_false]
    refine ⟨⟨by omega, by omega⟩, ?_, by omega⟩
    rw [beq_eq_false_iff_ne]
    omega
theorem word_self {n : Nat} (h : n < 4294967296) : Ieee.single.word (negW n) (rungW n) = n := by
  unfold Ieee.Format.word negW rungW
  show (if n / 2147483648 % 2 == 1 then 2147483648 + n % 2147483648 else n % 2147483648) = n
  cases hb : n / 2147483648 % 2 == 1 with
  | true =>
    have := eq_of_beq hb
    simp only [if_true]
    omega
  | false =>
    rw [beq_eq_false_iff_ne] at hb
    simp only [Bool.false_eq_true, if_false]
    omega
theorem near_word (s : Bool) (m : Nat) (p : Int) : ∃ r, r ≤ 2139095040 ∧ Ieee.single.nearest s m p = Ieee.single.word s r := by
  unfold Ieee.Format.nearest
  by_cases h : m = 0
  · rw [if_pos h]
    exact ⟨0, by omega, rfl⟩
  · rw [if_neg h]
    exact ⟨_, Nat.min_le_right _ _, rfl⟩
/-- a number that the format has is written as itself -/
theorem near_exact (s : Bool) {m0 d e : Nat} (h0 : m0 ≠ 0) (h1 : m0 < 16777216) (h2 : 8388608 ≤ m0 ∨ e = 0) (hi : e * 8388608 + m0 ≤ 2139095040) : Ieee.single.nearest s (m0 * 2 ^ d) (-149 + (e : Int) - d) = Ieee.single.word s (e * 8388608 + m0) := by
  have hp : 0 < 2 ^ d := Nat.pow_pos (by decide)
  have hne : m0 * 2 ^ d ≠ 0 := Nat.mul_ne_zero h0 (by omega)
  have hl1 : m0 * 2 ^ d < 2 ^ (24 + d) := by
    rw [Nat.pow_add]
    exact Nat.mul_lt_mul_of_pos_right h1 hp
  have hl2 : (m0 * 2 ^ d).log2 < 24 + d := (Nat.log2_lt hne).2 hl1
  have hl3 : d ≤ (m0 * 2 ^ d).log2 := (Nat.le_log2 hne).2 (Nat.le_mul_of_pos_left _ (by omega))
  have hl4 : 8388608 ≤ m0 → 23 + d ≤ (m0 * 2 ^ d).log2 := fun h => (Nat.le_log2 hne).2 (by
    rw [Nat.pow_add]
    exact Nat.mul_le_mul_right _ h)
  have hl5 : m0 < 8388608 → (m0 * 2 ^ d).log2 < 23 + d := fun h => (Nat.log2_lt hne).2 (by
    rw [Nat.pow_add]
    exact Nat.mul_lt_mul_of_pos_right h hp)
  have hlast : max (-149 + (e : Int) - d + (m0 * 2 ^ d).log2 - 23) (-149) = -149 + (e : Int) := by
    rcases h2 with h | h
    · have := hl4 h
      omega
    · subst h
      omega
  have hcut : Ieee.Toward.even.cut s (m0 * 2 ^ d) d = m0 := by
    unfold Ieee.Toward.cut
    have hg : min d ((m0 * 2 ^ d).log2 + 2) = d := by omega
    have hsh : 1 <<< d = 2 ^ d := by rw [Nat.shiftLeft_eq, Nat.one_mul]
    simp only [hg, hsh, Nat.mul_div_cancel _ hp, Nat.mul_mod_left]
    have c1 : (decide (2 ^ d < 2 * 0)) = false := decide_eq_false (by omega)
    have c2 : (2 ^ d == 2 * 0) = false := by rw [beq_eq_false_iff_ne]; omega
    rw [c1, c2]
    rfl
  unfold Ieee.Format.nearest
  rw [if_neg hne]
  show Ieee.single.word s (min ((max (-149 + (e : Int) - d + (m0 * 2 ^ d).log2 - ((23 : Nat) : Int)) (-149) - (-149)).toNat * 8388608 + Ieee.Toward.even.cut s ((m0 * 2 ^ d) <<< (-149 + (e : Int) - d - max (-149 + (e : Int) - d + (m0 * 2 ^ d).log2 - ((23 : Nat) : Int)) (-149)).toNat) (max (-149 + (e : Int) - d + (m0 * 2 ^ d).log2 - ((23 : Nat) : Int)) (-149) - (-149 + (e : Int) - d)).toNat) 2139095040) = _
  rw [show ((23 : Nat) : Int) = 23 from rfl, hlast, show (-149 + (e : Int) - d - (-149 + (e : Int))).toNat = 0 by omega, show (-149 + (e : Int) - (-149 + (e : Int) - d)).toNat = d by omega, show (-149 + (e : Int) - (-149)).toNat = e by omega, Nat.shiftLeft_zero, hcut, Nat.min_eq_left hi]
/-- what a number's word reads as -/
theorem read_fin {n : Nat} (h : rungW n < 2139095040) : ∃ m e : Nat, FloatKind.f32.format.read n = .number (negW n) m (-149 + (e : Int)) ∧ m < 16777216 ∧ (8388608 ≤ m ∨ e = 0) ∧ e * 8388608 + m = rungW n := by
  by_cases h1 : rungW n < 8388608
  · exact ⟨rungW n, 0, read_low h1, by omega, .inr rfl, by omega⟩
  · have h2 : 1 ≤ rungW n / 8388608 := by omega
    have g1 : 8388608 + rungW n % 8388608 < 16777216 := by omega
    have g2 : (rungW n / 8388608 - 1) * 8388608 + (8388608 + rungW n % 8388608) = rungW n := by omega
    have g3 : 8388608 ≤ 8388608 + rungW n % 8388608 := Nat.le_add_right _ _
    exact ⟨8388608 + rungW n % 8388608, rungW n / 8388608 - 1, read_mid h1 h, g1, Or.inl g3, g2⟩
theorem write_fin {n : Nat} (h1 : n < 4294967296) (h : rungW n < 2139095040) {m e d : Nat} (hm : m < 16777216) (h2 : 8388608 ≤ m ∨ e = 0) (h3 : e * 8388608 + m = rungW n) : Ieee.single.nearest (negW n) (m * 2 ^ d) (-149 + (e : Int) - d) = n := by
  by_cases h0 : m = 0
  · subst h0
    have he : e = 0 := by omega
    have hr : rungW n = 0 := by rw [← h3, he]
    subst he
    rw [Nat.zero_mul]
    have := word_self h1
    rw [hr] at this
    exact this
  · rw [near_exact _ h0 hm h2 (by omega), h3, word_self h1]
theorem not_nanN {n : Nat} (h : okN n) : fNaN .f32 n = false := not_nan h.2
theorem resW_ok {n : Nat} (h : okN n) : resW (canonF .f32 n) = n := by
  unfold resW canonF
  rw [not_nanN h]
  simp only [Bool.false_eq_true, if_false, not_nanN h, cond_false]
  exact wrap64 (by simp only [Int.ofNat_eq_natCast]; omega) (by have := h.1; simp only [Int.ofNat_eq_natCast]; omega)
theorem one_read : FloatKind.f32.format.read (cw 1065353216) = .number false (2 ^ 23) (-149 + ((126 : Nat) : Int)) := by decide
theorem cw_nan : cw 2143289344 = 2143289344 := by decide
theorem cw_zero : cw 0 = 0 := by decide
theorem nan_read : (FloatKind.f32.format.read 2143289344) = .nan false 4194304 := by decide
theorem resW_nan : resW (nanW .f32) = 2143289344 := by decide
/-- a word times 1, from the left -/
theorem mul1_l {x : Int} (h : gw x) : binW .mul 1065353216 x = x := by
  unfold binW
  rw [numOk_gw h, show numOk 1 1065353216 = true by decide]
  simp only [Bool.and_self, cond_true]
  unfold fop fbin
  simp only [Ieee.Format.mul]
  rw [one_read]
  rcases h with rfl | ⟨n, rfl, hn⟩
  · rw [cw_nan, nan_read]
    exact resW_nan
  · rw [cw_nat hn.1 hn.2]
    by_cases hf : rungW n < 2139095040
    · obtain ⟨m, e, e1, e2, e3, e4⟩ := read_fin hf
      rw [e1]
      have key := write_fin hn.1 hf (d := 23) e2 e3 e4
      show resW (canonF .f32 (Ieee.single.nearest (false ^^ negW n) (2 ^ 23 * m) (-149 + ((126 : Nat) : Int) + (-149 + (e : Int))))) = _
      rw [Bool.false_xor, Nat.mul_comm, show -149 + ((126 : Nat) : Int) + (-149 + (e : Int)) = -149 + (e : Int) - (23 : Nat) by omega, key]
      exact resW_ok hn
    · have hi : rungW n = 2139095040 := by have := hn.2; omega
      rw [read_inf hi, show (Ieee.Datum.number false (2 ^ 23) (-149 + ((126 : Nat) : Int))).product (.infinity (negW n)) = some (.infinity (negW n ^^ false)) from rfl]
      show resW (canonF .f32 (Ieee.single.word (negW n ^^ false) 2139095040)) = _
      have := word_self hn.1
      rw [hi] at this
      rw [Bool.xor_false, this]
      exact resW_ok hn
/-- a number times 1, from the right -/
theorem mul1_r {n : Nat} (hn : n < 4294967296) (hf : rungW n < 2139095040) : binW .mul n 1065353216 = n := by
  have hok : okN n := ⟨hn, by omega⟩
  unfold binW
  rw [numOk_nat hok, show numOk 1 1065353216 = true by decide]
  simp only [Bool.and_self, cond_true]
  unfold fop fbin
  simp only [Ieee.Format.mul]
  rw [one_read, cw_nat hn (by omega)]
  obtain ⟨m, e, e1, e2, e3, e4⟩ := read_fin hf
  rw [e1]
  have key := write_fin hn hf (d := 23) e2 e3 e4
  show resW (canonF .f32 (Ieee.single.nearest (negW n ^^ false) (m * 2 ^ 23) (-149 + (e : Int) + (-149 + ((126 : Nat) : Int))))) = _
  rw [Bool.xor_false, show -149 + (e : Int) + (-149 + ((126 : Nat) : Int)) = -149 + (e : Int) - (23 : Nat) by omega, key]
  exact resW_ok hok
/-- the two zeros -/
def isZ (x : Int) : Prop := x = 0 ∨ x = 2147483648
/-- a number times 0 -/
theorem mul0_r {n : Nat} (hn : n < 4294967296) (hf : rungW n < 2139095040) : isZ (binW .mul n 0) := by
  have hok : okN n := ⟨hn, by omega⟩
  unfold binW
  rw [numOk_nat hok, show numOk 1 0 = true by decide]
  simp only [Bool.and_self, cond_true]
  unfold fop fbin
  simp only [Ieee.Format.mul]
  rw [cw_zero, cw_nat hn (by omega)]
  obtain ⟨m, e, e1, e2, e3, e4⟩ := read_fin hf
  rw [e1, show FloatKind.f32.format.read 0 = .number false 0 (-149) by decide]
  show isZ (resW (canonF .f32 (Ieee.single.nearest (negW n ^^ false) (m * 0) _)))
  rw [Bool.xor_false, Nat.mul_zero]
  unfold Ieee.Format.nearest
  rw [if_pos rfl]
  cases negW n with
  | true => exact .inr (by decide)
  | false => exact .inl (by decide)
theorem sgV_cancel (s : Bool) (k : Nat) (h : k ≠ 0) : sgV s k ≠ 0 ∧ (decide (sgV s k < 0)) = s ∧ (sgV s k).natAbs = k := by
  cases s with
  | true => exact ⟨by show -(k : Int) ≠ 0; omega, decide_eq_true (by show -(k : Int) < 0; omega), by show (-(k : Int)).natAbs = k; omega⟩
  | false => exact ⟨by show (k : Int) ≠ 0; omega, decide_eq_false (by show ¬ (k : Int) < 0; omega), by show ((k : Int)).natAbs = k; omega⟩
theorem sgV_zero (s : Bool) : sgV s 0 = 0 := by cases s <;> rfl
/-- what a sum with a zero is written as -/
theorem write_sum {n : Nat} (hn : n < 4294967296) (hf : rungW n < 2139095040) {m e : Nat} (hm : m < 16777216) (h2 : 8388608 ≤ m ∨ e = 0) (h3 : e * 8388608 + m = rungW n) (b : Bool) :
    resW (canonF .f32 (Ieee.single.nearest (if sgV (negW n) (m * 2 ^ e) = 0 then b else decide (sgV (negW n) (m * 2 ^ e) < 0)) (sgV (negW n) (m * 2 ^ e)).natAbs (-149))) = if rungW n = 0 then (if b then 2147483648 else 0) else (n : Int) := by
  by_cases h0 : rungW n = 0
  · have hm0 : m = 0 := by omega
    rw [if_pos h0, hm0, Nat.zero_mul, sgV_zero, if_pos rfl]
    cases b <;> decide
  · have hm0 : m ≠ 0 := by
      intro h
      subst h
      omega
    have hk : m * 2 ^ e ≠ 0 := Nat.mul_ne_zero hm0 (by have := Nat.pow_pos (n := e) (show 0 < 2 by decide); omega)
    obtain ⟨k1, k2, k3⟩ := sgV_cancel (negW n) (m * 2 ^ e) hk
    rw [if_neg h0, if_neg k1, k2, k3]
    have key := write_fin hn hf (d := e) hm h2 h3
    rw [show -149 + (e : Int) - e = -149 by omega] at key
    rw [key]
    exact resW_ok ⟨hn, by omega⟩
/-- 0 and a number -/
theorem add0_l {n : Nat} (hn : n < 4294967296) (hf : rungW n < 2139095040) : binW .add 0 n = if rungW n = 0 then 0 else (n : Int) := by
  have hok : okN n := ⟨hn, by omega⟩
  unfold binW
  rw [numOk_nat hok, show numOk 1 0 = true by decide]
  simp only [Bool.and_self, cond_true]
  unfold fop fbin
  simp only [Ieee.Format.add]
  rw [cw_zero, cw_nat hn (by omega)]
  obtain ⟨m, e, e1, e2, e3, e4⟩ := read_fin hf
  rw [e1, show FloatKind.f32.format.read 0 = .number false 0 (-149) by decide]
  have key := write_sum hn hf e2 e3 e4 (false && negW n)
  have hb : min (-149 : Int) (-149 + (e : Int)) = -149 := by omega
  simp only [Ieee.Datum.sum, Option.map_some, hb, signed_sg, show (-149 + (e : Int) - -149).toNat = e by omega, Nat.zero_mul, sgV_zero, Int.zero_add, Ieee.Format.write]
  exact key.trans (by rw [Bool.false_and]; simp)
/-- a number and a zero -/
theorem add0_r {n : Nat} (hn : n < 4294967296) (hf : rungW n < 2139095040) (h0 : n = 0 ∨ rungW n ≠ 0) {z : Int} (hz : isZ z) : binW .add n z = n := by
  have hok : okN n := ⟨hn, by omega⟩
  obtain ⟨t, hnz, hrz⟩ : ∃ t : Bool, numOk 1 z = true ∧ FloatKind.f32.format.read (cw z) = .number t 0 (-149) := by
    rcases hz with rfl | rfl
    · exact ⟨false, by decide, by decide⟩
    · exact ⟨true, by decide, by decide⟩
  unfold binW
  rw [numOk_nat hok, hnz]
  simp only [Bool.and_self, cond_true]
  unfold fop fbin
  simp only [Ieee.Format.add]
  rw [hrz, cw_nat hn (by omega)]
  obtain ⟨m, e, e1, e2, e3, e4⟩ := read_fin hf
  rw [e1]
  have key := write_sum hn hf e2 e3 e4 (negW n && t)
  have hb : min (-149 + (e : Int)) (-149 : Int) = -149 := by omega
  simp only [Ieee.Datum.sum, Option.map_some, hb, signed_sg, show (-149 + (e : Int) - -149).toNat = e by omega, Nat.zero_mul, sgV_zero, Int.add_zero, Ieee.Format.write]
  refine key.trans ?_
  rcases h0 with rfl | h0
  · rfl
  · rw [if_neg h0]
/-- what comes of an operation is a word -/
theorem bin_gw {op : BinOp} (hop : op = .add ∨ op = .mul) (x y : Int) : gw (binW op x y) := by
  unfold binW
  cases numOk 1 x && numOk 1 y with
  | false => exact .inr ⟨0, rfl, by decide, by decide⟩
  | true =>
    simp only [cond_true]
    have key : ∀ (d : Option Ieee.Datum), (∀ v, d = some v → (∃ s m p, v = .number s m p) ∨ ∃ s, v = .infinity s) → gw (resW (match d.map Ieee.single.write with | some r => canonF .f32 r | none => nanW .f32)) := by
      intro d hd
      cases d with
      | none => exact .inl resW_nan
      | some v =>
        rcases hd v rfl with ⟨s, m, p, rfl⟩ | ⟨s, rfl⟩
        · obtain ⟨r, h1, h2⟩ := near_word s m p
          have hw := (word_ok (s := s) h1).1
          refine .inr ⟨_, ?_, hw⟩
          show resW (canonF .f32 (Ieee.single.nearest s m p)) = _
          rw [h2]
          exact resW_ok hw
        · have hw := (word_ok (s := s) (Nat.le_refl 2139095040)).1
          exact .inr ⟨_, resW_ok hw, hw⟩
    unfold fop fbin
    rcases hop with rfl | rfl
    · refine key _ ?_
      intro v hv
      generalize FloatKind.f32.format.read (cw x) = a at hv
      generalize FloatKind.f32.format.read (cw y) = b at hv
      cases a <;> cases b <;> simp only [Ieee.Datum.sum] at hv <;> first | (cases hv; done) | (cases hv; exact .inl ⟨_, _, _, rfl⟩) | (cases hv; exact .inr ⟨_, rfl⟩) | (split at hv <;> cases hv; exact .inr ⟨_, rfl⟩)
    · refine key _ ?_
      intro v hv
      generalize FloatKind.f32.format.read (cw x) = a at hv
      generalize FloatKind.f32.format.read (cw y) = b at hv
      cases a <;> cases b <;> simp only [Ieee.Datum.product] at hv <;> first | (cases hv; done) | (cases hv; exact .inl ⟨_, _, _, rfl⟩) | (cases hv; exact .inr ⟨_, rfl⟩) | (split at hv <;> cases hv; exact .inr ⟨_, rfl⟩)
end Go.Proofs.XGT
/- The law LinearGemm: its code, run. -/
namespace Go.Proofs.XGT
open Go.Vm Go
set_option maxRecDepth 100000
set_option maxHeartbeats 4000000
noncomputable def C_lge : Code := codeOf Tryz.f8
noncomputable def cf_lge : Cfg := ⟨56, 6, 0, [], true⟩
noncomputable def gLg : Env := ((g209.add 23 (treeE ldoF)).add 18 (treeElse smotF y18)).add 21 (fnE livlF)
theorem gLg_good : gLg.Good := ((g209_good.add ldoF_ok).add (treeElse_ok smotE_ok y18_ok)).add livlE_ok
theorem lge_eq (t1 t2 : Int) (xd x yd y : List Int) : runC gLg Tryz.f8 6 [] [.d (Y0) (t1, xd, x, ()), .d (Y0) (t2, yd, y, ())] [] ah =
  bif decide (Int.ofNat x.length > 600) then some (AEnd.ret [B true], [])
  else 
    bif decide (Int.ofNat y.length > 600) then some (AEnd.ret [B true], [])
    else 
      bif Int.ofNat xd.length != 2 then some (AEnd.ret [B true], [])
      else 
        bif Int.ofNat yd.length != 2 then some (AEnd.ret [B true], [])
        else (two2 xd).bind fun v4 =>
            (two2 yd).bind fun v5 =>
              bif decide (x.length ≤ 9223372036854775807 ∧ y.length ≤ 9223372036854775807) then 
                bif bgnE t1 v4.1 v4.2 x t2 v5.1 v5.2 y != 0 then (two2 xd).bind fun v8 =>
                    (two2 yd).bind fun v9 =>
                      bif decide (x.length ≤ 9223372036854775807 ∧ y.length ≤ 9223372036854775807) then 
                        bif bgnE t1 v8.1 v8.2 x t2 v9.1 v9.2 y != 0 then 
                          bif bgnE t1 v4.1 v4.2 x t2 v5.1 v5.2 y == bgnE t1 v8.1 v8.2 x t2 v9.1 v9.2 y then some (AEnd.ret [B true], [])
                          else some (AEnd.ret [B false], [])
                        else 
                          bif bgnE t1 v4.1 v4.2 x t2 v5.1 v5.2 y == 0 then 
                            bif 0 != t1 then some (AEnd.ret [B false], [])
                            else some (AEnd.ret [B false], [])
                          else some (AEnd.ret [B false], [])
                      else none
                else (two2 xd).bind fun v8 =>
                    (two2 yd).bind fun v9 =>
                      bif decide (x.length ≤ 9223372036854775807 ∧ y.length ≤ 9223372036854775807) then 
                        bif bgnE t1 v8.1 v8.2 x t2 v9.1 v9.2 y != 0 then 
                          bif 0 == bgnE t1 v8.1 v8.2 x t2 v9.1 v9.2 y then 
                            bif t1 != 0 then some (AEnd.ret [B false], [])
                            else some (AEnd.ret [B false], [])
                          else some (AEnd.ret [B false], [])
                        else 
                          bif decide (2 ≤ 9223372036854775807 ∧ (fMM v4.1 v4.2 v5.2 x y).length ≤ 9223372036854775807 ∧ t1 = t1 ∧ [v4.1, v5.2] = [v8.1, v9.2] ∧ fMM v4.1 v4.2 v5.2 x y = fGM v8.1 v8.2 v9.2 x y) then some (AEnd.ret [B true], [])
                          else none
                      else none
              else none := by kernel_rfl
end Go.Proofs.XGT
/- The law LinearGemm answers true, whatever the tensors. -/
namespace Go.Proofs.XGT
open Go.Vm Go
set_option maxRecDepth 100000
set_option maxHeartbeats 1000000
theorem two2_len {xs : List Int} (h : xs.length = 2) : ∃ a b, xs = [a, b] := by
  match xs, h with
  | [a, b], _ => exact ⟨a, b, rfl⟩
theorem cell_gw {K C : Nat} {a b : List Int} {r c : Nat} (hK : 1 ≤ K) : gw (cellP 0 K C a b r c K) := by
  obtain ⟨k, rfl⟩ : ∃ k, K = k + 1 := ⟨K - 1, by omega⟩
  exact bin_gw (.inl rfl) _ _
theorem prodL_gw {M K C : Nat} {a b : List Int} (hK : 1 ≤ K) : ∀ v ∈ prodL M K C a b, gw v := by
  intro v hv
  unfold prodL mT tab at hv
  obtain ⟨p, _, rfl⟩ := List.mem_map.1 hv
  exact cell_gw hK
theorem mulU_id {L : List Int} (h : ∀ v ∈ L, gw v) : mulU L = L := by
  unfold mulU
  rw [List.map_congr_left (fun v hv => mul1_l (h v hv)), List.map_id']
theorem fGM_eq {t1 a b t2 c d : Int} {x y : List Int} (h : bgnE t1 a b x t2 c d y = 0) : fMM a b d x y = fGM a b d x y := by
  unfold fMM fGM
  have hm := (bgnE_ok h).1
  obtain ⟨⟨_, h2, _⟩, _⟩ := of_decide_eq_true hm
  exact (mulU_id (prodL_gw (by omega))).symm
theorem fMM_len {t1 a b t2 c d : Int} {x y : List Int} (h : bgnE t1 a b x t2 c d y = 0) : (fMM a b d x y).length ≤ 65536 := by
  unfold fMM
  obtain ⟨_, _, h3, _⟩ := of_decide_eq_true (mmOk_prd (bgnE_ok h).1)
  rw [prodL_length]
  exact h3
theorem lge_true (t1 t2 : Int) (xd x yd y : List Int) (h1 : x.length ≤ maxLen) (h2 : y.length ≤ maxLen) : runC gLg Tryz.f8 6 [] [.d (Y0) (t1, xd, x, ()), .d (Y0) (t2, yd, y, ())] [] ah = some (.ret [B true], []) := by
  rw [lge_eq]
  cases decide (Int.ofNat x.length > 600) with
  | true => rfl
  | false =>
    cases decide (Int.ofNat y.length > 600) with
    | true => rfl
    | false =>
      simp only [cond_false]
      by_cases hx : xd.length = 2
      · by_cases hy : yd.length = 2
        · obtain ⟨a, b, rfl⟩ := two2_len hx
          obtain ⟨c, d, rfl⟩ := two2_len hy
          have e1 : (Int.ofNat [a, b].length != 2) = false := rfl
          have e2 : (Int.ofNat [c, d].length != 2) = false := rfl
          have t2a : two2 [a, b] = some (a, b) := rfl
          have t2b : two2 [c, d] = some (c, d) := rfl
          simp only [e1, e2, t2a, t2b, cond_false, Option.bind_some, decide_eq_true (show x.length ≤ 9223372036854775807 ∧ y.length ≤ 9223372036854775807 from ⟨h1, h2⟩), cond_true]
          cases hb : bgnE t1 a b x t2 c d y != 0 with
          | true => simp only [cond_true, beq_self_eq_true]
          | false =>
            have h0 : bgnE t1 a b x t2 c d y = 0 := by simpa using hb
            have hl := fMM_len h0
            rw [decide_eq_true (show 2 ≤ 9223372036854775807 ∧ (fMM a b d x y).length ≤ 9223372036854775807 ∧ True ∧ True ∧ fMM a b d x y = fGM a b d x y from ⟨by decide, by omega, trivial, trivial, fGM_eq h0⟩)]
            rfl
        · have e1 : (Int.ofNat xd.length != 2) = false := by rw [hx]; rfl
          have e2 : (Int.ofNat yd.length != 2) = true := by rw [bne_iff_ne]; simp only [Int.ofNat_eq_natCast]; omega
          rw [e1, e2]
          rfl
      · have e1 : (Int.ofNat xd.length != 2) = true := by rw [bne_iff_ne]; simp only [Int.ofNat_eq_natCast]; omega
        rw [e1]
        rfl
theorem lge_call (t1 : Int) (xd x : List Int) (_ : xd.length ≤ maxLen) (h1 : x.length ≤ maxLen) (t2 : Int) (yd y : List Int) (_ : yd.length ≤ maxLen) (h2 : y.length ≤ maxLen) : FnH Tryz.prog (Env.gam e0) 8 [.d (Y0) (t1, xd, x, ()), .d (Y0) (t2, yd, y, ())] (hget []) (fun ae h1 => ae = .ret [B true] ∧ h1 = hget []) :=
  runC_call gLg_good hmix Tryz.func8 Tryz.call8 (by decide +kernel) rfl (lge_true t1 t2 xd x yd y h1 h2)
end Go.Proofs.XGT
/- A row of a product is the product of the row. -/
namespace Go.Proofs.XGT
open Go.Vm Go
set_option maxRecDepth 100000
set_option maxHeartbeats 1000000
theorem ep2 (u v : Int) : prodI [u, v] = u * v := by show 1 * u * v = u * v; rw [Int.one_mul]
theorem countE_mk {xs : List Int} (h1 : ∀ x ∈ xs, 1 ≤ x) (h2 : xs.length ≤ 6) (h3 : prodI xs ≤ 65536) : countE xs = 0 ∧ countN xs = prodI xs := by
  have e1 : decide (idxP (fun d => decide (d < 1)) xs ≥ 0) = false := by
    rw [idxP_ge, List.any_eq_false]
    intro x hx
    have := h1 x hx
    simp only [decide_eq_true_eq]
    omega
  have e2 : decide (Int.ofNat xs.length > 6) = false := decide_eq_false (by simp only [Int.ofNat_eq_natCast]; omega)
  have e3 : bigI xs = false := by
    unfold bigI
    exact decide_eq_false (by omega)
  unfold countE countN
  rw [e1, e2, e3]
  exact ⟨rfl, rfl⟩
theorem tenE_mk {t : Int} {xd dt : List Int} (h1 : numOk t 0 = true) (h2 : countE xd = 0) (h3 : (dt.length : Int) = countN xd) (h4 : ∀ x ∈ dt, numOk t x = true) : tenE t xd dt = 0 := by
  unfold tenE
  rw [h1, h2, show (Int.ofNat dt.length != countN xd) = false by rw [bne_eq_false_iff_eq]; exact h3, List.any_eq_false.2 (fun x hx => by rw [h4 x hx]; simp)]
  rfl
theorem cell_row {K C i c : Nat} {x y : List Int} : ∀ n, n ≤ K → cellP 0 K C ((x.drop (i * K)).take K) y 0 c n = cellP 0 K C x y i c n
  | 0, _ => rfl
  | n + 1, h => by
    simp only [cellP]
    rw [cell_row n (by omega), Nat.zero_mul, Nat.zero_add]
    have e : ((x.drop (i * K)).take K).getD n 0 = x.getD (i * K + n) 0 := by
      rw [List.getD_eq_getElem?_getD, List.getD_eq_getElem?_getD, List.getElem?_take_of_lt (by omega), List.getElem?_drop]
    rw [e]
theorem row_eq {M K C i : Nat} {x y : List Int} (hi : i < M) (hC : 1 ≤ C) : prodL 1 K C ((x.drop (i * K)).take K) y = ((prodL M K C x y).drop (i * C)).take C := by
  have hb := row_le (C := C) hi
  apply List.ext_getElem?
  intro q
  by_cases hq : q < C
  · rw [List.getElem?_take_of_lt hq, List.getElem?_drop]
    unfold prodL mT
    rw [tab_get (by omega), tab_get (by omega)]
    have e1 : (i * C + q) / C = i := ((place_iff (i := i) (j := q) hq).mp rfl).1
    have e2 : (i * C + q) % C = q := ((place_iff (i := i) (j := q) hq).mp rfl).2
    rw [e1, e2, Nat.div_eq_of_lt hq, Nat.mod_eq_of_lt hq, cell_row K (Nat.le_refl _)]
  · rw [List.getElem?_eq_none (by rw [prodL_length]; omega), List.getElem?_eq_none (by rw [List.length_take]; omega)]
/-- what is known where a product is made -/
structure Ok2 (t1 t2 : Int) (M K N : Nat) (x y : List Int) : Prop where
  m1 : 1 ≤ M
  k1 : 1 ≤ K
  n1 : 1 ≤ N
  hmk : M * K ≤ 65536
  hkn : K * N ≤ 65536
  hmn : M * N ≤ 65536
  lx : x.length = M * K
  ly : y.length = K * N
  e1 : t1 = 1
  e2 : t2 = 1
  nx : ∀ v ∈ x, numOk 1 v = true
  tx : tenE t1 [(M : Int), K] x = 0
  ty : tenE t2 [(K : Int), N] y = 0
theorem ok2_of {t1 a b t2 c d : Int} {x y : List Int} (h : bgnE t1 a b x t2 c d y = 0) : ∃ M K N : Nat, a = M ∧ b = K ∧ c = K ∧ d = N ∧ Ok2 t1 t2 M K N x y := by
  obtain ⟨h1, h2, h3, h4, h5, _⟩ := bgnE_ok h
  obtain ⟨⟨a1, a2, a3, a4⟩, ⟨b1, b2, b3, b4⟩, c1, c2⟩ := of_decide_eq_true h1
  subst c1
  obtain ⟨m, rfl⟩ := Int.eq_ofNat_of_zero_le (show 0 ≤ a by omega)
  obtain ⟨k, rfl⟩ := Int.eq_ofNat_of_zero_le (show 0 ≤ c by omega)
  obtain ⟨n, rfl⟩ := Int.eq_ofNat_of_zero_le (show 0 ≤ d by omega)
  rw [← Int.natCast_mul] at a3 a4 b3 b4 c2
  have hx := (ten_ok h4).2.2.2
  subst h2
  exact ⟨m, k, n, rfl, rfl, rfl, rfl, ⟨by omega, by omega, by omega, by omega, by omega, by omega, by omega, by omega, rfl, h3, hx, h4, h5⟩⟩
theorem bgnE_mk {t1 t2 : Int} {M K N : Nat} {x y : List Int} (h : Ok2 t1 t2 M K N x y) {i : Nat} (hi : i < M) : bgnE t1 1 K ((x.drop (i * K)).take K) t2 K N y = 0 := by
  have hb := row_le (C := K) hi
  have hkn : K ≤ K * N := Nat.le_mul_of_pos_right _ h.n1
  have hmn : N ≤ M * N := Nat.le_mul_of_pos_left _ h.m1
  have c1 := countE_mk (xs := [1, (K : Int)]) (fun v hv => by
    have := h.k1
    simp at hv
    rcases hv with rfl | rfl <;> omega) (by simp) (by have := h.hkn; rw [ep2]; omega)
  have c2 := countE_mk (xs := [1, (N : Int)]) (fun v hv => by
    have := h.n1
    simp at hv
    rcases hv with rfl | rfl <;> omega) (by simp) (by have := h.hmn; rw [ep2]; omega)
  have e1 : tenE t1 [1, (K : Int)] ((x.drop (i * K)).take K) = 0 := by
    refine tenE_mk (ten_ok h.tx).1 c1.1 ?_ (fun v hv => ?_)
    · have := h.lx
      rw [c1.2, ep2, List.length_take, List.length_drop]
      omega
    · exact (ten_ok h.tx).2.2.2 v (List.mem_of_mem_drop (List.mem_of_mem_take hv))
  unfold bgnE
  rw [e1, h.ty, h.e1, h.e2, c2.1]
  simp
theorem fMM_row {t1 t2 : Int} {M K N : Nat} {x y : List Int} (h : Ok2 t1 t2 M K N x y) {i : Nat} (hi : i < M) : fMM 1 K N ((x.drop (i * K)).take K) y = ((fMM M K N x y).drop (i * N)).take N := by
  unfold fMM
  exact row_eq hi h.n1
end Go.Proofs.XGT
