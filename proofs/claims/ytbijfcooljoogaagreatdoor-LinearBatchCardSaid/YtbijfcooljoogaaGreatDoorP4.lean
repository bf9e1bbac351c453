/- SameTensor of a made tensor and one that is made of dims and of numbers that came in, where they are the same. -/
import Derived.Test.YtbijfcooljoogaaGreatDoorP3

namespace Go.Proofs.XGT
open Go.Vm Go
set_option maxRecDepth 100000
set_option maxHeartbeats 4000000
noncomputable def C_smds : Code := codeOf Tryz.f33
noncomputable def cf_smds : Cfg := ⟨26, 5, 2, [(4, [0, 1, 5])], true⟩
def smdsH (z3 z4 : Bool) (xs : List Int) : LHp := [(0, .arr 3 i64T 0 z3 xs), (1, .arr 3 i64T 0 z4 xs)]
theorem smds_eqH (hl : Hl) (z3 z4 : Bool) (xs : List Int) : runH g169 Tryz.f33 5 [(4, [0, 1, 5])] [4] hl [.os 1 0, .os 0 0] (smdsH z3 z4 xs) ah =
  bif Int.ofNat xs.length != Int.ofNat xs.length then some (AEnd.ret [B false], [(0, AObj.arr 3 (i64T) 0 z3 xs), (1, AObj.arr 3 (i64T) 0 z4 xs)])
  else hl (cL (cL (cR (cL (cR (cR C_smds)))))) _ { fr := mkFr 5 [(0, AV.os 1 0), (1, AV.os 0 0), (5, I 0)], hp := [(0, AObj.arr 3 (i64T) 0 z3 xs), (1, AObj.arr 3 (i64T) 0 z4 xs)], nx := 4 } (blkK 0 (seqH g169 cf_smds [4] hl (cR (cR (cR C_smds))) (endC Tryz.prog 2 Tryz.f33.results.toList ah))) := by kernel_rfl
theorem smds_eq (z3 z4 : Bool) (xs : List Int) : runC g169 Tryz.f33 5 [(4, [0, 1, 5])] [.os 1 0, .os 0 0] (smdsH z3 z4 xs) ah =
  bif Int.ofNat xs.length != Int.ofNat xs.length then some (AEnd.ret [B false], [(0, AObj.arr 3 (i64T) 0 z3 xs), (1, AObj.arr 3 (i64T) 0 z4 xs)])
  else (hlp g169 cf_smds) (cL (cL (cR (cL (cR (cR C_smds)))))) _ { fr := mkFr 5 [(0, AV.os 1 0), (1, AV.os 0 0), (5, I 0)], hp := [(0, AObj.arr 3 (i64T) 0 z3 xs), (1, AObj.arr 3 (i64T) 0 z4 xs)], nx := 4 } (blkK 0 (seqH g169 cf_smds [4] (hlp g169 cf_smds) (cR (cR (cR C_smds))) (endC Tryz.prog 2 Tryz.f33.results.toList ah))) := runH_runC.trans (smds_eqH (hlp g169 cf_smds) z3 z4 xs)
def smdsSt (z3 z4 : Bool) (xs : List Int) (i : Int) : LSt := ⟨mkFr 5 [(0, .os 1 0), (1, .os 0 0), (5, I i)], smdsH z3 z4 xs, 4⟩
theorem smds_stepH (hl : Hl) (z3 z4 : Bool) (xs : List Int) (i : Int) (n : Nat) {R : Type} (k : AEx → LSt → Option R) : lpH g169 cf_smds [4] hl (cL (cL (cR (cL (cR (cR C_smds)))))) (n + 1) (smdsSt z3 z4 xs i) k =
  bif decide (i < Int.ofNat xs.length) then (idx xs i).bind fun v1 =>
      (xs[i.toNat]?).bind fun v2 =>
        (idx xs i).bind fun v3 =>
          (xs[i.toNat]?).bind fun v4 =>
            bif v2 != v4 then k AEx.ret { fr := mkFr 5 [(0, AV.os 1 0), (1, AV.os 0 0), (4, B false), (5, I i), (11, I i), (12, AV.os 1 0), (13, I (Int.ofNat xs.length)), (14, B true), (17, AV.os 1 0), (18, I i), (19, AV.oe 1 0 i.toNat), (20, I v2), (21, AV.os 0 0), (22, I i), (23, AV.oe 0 0 i.toNat), (24, I v4), (25, B true)], hp := [(0, AObj.arr 3 (i64T) 0 z3 xs), (1, AObj.arr 3 (i64T) 0 z4 xs)], nx := 4 }
            else lpH g169 cf_smds [4] hl (cL (cL (cR (cL (cR (cR C_smds)))))) n { fr := mkFr 5 [(0, AV.os 1 0), (1, AV.os 0 0), (5, I (IntKind.i64.wrap (i + 1)))], hp := [(0, AObj.arr 3 (i64T) 0 z3 xs), (1, AObj.arr 3 (i64T) 0 z4 xs)], nx := 4 } k
  else k (AEx.exit 0) { fr := mkFr 5 [(0, AV.os 1 0), (1, AV.os 0 0), (5, I i), (11, I i), (12, AV.os 1 0), (13, I (Int.ofNat xs.length)), (14, B false)], hp := [(0, AObj.arr 3 (i64T) 0 z3 xs), (1, AObj.arr 3 (i64T) 0 z4 xs)], nx := 4 } := by kernel_rfl
theorem smds_step (z3 z4 : Bool) (xs : List Int) (i : Int) (n : Nat) {R : Type} (k : AEx → LSt → Option R) : lp g169 cf_smds (cL (cL (cR (cL (cR (cR C_smds)))))) (n + 1) (smdsSt z3 z4 xs i) k =
  bif decide (i < Int.ofNat xs.length) then (idx xs i).bind fun v1 =>
      (xs[i.toNat]?).bind fun v2 =>
        (idx xs i).bind fun v3 =>
          (xs[i.toNat]?).bind fun v4 =>
            bif v2 != v4 then k AEx.ret { fr := mkFr 5 [(0, AV.os 1 0), (1, AV.os 0 0), (4, B false), (5, I i), (11, I i), (12, AV.os 1 0), (13, I (Int.ofNat xs.length)), (14, B true), (17, AV.os 1 0), (18, I i), (19, AV.oe 1 0 i.toNat), (20, I v2), (21, AV.os 0 0), (22, I i), (23, AV.oe 0 0 i.toNat), (24, I v4), (25, B true)], hp := [(0, AObj.arr 3 (i64T) 0 z3 xs), (1, AObj.arr 3 (i64T) 0 z4 xs)], nx := 4 }
            else lp g169 cf_smds (cL (cL (cR (cL (cR (cR C_smds)))))) n { fr := mkFr 5 [(0, AV.os 1 0), (1, AV.os 0 0), (5, I (IntKind.i64.wrap (i + 1)))], hp := [(0, AObj.arr 3 (i64T) 0 z3 xs), (1, AObj.arr 3 (i64T) 0 z4 xs)], nx := 4 } k
  else k (AEx.exit 0) { fr := mkFr 5 [(0, AV.os 1 0), (1, AV.os 0 0), (5, I i), (11, I i), (12, AV.os 1 0), (13, I (Int.ofNat xs.length)), (14, B false)], hp := [(0, AObj.arr 3 (i64T) 0 z3 xs), (1, AObj.arr 3 (i64T) 0 z4 xs)], nx := 4 } := by
  have h := smds_stepH (hlp g169 cf_smds) z3 z4 xs i n k
  simp only [lpH_lp] at h
  exact h
noncomputable def smdsK : AEx → LSt → Option (AEnd × LHp) := (blkK 0 (seqH g169 cf_smds [4] (hlp g169 cf_smds) (cR (cR (cR C_smds))) (endC Tryz.prog 2 Tryz.f33.results.toList ah)))
theorem smds_lp (z3 z4 : Bool) (xs : List Int) : runC g169 Tryz.f33 5 [(4, [0, 1, 5])] [.os 1 0, .os 0 0] (smdsH z3 z4 xs) ah = lp g169 cf_smds (cL (cL (cR (cL (cR (cR C_smds)))))) fu (smdsSt z3 z4 xs 0) smdsK := (smds_eq z3 z4 xs).trans (by rw [bne_self_eq_false, cond_false]; kernel_rfl)
theorem smdsK_exit (z3 z4 : Bool) (xs : List Int) (i : Int) : smdsK (AEx.exit 0) ⟨mkFr 5 [(0, .os 1 0), (1, .os 0 0), (5, I i), (11, I i), (12, .os 1 0), (13, I (Int.ofNat xs.length)), (14, B false)], smdsH z3 z4 xs, 4⟩ = some (.ret [B true], smdsH z3 z4 xs) := by kernel_rfl
theorem smds_run (z3 z4 : Bool) (xs : List Int) (hl : xs.length ≤ maxLen) : runC g169 Tryz.f33 5 [(4, [0, 1, 5])] [.os 1 0, .os 0 0] (smdsH z3 z4 xs) ah = some (.ret [B true], smdsH z3 z4 xs) := by
  rw [smds_lp]
  exact allP_lp (T := fun n s => lp g169 cf_smds (cL (cL (cR (cL (cR (cR C_smds)))))) n s smdsK) (xs := xs) (st := smdsSt z3 z4 xs) (r := some (.ret [B true], smdsH z3 z4 xs)) hl (fun i x hx hi hlt n => by
    rw [smds_step, decide_eq_true (show (i : Int) < Int.ofNat xs.length from Int.ofNat_lt.2 hlt), hi, show xs[(i : Int).toNat]? = some x from hx]
    simp only [cond_true, Option.bind_some, bne_self_eq_false, cond_false]
    rfl) (fun n => by
    rw [smds_step, decide_eq_false (show ¬ (Int.ofNat xs.length < Int.ofNat xs.length) from Int.lt_irrefl _)]
    exact smdsK_exit _ _ _ _)
def smdsF : List AV → LHp → Tq
  | [.os 1 0, .os 0 0], [(0, .arr 3 (.int .i64) 0 z3 ys), (1, .arr 3 (.int .i64) 0 z4 xs)] => .br (decide (xs.length ≤ maxLen ∧ xs = ys)) (.leaf (.ret [B true]) (smdsH z3 z4 xs)) .no
  | _, _ => .no
theorem smdsE_ok : FnE.OK e0.P e0.gam 33 (treeE smdsF) := by
  have h1 : FnE.OK e0.P e0.gam 33 (execFnC g169 Tryz.f33 5 [(4, [0, 1, 5])]) := y33_ok
  refine ⟨fun _ _ _ => Tq.eq _ _, fun args hs ae hs' h => ?_⟩
  have h' : (smdsF args hs).run ah = some (ae, hs') := h
  clear h
  unfold smdsF at h'
  split at h'
  · obtain ⟨hb, h2⟩ := Tq.br_no h'
    clear h'
    obtain ⟨hl, he⟩ := of_decide_eq_true hb
    subst he
    cases h2
    exact h1.okC (smds_run _ _ _ hl)
  · cases h'
noncomputable def C_smdt : Code := codeOf Tryz.f18
noncomputable def cf_smdt : Cfg := ⟨46, 6, 3, [(4, [2, 3, 5])], true⟩
noncomputable def gsmd : Env := g170.add 33 (treeE smdsF)
theorem gsmd_good : gsmd.Good := g170_good.add smdsE_ok
def smdtH (z2 z3 z4 : Bool) (xd dt : List Int) : LHp := [(0, .arr 3 i64T 0 z2 xd), (1, .arr 2 i64T 0 z3 dt), (2, .arr 3 i64T 0 z4 xd)]
def smdtA (t : Int) : AV := .pr (I t) (.pr (.os 2 0) (.pr (.os 1 0) (.d .unit ())))
def smdtB (t : Int) (xd dt : List Int) : AV := .pr (I t) (.pr (.os 0 0) (.pr (.d (.slice i64T) dt) (.d .unit ())))
theorem smdt_eqH (hl : Hl) (z2 z3 z4 : Bool) (t : Int) (xd dt : List Int) : runH gsmd Tryz.f18 6 [(4, [2, 3, 5])] [4] hl [smdtA t, smdtB t xd dt] (smdtH z2 z3 z4 xd dt) ah =
  bif t != t then some (AEnd.ret [B false], [(0, AObj.arr 3 (i64T) 0 z2 xd), (1, AObj.arr 2 (i64T) 0 z3 dt), (2, AObj.arr 3 (i64T) 0 z4 xd)])
  else 
    bif decide (xd.length ≤ 9223372036854775807 ∧ xd = xd) then 
      bif Int.ofNat dt.length != Int.ofNat dt.length then some (AEnd.ret [B false], [(0, AObj.arr 3 (i64T) 0 z2 xd), (1, AObj.arr 2 (i64T) 0 z3 dt), (2, AObj.arr 3 (i64T) 0 z4 xd)])
      else hl (cL (cL (cR (cL (cR (cR C_smdt)))))) _ { fr := mkFr 6 [(2, AV.op 3 [] 0), (3, AV.op 4 [] 0), (5, I 0)], hp := [(0, AObj.arr 3 (i64T) 0 z2 xd), (1, AObj.arr 2 (i64T) 0 z3 dt), (2, AObj.arr 3 (i64T) 0 z4 xd), (3, AObj.box ((I t).pr ((AV.os 2 0).pr ((AV.os 1 0).pr (AV.d Ty.unit PUnit.unit))))), (4, AObj.box ((I t).pr ((AV.os 0 0).pr ((AV.d (i64T).slice dt).pr (AV.d Ty.unit PUnit.unit)))))], nx := 8 } (blkK 0 (seqH gsmd cf_smdt [4] hl (cR (cR (cR C_smdt))) (endC Tryz.prog 3 Tryz.f18.results.toList ah)))
    else none := by kernel_rfl
theorem smdt_eq (z2 z3 z4 : Bool) (t : Int) (xd dt : List Int) : runC gsmd Tryz.f18 6 [(4, [2, 3, 5])] [smdtA t, smdtB t xd dt] (smdtH z2 z3 z4 xd dt) ah =
  bif t != t then some (AEnd.ret [B false], [(0, AObj.arr 3 (i64T) 0 z2 xd), (1, AObj.arr 2 (i64T) 0 z3 dt), (2, AObj.arr 3 (i64T) 0 z4 xd)])
  else 
    bif decide (xd.length ≤ 9223372036854775807 ∧ xd = xd) then 
      bif Int.ofNat dt.length != Int.ofNat dt.length then some (AEnd.ret [B false], [(0, AObj.arr 3 (i64T) 0 z2 xd), (1, AObj.arr 2 (i64T) 0 z3 dt), (2, AObj.arr 3 (i64T) 0 z4 xd)])
      else (hlp gsmd cf_smdt) (cL (cL (cR (cL (cR (cR C_smdt)))))) _ { fr := mkFr 6 [(2, AV.op 3 [] 0), (3, AV.op 4 [] 0), (5, I 0)], hp := [(0, AObj.arr 3 (i64T) 0 z2 xd), (1, AObj.arr 2 (i64T) 0 z3 dt), (2, AObj.arr 3 (i64T) 0 z4 xd), (3, AObj.box ((I t).pr ((AV.os 2 0).pr ((AV.os 1 0).pr (AV.d Ty.unit PUnit.unit))))), (4, AObj.box ((I t).pr ((AV.os 0 0).pr ((AV.d (i64T).slice dt).pr (AV.d Ty.unit PUnit.unit)))))], nx := 8 } (blkK 0 (seqH gsmd cf_smdt [4] (hlp gsmd cf_smdt) (cR (cR (cR C_smdt))) (endC Tryz.prog 3 Tryz.f18.results.toList ah)))
    else none := runH_runC.trans (smdt_eqH (hlp gsmd cf_smdt) z2 z3 z4 t xd dt)
def smdtSt (z2 z3 z4 : Bool) (t : Int) (xd dt : List Int) (i : Int) : LSt := ⟨mkFr 6 [(2, .op 3 [] 0), (3, .op 4 [] 0), (5, I i)], smdtH z2 z3 z4 xd dt ++ [(3, .box (smdtA t)), (4, .box (smdtB t xd dt))], 8⟩
theorem smdt_stepH (hl : Hl) (z2 z3 z4 : Bool) (t : Int) (xd dt : List Int) (i : Int) (n : Nat) {R : Type} (k : AEx → LSt → Option R) : lpH gsmd cf_smdt [4] hl (cL (cL (cR (cL (cR (cR C_smdt)))))) (n + 1) (smdtSt z2 z3 z4 t xd dt i) k =
  bif decide (i < Int.ofNat dt.length) then (idx dt i).bind fun v1 =>
      (dt[i.toNat]?).bind fun v2 =>
        (idx dt i).bind fun v3 =>
          bif v2 != v3 then k AEx.ret { fr := mkFr 6 [(2, AV.op 3 [] 0), (3, AV.op 4 [] 0), (4, B false), (5, I i), (28, I i), (29, AV.op 3 [2] 2), (30, AV.os 1 0), (31, I (Int.ofNat dt.length)), (32, B true), (35, AV.op 3 [2] 2), (36, AV.os 1 0), (37, I i), (38, AV.oe 1 0 i.toNat), (39, I v2), (40, AV.op 4 [2] 2), (41, AV.d (i64T).slice dt), (42, I i), (43, AV.ip (i64T) v3), (44, I v3), (45, B true)], hp := [(0, AObj.arr 3 (i64T) 0 z2 xd), (1, AObj.arr 2 (i64T) 0 z3 dt), (2, AObj.arr 3 (i64T) 0 z4 xd), (3, AObj.box ((I t).pr ((AV.os 2 0).pr ((AV.os 1 0).pr (AV.d Ty.unit PUnit.unit))))), (4, AObj.box ((I t).pr ((AV.os 0 0).pr ((AV.d (i64T).slice dt).pr (AV.d Ty.unit PUnit.unit)))))], nx := 8 }
          else lpH gsmd cf_smdt [4] hl (cL (cL (cR (cL (cR (cR C_smdt)))))) n { fr := mkFr 6 [(2, AV.op 3 [] 0), (3, AV.op 4 [] 0), (5, I (IntKind.i64.wrap (i + 1)))], hp := [(0, AObj.arr 3 (i64T) 0 z2 xd), (1, AObj.arr 2 (i64T) 0 z3 dt), (2, AObj.arr 3 (i64T) 0 z4 xd), (3, AObj.box ((I t).pr ((AV.os 2 0).pr ((AV.os 1 0).pr (AV.d Ty.unit PUnit.unit))))), (4, AObj.box ((I t).pr ((AV.os 0 0).pr ((AV.d (i64T).slice dt).pr (AV.d Ty.unit PUnit.unit)))))], nx := 8 } k
  else k (AEx.exit 0) { fr := mkFr 6 [(2, AV.op 3 [] 0), (3, AV.op 4 [] 0), (5, I i), (28, I i), (29, AV.op 3 [2] 2), (30, AV.os 1 0), (31, I (Int.ofNat dt.length)), (32, B false)], hp := [(0, AObj.arr 3 (i64T) 0 z2 xd), (1, AObj.arr 2 (i64T) 0 z3 dt), (2, AObj.arr 3 (i64T) 0 z4 xd), (3, AObj.box ((I t).pr ((AV.os 2 0).pr ((AV.os 1 0).pr (AV.d Ty.unit PUnit.unit))))), (4, AObj.box ((I t).pr ((AV.os 0 0).pr ((AV.d (i64T).slice dt).pr (AV.d Ty.unit PUnit.unit)))))], nx := 8 } := by kernel_rfl
theorem smdt_step (z2 z3 z4 : Bool) (t : Int) (xd dt : List Int) (i : Int) (n : Nat) {R : Type} (k : AEx → LSt → Option R) : lp gsmd cf_smdt (cL (cL (cR (cL (cR (cR C_smdt)))))) (n + 1) (smdtSt z2 z3 z4 t xd dt i) k =
  bif decide (i < Int.ofNat dt.length) then (idx dt i).bind fun v1 =>
      (dt[i.toNat]?).bind fun v2 =>
        (idx dt i).bind fun v3 =>
          bif v2 != v3 then k AEx.ret { fr := mkFr 6 [(2, AV.op 3 [] 0), (3, AV.op 4 [] 0), (4, B false), (5, I i), (28, I i), (29, AV.op 3 [2] 2), (30, AV.os 1 0), (31, I (Int.ofNat dt.length)), (32, B true), (35, AV.op 3 [2] 2), (36, AV.os 1 0), (37, I i), (38, AV.oe 1 0 i.toNat), (39, I v2), (40, AV.op 4 [2] 2), (41, AV.d (i64T).slice dt), (42, I i), (43, AV.ip (i64T) v3), (44, I v3), (45, B true)], hp := [(0, AObj.arr 3 (i64T) 0 z2 xd), (1, AObj.arr 2 (i64T) 0 z3 dt), (2, AObj.arr 3 (i64T) 0 z4 xd), (3, AObj.box ((I t).pr ((AV.os 2 0).pr ((AV.os 1 0).pr (AV.d Ty.unit PUnit.unit))))), (4, AObj.box ((I t).pr ((AV.os 0 0).pr ((AV.d (i64T).slice dt).pr (AV.d Ty.unit PUnit.unit)))))], nx := 8 }
          else lp gsmd cf_smdt (cL (cL (cR (cL (cR (cR C_smdt)))))) n { fr := mkFr 6 [(2, AV.op 3 [] 0), (3, AV.op 4 [] 0), (5, I (IntKind.i64.wrap (i + 1)))], hp := [(0, AObj.arr 3 (i64T) 0 z2 xd), (1, AObj.arr 2 (i64T) 0 z3 dt), (2, AObj.arr 3 (i64T) 0 z4 xd), (3, AObj.box ((I t).pr ((AV.os 2 0).pr ((AV.os 1 0).pr (AV.d Ty.unit PUnit.unit))))), (4, AObj.box ((I t).pr ((AV.os 0 0).pr ((AV.d (i64T).slice dt).pr (AV.d Ty.unit PUnit.unit)))))], nx := 8 } k
  else k (AEx.exit 0) { fr := mkFr 6 [(2, AV.op 3 [] 0), (3, AV.op 4 [] 0), (5, I i), (28, I i), (29, AV.op 3 [2] 2), (30, AV.os 1 0), (31, I (Int.ofNat dt.length)), (32, B false)], hp := [(0, AObj.arr 3 (i64T) 0 z2 xd), (1, AObj.arr 2 (i64T) 0 z3 dt), (2, AObj.arr 3 (i64T) 0 z4 xd), (3, AObj.box ((I t).pr ((AV.os 2 0).pr ((AV.os 1 0).pr (AV.d Ty.unit PUnit.unit))))), (4, AObj.box ((I t).pr ((AV.os 0 0).pr ((AV.d (i64T).slice dt).pr (AV.d Ty.unit PUnit.unit)))))], nx := 8 } := by
  have h := smdt_stepH (hlp gsmd cf_smdt) z2 z3 z4 t xd dt i n k
  simp only [lpH_lp] at h
  exact h
noncomputable def smdtK : AEx → LSt → Option (AEnd × LHp) := (blkK 0 (seqH gsmd cf_smdt [4] (hlp gsmd cf_smdt) (cR (cR (cR C_smdt))) (endC Tryz.prog 3 Tryz.f18.results.toList ah)))
theorem smdt_lp (z2 z3 z4 : Bool) (t : Int) (xd dt : List Int) (hl : xd.length ≤ maxLen) : runC gsmd Tryz.f18 6 [(4, [2, 3, 5])] [smdtA t, smdtB t xd dt] (smdtH z2 z3 z4 xd dt) ah = lp gsmd cf_smdt (cL (cL (cR (cL (cR (cR C_smdt)))))) fu (smdtSt z2 z3 z4 t xd dt 0) smdtK := (smdt_eq z2 z3 z4 t xd dt).trans (by rw [bne_self_eq_false, bne_self_eq_false, decide_eq_true (show xd.length ≤ 9223372036854775807 ∧ xd = xd from ⟨hl, rfl⟩), cond_false, cond_false, cond_true]; kernel_rfl)
theorem smdtK_exit (z2 z3 z4 : Bool) (t : Int) (xd dt : List Int) (i : Int) : smdtK (AEx.exit 0) ⟨mkFr 6 [(2, .op 3 [] 0), (3, .op 4 [] 0), (5, I i), (28, I i), (29, AV.op 3 [2] 2), (30, AV.os 1 0), (31, I (Int.ofNat dt.length)), (32, B false)], smdtH z2 z3 z4 xd dt ++ [(3, .box (smdtA t)), (4, .box (smdtB t xd dt))], 8⟩ = some (.ret [B true], smdtH z2 z3 z4 xd dt) := by kernel_rfl
theorem smdt_run (z2 z3 z4 : Bool) (t : Int) (xd dt : List Int) (h1 : xd.length ≤ maxLen) (h2 : dt.length ≤ maxLen) : runC gsmd Tryz.f18 6 [(4, [2, 3, 5])] [smdtA t, smdtB t xd dt] (smdtH z2 z3 z4 xd dt) ah = some (.ret [B true], smdtH z2 z3 z4 xd dt) := by
  rw [smdt_lp z2 z3 z4 t xd dt h1]
  exact allP_lp (T := fun n s => lp gsmd cf_smdt (cL (cL (cR (cL (cR (cR C_smdt)))))) n s smdtK) (xs := dt) (st := smdtSt z2 z3 z4 t xd dt) (r := some (.ret [B true], smdtH z2 z3 z4 xd dt)) h2 (fun i x hx hi hlt n => by
    rw [smdt_step, decide_eq_true (show (i : Int) < Int.ofNat dt.length from Int.ofNat_lt.2 hlt), hi]
    simp only [show dt[(i : Int).toNat]? = some x from hx, cond_true, Option.bind_some, bne_self_eq_false, cond_false]
    rfl) (fun n => by
    rw [smdt_step, decide_eq_false (show ¬ (Int.ofNat dt.length < Int.ofNat dt.length) from Int.lt_irrefl _)]
    exact smdtK_exit _ _ _ _ _ _ _)
def smdtF : List AV → LHp → Tq
  | [.pr (.d (.int .i64) t) (.pr (.os 2 0) (.pr (.os 1 0) (.d .unit ()))), .pr (.d (.int .i64) t2) (.pr (.os 0 0) (.pr (.d (.slice (.int .i64)) dt2) (.d .unit ())))], [(0, .arr 3 (.int .i64) 0 z2 xd2), (1, .arr 2 (.int .i64) 0 z3 dt), (2, .arr 3 (.int .i64) 0 z4 xd)] =>
    .br (decide (xd.length ≤ maxLen ∧ dt.length ≤ maxLen ∧ t = t2 ∧ xd = xd2 ∧ dt = dt2)) (.leaf (.ret [B true]) (smdtH z2 z3 z4 xd dt)) .no
  | _, _ => .no
theorem smdtE_ok : FnE.OK e0.P e0.gam 18 (treeE smdtF) := by
  have h1 : FnE.OK e0.P e0.gam 18 (execFnC gsmd Tryz.f18 6 [(4, [2, 3, 5])]) := execFnC_ok gsmd_good hmix Tryz.func18 Tryz.call18 (by decide +kernel) rfl
  refine ⟨fun _ _ _ => Tq.eq _ _, fun args hs ae hs' h => ?_⟩
  have h' : (smdtF args hs).run ah = some (ae, hs') := h
  clear h
  unfold smdtF at h'
  split at h'
  · obtain ⟨hb, h2⟩ := Tq.br_no h'
    clear h'
    obtain ⟨hl, hl2, he1, he2, he3⟩ := of_decide_eq_true hb
    subst he1 he2 he3
    cases h2
    exact h1.okC (smdt_run _ _ _ _ _ _ hl hl2)
  · cases h'
end Go.Proofs.XGT
