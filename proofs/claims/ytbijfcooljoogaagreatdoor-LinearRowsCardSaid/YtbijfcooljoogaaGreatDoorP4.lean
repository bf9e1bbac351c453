/- SameTensor of a made tensor and one that is made of dims and of numbers that came in, where they are the same. -/
import Derived.Test.YtbijfcooljoogaaGreatDoorP3
import Derived.Test.YtbijfcooljoogaaGreatDoorP2

namespace Go.Proofs.XGT
open Go.Vm Go
set_option maxRecDepth 100000
set_option maxHeartbeats 4000000
noncomputable def C_smds : Code := codeOf Tryz.f33
noncomputable def cf_smds : Cfg := ⟨26, 5, 2, [(4, [0, 1, 5])], true⟩
def smdsH (z3 z4 : Bool) (xs : List Int) : LHp := [(0, .arr 3 i64T 0 z3 xs), (1, .arr 3 i64T 0 z4 xs)]
theorem smds_eqH (hl : Hl) (z3 z4 : Bool) (xs : List Int) : runH g169 Tryz.f33 5 [(4, [0, 1, 5])] [4] hl [.os 1 0, .os 0 0] (smdsH z3 z4 xs) ah =
  bif Int.ofNat xs.length != Int.ofNat xs.length then some (AEnd.ret [B false], [(0, AObj.arr 3 (i64T) 0 z3 xs), (1, AObj.arr 3 (i64T) 0 z4 xs)])
  else hl (cL (cL (cR (cL (cR (cR C_smds)))))) _ { fr := mkFr 5 [(0, AV.os 1 0), (1, AV.os 0 0), (5, I 0)], hp := [(0, AObj.arr 3 (i64T) 0 z3 xs), (1, AObj.arr 3 (i64T) 0 z4 xs)], nx := 4 } (blkK 0 (seqH g169 cf_smds [4] hl (cR (cR (cR C_smds))) (endC Tryz.prog 2 Tryz.f33.results.toList ah))) := by kernel_rfl
theorem smds_eq (z3 z4 : Bool) (xs : List Int) : runC g169 Tryz.f33 5 [(4, [0, 1, 5])] [.os 1 0, .os 0 0] (smdsH z3 z4 xs) ah =
  bif Int.ofNat xs.length != Int.ofNat xs.length then some (AEnd.ret [B false], [(0, AObj.arr 3 (i64T) 0 z3 xs), (1, AObj.arr 3 (i64T) 0 z4 xs)])
  else (hlp g169 cf_smds) (cL (cL (cR (cL (cR (cR C_smds)))))) _ { fr := mkFr 5 [(0, AV.os 1 0), (1, AV.os 0 0), (5, I 0)], hp := [(0, AObj.arr 3 (i64T) 0 z3 xs), (1, AObj.arr 3 (i64T) 0 z4 xs)], nx := 4 } (blkK 0 (seqH g169 cf_smds [4] (hlp g169 cf_smds) (cR (cR (cR C_smds))) (endC Tryz.prog 2 Tryz.f33.results.toList ah))) := runH_runC.trans (smds_eqH (hlp g169 cf_smds) z3 z4 xs)
def smdsSt (z3 z4 : Bool) (xs : List Int) (i : Int) : LSt := ⟨mkFr 5 [(0, .os 1 0), (1, .os 0 0), (5, I i)], smdsH z3 z4 xs, 4⟩
theorem smds_stepH (hl : Hl) (z3 z4 : Bool) (xs : List Int) (i : Int) (n : Nat) {R : Type} (k : AEx → LSt → Option R) : lpH g169 cf_smds [4] hl (cL (cL (cR (cL (cR (cR C_smds)))))) (n + 1) (smdsSt z3 z4 xs i) k =
  bif decide (i < Int.ofNat xs.length) then (idx xs i).bind fun v1 =>
      (xs[i.toNat]?).bind fun v2 =>
        (idx xs i).bind fun v3 =>
          (xs[i.toNat]?).bind fun v4 =>
            bif v2 != v4 then k AEx.ret { fr := mkFr 5 [(0, AV.os 1 0), (1, AV.os 0 0), (4, B false), (5, I i), (11, I i), (12, AV.os 1 0), (13, I (Int.ofNat xs.length)), (14, B true), (17, AV.os 1 0), (18, I i), (19, AV.oe 1 0 i.toNat), (20, I v2), (21, AV.os 0 0), (22, I i), (23, AV.oe 0 0 i.toNat), (24, I v4), (25, B true)], hp := [(0, AObj.arr 3 (i64T) 0 z3 xs), (1, AObj.arr 3 (i64T) 0 z4 xs)], nx := 4 }
            else lpH g169 cf_smds [4] hl (cL (cL (cR (cL (cR (cR C_smds)))))) n { fr := mkFr 5 [(0, AV.os 1 0), (1, AV.os 0 0), (5, I (IntKind.i64.wrap (i + 1)))], hp := [(0, AObj.arr 3 (i64T) 0 z3 xs), (1, AObj.arr 3 (i64T) 0 z4 xs)], nx := 4 } k
  else k (AEx.exit 0) { fr := mkFr 5 [(0, AV.os 1 0), (1, AV.os 0 0), (5, I i), (11, I i), (12, AV.os 1 0), (13, I (Int.ofNat xs.length)), (14, B false)], hp := [(0, AObj.arr 3 (i64T) 0 z3 xs), (1, AObj.arr 3 (i64T) 0 z4 xs)], nx := 4 } := by kernel_rfl
theorem smds_step (z3 z4 : Bool) (xs : List Int) (i : Int) (n : Nat) {R : Type} (k : AEx → LSt → Option R) : lp g169 cf_smds (cL (cL (cR (cL (cR (cR C_smds)))))) (n + 1) (smdsSt z3 z4 xs i) k =
  bif decide (i < Int.ofNat xs.length) then (idx xs i).bind fun v1 =>
      (xs[i.toNat]?).bind fun v2 =>
        (idx xs i).bind fun v3 =>
          (xs[i.toNat]?).bind fun v4 =>
            bif v2 != v4 then k AEx.ret { fr := mkFr 5 [(0, AV.os 1 0), (1, AV.os 0 0), (4, B false), (5, I i), (11, I i), (12, AV.os 1 0), (13, I (Int.ofNat xs.length)), (14, B true), (17, AV.os 1 0), (18, I i), (19, AV.oe 1 0 i.toNat), (20, I v2), (21, AV.os 0 0), (22, I i), (23, AV.oe 0 0 i.toNat), (24, I v4), (25, B true)], hp := [(0, AObj.arr 3 (i64T) 0 z3 xs), (1, AObj.arr 3 (i64T) 0 z4 xs)], nx := 4 }
            else lp g169 cf_smds (cL (cL (cR (cL (cR (cR C_smds)))))) n { fr := mkFr 5 [(0, AV.os 1 0), (1, AV.os 0 0), (5, I (IntKind.i64.wrap (i + 1)))], hp := [(0, AObj.arr 3 (i64T) 0 z3 xs), (1, AObj.arr 3 (i64T) 0 z4 xs)], nx := 4 } k
  else k (AEx.exit 0) { fr := mkFr 5 [(0, AV.os 1 0), (1, AV.os 0 0), (5, I i), (11, I i), (12, AV.os 1 0), (13, I (Int.ofNat xs.length)), (14, B false)], hp := [(0, AObj.arr 3 (i64T) 0 z3 xs), (1, AObj.arr 3 (i64T) 0 z4 xs)], nx := 4 } := by
  have h := smds_stepH (hlp g169 cf_smds) z3 z4 xs i n k
  simp only [lpH_lp] at h
  exact h
noncomputable def smdsK : AEx → LSt → Option (AEnd × LHp) := (blkK 0 (seqH g169 cf_smds [4] (hlp g169 cf_smds) (cR (cR (cR C_smds))) (endC Tryz.prog 2 Tryz.f33.results.toList ah)))
theorem smds_lp (z3 z4 : Bool) (xs : List Int) : runC g169 Tryz.f33 5 [(4, [0, 1, 5])] [.os 1 0, .os 0 0] (smdsH z3 z4 xs) ah = lp g169 cf_smds (cL (cL (cR (cL (cR (cR C_smds)))))) fu (smdsSt z3 z4 xs 0) smdsK := (smds_eq z3 z4 xs).trans (by rw [bne_self_eq_false, cond_false]; kernel_rfl)
theorem smdsK_exit (z3 z4 : Bool) (xs : List Int) (i : Int) : smdsK (AEx.exit 0) ⟨mkFr 5 [(0, .os 1 0), (1, .os 0 0), (5, I i), (11, I i), (12, .os 1 0), (13, I (Int.ofNat xs.length)), (14, B false)], smdsH z3 z4 xs, 4⟩ = some (.ret [B true], smdsH z3 z4 xs) := by kernel_rfl
theorem smds_run (z3 z4 : Bool) (xs : List Int) (hl : xs.length ≤ maxLen) : runC g169 Tryz.f33 5 [(4, [0, 1, 5])] [.os 1 0, .os 0 0] (smdsH z3 z4 xs) ah = some (.ret [B true], smdsH z3 z4 xs) := by
  rw [smds_lp]
  exact allP_lp (T := fun n s => lp g169 cf_smds (cL (cL (cR (cL (cR (cR C_smds)))))) n s smdsK) (xs := xs) (st := smdsSt z3 z4 xs) (r := some (.ret [B true], smdsH z3 z4 xs)) hl (fun i x hx hi hlt n => by
    rw [smds_step, decide_eq_true (show (i : Int) < Int.ofNat xs.length from Int.ofNat_lt.2 hlt), hi, show xs[(i : Int).toNat]? = some x from hx]
    simp only [cond_true, Option.bind_some, bne_self_eq_false, cond_false]
    rfl) (fun n => by
    rw [smds_step, decide_eq_false (show ¬ (Int.ofNat xs.length < Int.ofNat xs.length) from Int.lt_irrefl _)]
    exact smdsK_exit _ _ _ _)
def smdsF : List AV → LHp → Tq
  | [.os 1 0, .os 0 0], [(0, .arr 3 (.int .i64) 0 z3 ys), (1, .arr 3 (.int .i64) 0 z4 xs)] => .br (decide (xs.length ≤ maxLen ∧ xs = ys)) (.leaf (.ret [B true]) (smdsH z3 z4 xs)) .no
  | _, _ => .no
theorem smdsE_ok : FnE.OK e0.P e0.gam 33 (treeE smdsF) := by
  have h1 : FnE.OK e0.P e0.gam 33 (execFnC g169 Tryz.f33 5 [(4, [0, 1, 5])]) := y33_ok
  refine ⟨fun _ _ _ => Tq.eq _ _, fun args hs ae hs' h => ?_⟩
  have h' : (smdsF args hs).run ah = some (ae, hs') := h
  clear h
  unfold smdsF at h'
  split at h'
  · obtain ⟨hb, h2⟩ := Tq.br_no h'
    clear h'
    obtain ⟨hl, he⟩ := of_decide_eq_true hb
    subst he
    cases h2
    exact h1.okC (smds_run _ _ _ hl)
  · cases h'
noncomputable def C_smdt : Code := codeOf Tryz.f18
noncomputable def cf_smdt : Cfg := ⟨46, 6, 3, [(4, [2, 3, 5])], true⟩
noncomputable def gsmd : Env := g170.add 33 (treeE smdsF)
theorem gsmd_good : gsmd.Good := g170_good.add smdsE_ok
def smdtH (z2 z3 z4 : Bool) (xd dt : List Int) : LHp := [(0, .arr 3 i64T 0 z2 xd), (1, .arr 2 i64T 0 z3 dt), (2, .arr 3 i64T 0 z4 xd)]
def smdtA (t : Int) : AV := .pr (I t) (.pr (.os 2 0) (.pr (.os 1 0) (.d .unit ())))
def smdtB (t : Int) (xd dt : List Int) : AV := .pr (I t) (.pr (.os 0 0) (.pr (.d (.slice i64T) dt) (.d .unit ())))
theorem smdt_eqH (hl : Hl) (z2 z3 z4 : Bool) (t : Int) (xd dt : List Int) : runH gsmd Tryz.f18 6 [(4, [2, 3, 5])] [4] hl [smdtA t, smdtB t xd dt] (smdtH z2 z3 z4 xd dt) ah =
  bif t != t then some (AEnd.ret [B false], [(0, AObj.arr 3 (i64T) 0 z2 xd), (1, AObj.arr 2 (i64T) 0 z3 dt), (2, AObj.arr 3 (i64T) 0 z4 xd)])
  else 
    bif decide (xd.length ≤ 9223372036854775807 ∧ xd = xd) then 
      bif Int.ofNat dt.length != Int.ofNat dt.length then some (AEnd.ret [B false], [(0, AObj.arr 3 (i64T) 0 z2 xd), (1, AObj.arr 2 (i64T) 0 z3 dt), (2, AObj.arr 3 (i64T) 0 z4 xd)])
      else hl (cL (cL (cR (cL (cR (cR C_smdt)))))) _ { fr := mkFr 6 [(2, AV.op 3 [] 0), (3, AV.op 4 [] 0), (5, I 0)], hp := [(0, AObj.arr 3 (i64T) 0 z2 xd), (1, AObj.arr 2 (i64T) 0 z3 dt), (2, AObj.arr 3 (i64T) 0 z4 xd), (3, AObj.box ((I t).pr ((AV.os 2 0).pr ((AV.os 1 0).pr (AV.d Ty.unit PUnit.unit))))), (4, AObj.box ((I t).pr ((AV.os 0 0).pr ((AV.d (i64T).slice dt).pr (AV.d Ty.unit PUnit.unit)))))], nx := 8 } (blkK 0 (seqH gsmd cf_smdt [4] hl (cR (cR (cR C_smdt))) (endC Tryz.prog 3 Tryz.f18.results.toList ah)))
    else none := by kernel_rfl
theorem smdt_eq (z2 z3 z4 : Bool) (t : Int) (xd dt : List Int) : runC gsmd Tryz.f18 6 [(4, [2, 3, 5])] [smdtA t, smdtB t xd dt] (smdtH z2 z3 z4 xd dt) ah =
  bif t != t then some (AEnd.ret [B false], [(0, AObj.arr 3 (i64T) 0 z2 xd), (1, AObj.arr 2 (i64T) 0 z3 dt), (2, AObj.arr 3 (i64T) 0 z4 xd)])
  else 
    bif decide (xd.length ≤ 9223372036854775807 ∧ xd = xd) then 
      bif Int.ofNat dt.length != Int.ofNat dt.length then some (AEnd.ret [B false], [(0, AObj.arr 3 (i64T) 0 z2 xd), (1, AObj.arr 2 (i64T) 0 z3 dt), (2, AObj.arr 3 (i64T) 0 z4 xd)])
      else (hlp gsmd cf_smdt) (cL (cL (cR (cL (cR (cR C_smdt)))))) _ { fr := mkFr 6 [(2, AV.op 3 [] 0), (3, AV.op 4 [] 0), (5, I 0)], hp := [(0, AObj.arr 3 (i64T) 0 z2 xd), (1, AObj.arr 2 (i64T) 0 z3 dt), (2, AObj.arr 3 (i64T) 0 z4 xd), (3, AObj.box ((I t).pr ((AV.os 2 0).pr ((AV.os 1 0).pr (AV.d Ty.unit PUnit.unit))))), (4, AObj.box ((I t).pr ((AV.os 0 0).pr ((AV.d (i64T).slice dt).pr (AV.d Ty.unit PUnit.unit)))))], nx := 8 } (blkK 0 (seqH gsmd cf_smdt [4] (hlp gsmd cf_smdt) (cR (cR (cR C_smdt))) (endC Tryz.prog 3 Tryz.f18.results.toList ah)))
    else none := runH_runC.trans (smdt_eqH (hlp gsmd cf_smdt) z2 z3 z4 t xd dt)
def smdtSt (z2 z3 z4 : Bool) (t : Int) (xd dt : List Int) (i : Int) : LSt := ⟨mkFr 6 [(2, .op 3 [] 0), (3, .op 4 [] 0), (5, I i)], smdtH z2 z3 z4 xd dt ++ [(3, .box (smdtA t)), (4, .box (smdtB t xd dt))], 8⟩
theorem smdt_stepH (hl : Hl) (z2 z3 z4 : Bool) (t : Int) (xd dt : List Int) (i : Int) (n : Nat) {R : Type} (k : AEx → LSt → Option R) : lpH gsmd cf_smdt [4] hl (cL (cL (cR (cL (cR (cR C_smdt)))))) (n + 1) (smdtSt z2 z3 z4 t xd dt i) k =
  bif decide (i < Int.ofNat dt.length) then (idx dt i).bind fun v1 =>
      (dt[i.toNat]?).bind fun v2 =>
        (idx dt i).bind fun v3 =>
          bif v2 != v3 then k AEx.ret { fr := mkFr 6 [(2, AV.op 3 [] 0), (3, AV.op 4 [] 0), (4, B false), (5, I i), (28, I i), (29, AV.op 3 [2] 2), (30, AV.os 1 0), (31, I (Int.ofNat dt.length)), (32, B true), (35, AV.op 3 [2] 2), (36, AV.os 1 0), (37, I i), (38, AV.oe 1 0 i.toNat), (39, I v2), (40, AV.op 4 [2] 2), (41, AV.d (i64T).slice dt), (42, I i), (43, AV.ip (i64T) v3), (44, I v3), (45, B true)], hp := [(0, AObj.arr 3 (i64T) 0 z2 xd), (1, AObj.arr 2 (i64T) 0 z3 dt), (2, AObj.arr 3 (i64T) 0 z4 xd), (3, AObj.box ((I t).pr ((AV.os 2 0).pr ((AV.os 1 0).pr (AV.d Ty.unit PUnit.unit))))), (4, AObj.box ((I t).pr ((AV.os 0 0).pr ((AV.d (i64T).slice dt).pr (AV.d Ty.unit PUnit.unit)))))], nx := 8 }
          else lpH gsmd cf_smdt [4] hl (cL (cL (cR (cL (cR (cR C_smdt)))))) n { fr := mkFr 6 [(2, AV.op 3 [] 0), (3, AV.op 4 [] 0), (5, I (IntKind.i64.wrap (i + 1)))], hp := [(0, AObj.arr 3 (i64T) 0 z2 xd), (1, AObj.arr 2 (i64T) 0 z3 dt), (2, AObj.arr 3 (i64T) 0 z4 xd), (3, AObj.box ((I t).pr ((AV.os 2 0).pr ((AV.os 1 0).pr (AV.d Ty.unit PUnit.unit))))), (4, AObj.box ((I t).pr ((AV.os 0 0).pr ((AV.d (i64T).slice dt).pr (AV.d Ty.unit PUnit.unit)))))], nx := 8 } k
  else k (AEx.exit 0) { fr := mkFr 6 [(2, AV.op 3 [] 0), (3, AV.op 4 [] 0), (5, I i), (28, I i), (29, AV.op 3 [2] 2), (30, AV.os 1 0), (31, I (Int.ofNat dt.length)), (32, B false)], hp := [(0, AObj.arr 3 (i64T) 0 z2 xd), (1, AObj.arr 2 (i64T) 0 z3 dt), (2, AObj.arr 3 (i64T) 0 z4 xd), (3, AObj.box ((I t).pr ((AV.os 2 0).pr ((AV.os 1 0).pr (AV.d Ty.unit PUnit.unit))))), (4, AObj.box ((I t).pr ((AV.os 0 0).pr ((AV.d (i64T).slice dt).pr (AV.d Ty.unit PUnit.unit)))))], nx := 8 } := by kernel_rfl
theorem smdt_step (z2 z3 z4 : Bool) (t : Int) (xd dt : List Int) (i : Int) (n : Nat) {R : Type} (k : AEx → LSt → Option R) : lp gsmd cf_smdt (cL (cL (cR (cL (cR (cR C_smdt)))))) (n + 1) (smdtSt z2 z3 z4 t xd dt i) k =
  bif decide (i < Int.ofNat dt.length) then (idx dt i).bind fun v1 =>
      (dt[i.toNat]?).bind fun v2 =>
        (idx dt i).bind fun v3 =>
          bif v2 != v3 then k AEx.ret { fr := mkFr 6 [(2, AV.op 3 [] 0), (3, AV.op 4 [] 0), (4, B false), (5, I i), (28, I i), (29, AV.op 3 [2] 2), (30, AV.os 1 0), (31, I (Int.ofNat dt.length)), (32, B true), (35, AV.op 3 [2] 2), (36, AV.os 1 0), (37, I i), (38, AV.oe 1 0 i.toNat), (39, I v2), (40, AV.op 4 [2] 2), (41, AV.d (i64T).slice dt), (42, I i), (43, AV.ip (i64T) v3), (44, I v3), (45, B true)], hp := [(0, AObj.arr 3 (i64T) 0 z2 xd), (1, AObj.arr 2 (i64T) 0 z3 dt), (2, AObj.arr 3 (i64T) 0 z4 xd), (3, AObj.box ((I t).pr ((AV.os 2 0).pr ((AV.os 1 0).pr (AV.d Ty.unit PUnit.unit))))), (4, AObj.box ((I t).pr ((AV.os 0 0).pr ((AV.d (i64T).slice dt).pr (AV.d Ty.unit PUnit.unit)))))], nx := 8 }
          else lp gsmd cf_smdt (cL (cL (cR (cL (cR (cR C_smdt)))))) n { fr := mkFr 6 [(2, AV.op 3 [] 0), (3, AV.op 4 [] 0), (5, I (IntKind.i64.wrap (i + 1)))], hp := [(0, AObj.arr 3 (i64T) 0 z2 xd), (1, AObj.arr 2 (i64T) 0 z3 dt), (2, AObj.arr 3 (i64T) 0 z4 xd), (3, AObj.box ((I t).pr ((AV.os 2 0).pr ((AV.os 1 0).pr (AV.d Ty.unit PUnit.unit))))), (4, AObj.box ((I t).pr ((AV.os 0 0).pr ((AV.d (i64T).slice dt).pr (AV.d Ty.unit PUnit.unit)))))], nx := 8 } k
  else k (AEx.exit 0) { fr := mkFr 6 [(2, AV.op 3 [] 0), (3, AV.op 4 [] 0), (5, I i), (28, I i), (29, AV.op 3 [2] 2), (30, AV.os 1 0), (31, I (Int.ofNat dt.length)), (32, B false)], hp := [(0, AObj.arr 3 (i64T) 0 z2 xd), (1, AObj.arr 2 (i64T) 0 z3 dt), (2, AObj.arr 3 (i64T) 0 z4 xd), (3, AObj.box ((I t).pr ((AV.os 2 0).pr ((AV.os 1 0).pr (AV.d Ty.unit PUnit.unit))))), (4, AObj.box ((I t).pr ((AV.os 0 0).pr ((AV.d (i64T).slice dt).pr (AV.d Ty.unit PUnit.unit)))))], nx := 8 } := by
  have h := smdt_stepH (hlp gsmd cf_smdt) z2 z3 z4 t xd dt i n k
  simp only [lpH_lp] at h
  exact h
noncomputable def smdtK : AEx → LSt → Option (AEnd × LHp) := (blkK 0 (seqH gsmd cf_smdt [4] (hlp gsmd cf_smdt) (cR (cR (cR C_smdt))) (endC Tryz.prog 3 Tryz.f18.results.toList ah)))
theorem smdt_lp (z2 z3 z4 : Bool) (t : Int) (xd dt : List Int) (hl : xd.length ≤ maxLen) : runC gsmd Tryz.f18 6 [(4, [2, 3, 5])] [smdtA t, smdtB t xd dt] (smdtH z2 z3 z4 xd dt) ah = lp gsmd cf_smdt (cL (cL (cR (cL (cR (cR C_smdt)))))) fu (smdtSt z2 z3 z4 t xd dt 0) smdtK := (smdt_eq z2 z3 z4 t xd dt).trans (by rw [bne_self_eq_false, bne_self_eq_false, decide_eq_true (show xd.length ≤ 9223372036854775807 ∧ xd = xd from ⟨hl, rfl⟩), cond_false, cond_false, cond_true]; kernel_rfl)
theorem smdtK_exit (z2 z3 z4 : Bool) (t : Int) (xd dt : List Int) (i : Int) : smdtK (AEx.exit 0) ⟨mkFr 6 [(2, .op 3 [] 0), (3, .op 4 [] 0), (5, I i), (28, I i), (29, AV.op 3 [2] 2), (30, AV.os 1 0), (31, I (Int.ofNat dt.length)), (32, B false)], smdtH z2 z3 z4 xd dt ++ [(3, .box (smdtA t)), (4, .box (smdtB t xd dt))], 8⟩ = some (.ret [B true], smdtH z2 z3 z4 xd dt) := by kernel_rfl
theorem smdt_run (z2 z3 z4 : Bool) (t : Int) (xd dt : List Int) (h1 : xd.length ≤ maxLen) (h2 : dt.length ≤ maxLen) : runC gsmd Tryz.f18 6 [(4, [2, 3, 5])] [smdtA t, smdtB t xd dt] (smdtH z2 z3 z4 xd dt) ah = some (.ret [B true], smdtH z2 z3 z4 xd dt) := by
  rw [smdt_lp z2 z3 z4 t xd dt h1]
  exact allP_lp (T := fun n s => lp gsmd cf_smdt (cL (cL (cR (cL (cR (cR C_smdt)))))) n s smdtK) (xs := dt) (st := smdtSt z2 z3 z4 t xd dt) (r := some (.ret [B true], smdtH z2 z3 z4 xd dt)) h2 (fun i x hx hi hlt n => by
    rw [smdt_step, decide_eq_true (show (i : Int) < Int.ofNat dt.length from Int.ofNat_lt.2 hlt), hi]
    simp only [show dt[(i : Int).toNat]? = some x from hx, cond_true, Option.bind_some, bne_self_eq_false, cond_false]
    rfl) (fun n => by
    rw [smdt_step, decide_eq_false (show ¬ (Int.ofNat dt.length < Int.ofNat dt.length) from Int.lt_irrefl _)]
    exact smdtK_exit _ _ _ _ _ _ _)
def smdtF : List AV → LHp → Tq
  | [.pr (.d (.int .i64) t) (.pr (.os 2 0) (.pr (.os 1 0) (.d .unit ()))), .pr (.d (.int .i64) t2) (.pr (.os 0 0) (.pr (.d (.slice (.int .i64)) dt2) (.d .unit ())))], [(0, .arr 3 (.int .i64) 0 z2 xd2), (1, .arr 2 (.int .i64) 0 z3 dt), (2, .arr 3 (.int .i64) 0 z4 xd)] =>
    .br (decide (xd.length ≤ maxLen ∧ dt.length ≤ maxLen ∧ t = t2 ∧ xd = xd2 ∧ dt = dt2)) (.leaf (.ret [B true]) (smdtH z2 z3 z4 xd dt)) .no
  | _, _ => .no
theorem smdtE_ok : FnE.OK e0.P e0.gam 18 (treeE smdtF) := by
  have h1 : FnE.OK e0.P e0.gam 18 (execFnC gsmd Tryz.f18 6 [(4, [2, 3, 5])]) := execFnC_ok gsmd_good hmix Tryz.func18 Tryz.call18 (by decide +kernel) rfl
  refine ⟨fun _ _ _ => Tq.eq _ _, fun args hs ae hs' h => ?_⟩
  have h' : (smdtF args hs).run ah = some (ae, hs') := h
  clear h
  unfold smdtF at h'
  split at h'
  · obtain ⟨hb, h2⟩ := Tq.br_no h'
    clear h'
    obtain ⟨hl, hl2, he1, he2, he3⟩ := of_decide_eq_true hb
    subst he1 he2 he3
    cases h2
    exact h1.okC (smdt_run _ _ _ _ _ _ hl hl2)
  · cases h'
end Go.Proofs.XGT
/- The law LinearRows: its code, run. -/
namespace Go.Proofs.XGT
open Go.Vm Go
set_option maxRecDepth 100000
set_option maxHeartbeats 4000000
noncomputable def C_lrw : Code := codeOf Tryz.f7
noncomputable def cf_lrw : Cfg := ⟨139, 8, 0, [], true⟩
noncomputable def gLr : Env := ((g208.add 23 (treeE ldoF)).add 18 (treeElse smdtF y18)).add 21 (fnE livlF)
theorem gLr_good : gLr.Good := ((g208_good.add ldoF_ok).add (treeElse_ok smdtE_ok y18_ok)).add livlE_ok
theorem lrw_eq (t1 t2 row : Int) (xd x yd y : List Int) : runC gLr Tryz.f7 8 [] [.d (Y0) (t1, xd, x, ()), .d (Y0) (t2, yd, y, ()), I row] [] ah =
  bif decide (Int.ofNat x.length > 600) then some (AEnd.ret [B true], [])
  else 
    bif decide (Int.ofNat y.length > 600) then some (AEnd.ret [B true], [])
    else 
      bif Int.ofNat xd.length != 2 then some (AEnd.ret [B true], [])
      else 
        bif Int.ofNat yd.length != 2 then some (AEnd.ret [B true], [])
        else (two2 xd).bind fun v4 =>
            (two2 yd).bind fun v5 =>
              bif decide (x.length ≤ 9223372036854775807 ∧ y.length ≤ 9223372036854775807) then 
                bif bgnE t1 v4.1 v4.2 x t2 v5.1 v5.2 y != 0 then 
                  bif bgnE t1 v4.1 v4.2 x t2 v5.1 v5.2 y != 0 then some (AEnd.ret [B true], [])
                  else (idx xd 0).bind fun v9 =>
                      bif decide (v9 < 1) then some (AEnd.ret [B true], [])
                      else 
                        bif decide (row < 0) then (idx xd 0).bind fun v12 =>
                            (if v12 = 0 then none else some ((IntKind.i64.wrap (0 - IntKind.i64.wrap (row + 1))).tmod v12)).bind fun v13 =>
                              (idx xd 1).bind fun v14 =>
                                (idx yd 1).bind fun v15 =>
                                  (idx xd 0).bind fun v16 =>
                                    bif 0 != IntKind.i64.wrap (v16 * v15) then some (AEnd.ret [B false], [])
                                    else (idx xd 0).bind fun v18 =>
                                        bif Int.ofNat x.length != IntKind.i64.wrap (v18 * v14) then some (AEnd.ret [B false], [])
                                        else (if 0 ≤ IntKind.i64.wrap (v13 * v14) ∧ IntKind.i64.wrap (v13 * v14) ≤ IntKind.i64.wrap (IntKind.i64.wrap (v13 * v14) + v14) ∧ IntKind.i64.wrap (IntKind.i64.wrap (v13 * v14) + v14) ≤ Int.ofNat x.length then some (List.drop (IntKind.i64.wrap (v13 * v14)).toNat (List.take (IntKind.i64.wrap (IntKind.i64.wrap (v13 * v14) + v14)).toNat x)) else none).bind fun v20 =>
                                            (two2 yd).bind fun v21 =>
                                              bif decide (v20.length ≤ 9223372036854775807 ∧ y.length ≤ 9223372036854775807) then 
                                                bif bgnE t1 1 v14 v20 t2 v21.1 v21.2 y != 0 then 
                                                  bif bgnE t1 1 v14 v20 t2 v21.1 v21.2 y == 0 then 
                                                    bif IntKind.i64.wrap (v13 * v15) == 0 && IntKind.i64.wrap (IntKind.i64.wrap (v13 * v15) + v15) == 0 then some (AEnd.ret [B false], [])
                                                    else none
                                                  else some (AEnd.ret [B false], [])
                                                else 
                                                  bif IntKind.i64.wrap (v13 * v15) == 0 && IntKind.i64.wrap (IntKind.i64.wrap (v13 * v15) + v15) == 0 then 
                                                    bif t1 != 1 then some (AEnd.ret [B false], [])
                                                    else 
                                                      bif v21.2 != v15 then some (AEnd.ret [B false], [])
                                                      else 
                                                        bif Int.ofNat (fMM 1 v14 v21.2 v20 y).length != 0 then some (AEnd.ret [B false], [])
                                                        else 
                                                          bif decide (0 < Int.ofNat (fMM 1 v14 v21.2 v20 y).length) then (idx (fMM 1 v14 v21.2 v20 y) 0).bind fun v29 =>
                                                              ((fMM 1 v14 v21.2 v20 y)[0]?).bind fun v30 =>
                                                                none
                                                          else some (AEnd.ret [B true], [])
                                                  else none
                                              else none
                        else (idx xd 0).bind fun v12 =>
                            (if v12 = 0 then none else some (row.tmod v12)).bind fun v13 =>
                              (idx xd 1).bind fun v14 =>
                                (idx yd 1).bind fun v15 =>
                                  (idx xd 0).bind fun v16 =>
                                    bif 0 != IntKind.i64.wrap (v16 * v15) then some (AEnd.ret [B false], [])
                                    else (idx xd 0).bind fun v18 =>
                                        bif Int.ofNat x.length != IntKind.i64.wrap (v18 * v14) then some (AEnd.ret [B false], [])
                                        else (if 0 ≤ IntKind.i64.wrap (v13 * v14) ∧ IntKind.i64.wrap (v13 * v14) ≤ IntKind.i64.wrap (IntKind.i64.wrap (v13 * v14) + v14) ∧ IntKind.i64.wrap (IntKind.i64.wrap (v13 * v14) + v14) ≤ Int.ofNat x.length then some (List.drop (IntKind.i64.wrap (v13 * v14)).toNat (List.take (IntKind.i64.wrap (IntKind.i64.wrap (v13 * v14) + v14)).toNat x)) else none).bind fun v20 =>
                                            (two2 yd).bind fun v21 =>
                                              bif decide (v20.length ≤ 9223372036854775807 ∧ y.length ≤ 9223372036854775807) then 
                                                bif bgnE t1 1 v14 v20 t2 v21.1 v21.2 y != 0 then 
                                                  bif bgnE t1 1 v14 v20 t2 v21.1 v21.2 y == 0 then 
                                                    bif IntKind.i64.wrap (v13 * v15) == 0 && IntKind.i64.wrap (IntKind.i64.wrap (v13 * v15) + v15) == 0 then some (AEnd.ret [B false], [])
                                                    else none
                                                  else some (AEnd.ret [B false], [])
                                                else 
                                                  bif IntKind.i64.wrap (v13 * v15) == 0 && IntKind.i64.wrap (IntKind.i64.wrap (v13 * v15) + v15) == 0 then 
                                                    bif t1 != 1 then some (AEnd.ret [B false], [])
                                                    else 
                                                      bif v21.2 != v15 then some (AEnd.ret [B false], [])
                                                      else 
                                                        bif Int.ofNat (fMM 1 v14 v21.2 v20 y).length != 0 then some (AEnd.ret [B false], [])
                                                        else 
                                                          bif decide (0 < Int.ofNat (fMM 1 v14 v21.2 v20 y).length) then (idx (fMM 1 v14 v21.2 v20 y) 0).bind fun v29 =>
                                                              ((fMM 1 v14 v21.2 v20 y)[0]?).bind fun v30 =>
                                                                none
                                                          else some (AEnd.ret [B true], [])
                                                  else none
                                              else none
                else (idx xd 0).bind fun v8 =>
                    bif decide (v8 < 1) then some (AEnd.ret [B true], [])
                    else 
                      bif decide (row < 0) then (idx xd 0).bind fun v11 =>
                          (if v11 = 0 then none else some ((IntKind.i64.wrap (0 - IntKind.i64.wrap (row + 1))).tmod v11)).bind fun v12 =>
                            (idx xd 1).bind fun v13 =>
                              (idx yd 1).bind fun v14 =>
                                (idx xd 0).bind fun v15 =>
                                  bif Int.ofNat (fMM v4.1 v4.2 v5.2 x y).length != IntKind.i64.wrap (v15 * v14) then some (AEnd.ret [B false], [])
                                  else (idx xd 0).bind fun v17 =>
                                      bif Int.ofNat x.length != IntKind.i64.wrap (v17 * v13) then some (AEnd.ret [B false], [])
                                      else (if 0 ≤ IntKind.i64.wrap (v12 * v13) ∧ IntKind.i64.wrap (v12 * v13) ≤ IntKind.i64.wrap (IntKind.i64.wrap (v12 * v13) + v13) ∧ IntKind.i64.wrap (IntKind.i64.wrap (v12 * v13) + v13) ≤ Int.ofNat x.length then some (List.drop (IntKind.i64.wrap (v12 * v13)).toNat (List.take (IntKind.i64.wrap (IntKind.i64.wrap (v12 * v13) + v13)).toNat x)) else none).bind fun v19 =>
                                          (two2 yd).bind fun v20 =>
                                            bif decide (v19.length ≤ 9223372036854775807 ∧ y.length ≤ 9223372036854775807) then 
                                              bif bgnE t1 1 v13 v19 t2 v20.1 v20.2 y != 0 then 
                                                bif bgnE t1 1 v13 v19 t2 v20.1 v20.2 y == 0 then (if 0 ≤ IntKind.i64.wrap (v12 * v14) ∧ IntKind.i64.wrap (v12 * v14) ≤ IntKind.i64.wrap (IntKind.i64.wrap (v12 * v14) + v14) ∧ IntKind.i64.wrap (IntKind.i64.wrap (v12 * v14) + v14) ≤ Int.ofNat (fMM v4.1 v4.2 v5.2 x y).length then some (List.drop (IntKind.i64.wrap (v12 * v14)).toNat (List.take (IntKind.i64.wrap (IntKind.i64.wrap (v12 * v14) + v14)).toNat (fMM v4.1 v4.2 v5.2 x y))) else none).bind fun v24 =>
                                                    some (AEnd.ret [B false], [])
                                                else some (AEnd.ret [B false], [])
                                              else (if 0 ≤ IntKind.i64.wrap (v12 * v14) ∧ IntKind.i64.wrap (v12 * v14) ≤ IntKind.i64.wrap (IntKind.i64.wrap (v12 * v14) + v14) ∧ IntKind.i64.wrap (IntKind.i64.wrap (v12 * v14) + v14) ≤ Int.ofNat (fMM v4.1 v4.2 v5.2 x y).length then some (List.drop (IntKind.i64.wrap (v12 * v14)).toNat (List.take (IntKind.i64.wrap (IntKind.i64.wrap (v12 * v14) + v14)).toNat (fMM v4.1 v4.2 v5.2 x y))) else none).bind fun v23 =>
                                                  bif decide (2 ≤ 9223372036854775807 ∧ (fMM 1 v13 v20.2 v19 y).length ≤ 9223372036854775807 ∧ t1 = 1 ∧ [1, v20.2] = [1, v14] ∧ fMM 1 v13 v20.2 v19 y = v23) then some (AEnd.ret [B true], [])
                                                  else none
                                            else none
                      else (idx xd 0).bind fun v11 =>
                          (if v11 = 0 then none else some (row.tmod v11)).bind fun v12 =>
                            (idx xd 1).bind fun v13 =>
                              (idx yd 1).bind fun v14 =>
                                (idx xd 0).bind fun v15 =>
                                  bif Int.ofNat (fMM v4.1 v4.2 v5.2 x y).length != IntKind.i64.wrap (v15 * v14) then some (AEnd.ret [B false], [])
                                  else (idx xd 0).bind fun v17 =>
                                      bif Int.ofNat x.length != IntKind.i64.wrap (v17 * v13) then some (AEnd.ret [B false], [])
                                      else (if 0 ≤ IntKind.i64.wrap (v12 * v13) ∧ IntKind.i64.wrap (v12 * v13) ≤ IntKind.i64.wrap (IntKind.i64.wrap (v12 * v13) + v13) ∧ IntKind.i64.wrap (IntKind.i64.wrap (v12 * v13) + v13) ≤ Int.ofNat x.length then some (List.drop (IntKind.i64.wrap (v12 * v13)).toNat (List.take (IntKind.i64.wrap (IntKind.i64.wrap (v12 * v13) + v13)).toNat x)) else none).bind fun v19 =>
                                          (two2 yd).bind fun v20 =>
                                            bif decide (v19.length ≤ 9223372036854775807 ∧ y.length ≤ 9223372036854775807) then 
                                              bif bgnE t1 1 v13 v19 t2 v20.1 v20.2 y != 0 then 
                                                bif bgnE t1 1 v13 v19 t2 v20.1 v20.2 y == 0 then (if 0 ≤ IntKind.i64.wrap (v12 * v14) ∧ IntKind.i64.wrap (v12 * v14) ≤ IntKind.i64.wrap (IntKind.i64.wrap (v12 * v14) + v14) ∧ IntKind.i64.wrap (IntKind.i64.wrap (v12 * v14) + v14) ≤ Int.ofNat (fMM v4.1 v4.2 v5.2 x y).length then some (List.drop (IntKind.i64.wrap (v12 * v14)).toNat (List.take (IntKind.i64.wrap (IntKind.i64.wrap (v12 * v14) + v14)).toNat (fMM v4.1 v4.2 v5.2 x y))) else none).bind fun v24 =>
                                                    some (AEnd.ret [B false], [])
                                                else some (AEnd.ret [B false], [])
                                              else (if 0 ≤ IntKind.i64.wrap (v12 * v14) ∧ IntKind.i64.wrap (v12 * v14) ≤ IntKind.i64.wrap (IntKind.i64.wrap (v12 * v14) + v14) ∧ IntKind.i64.wrap (IntKind.i64.wrap (v12 * v14) + v14) ≤ Int.ofNat (fMM v4.1 v4.2 v5.2 x y).length then some (List.drop (IntKind.i64.wrap (v12 * v14)).toNat (List.take (IntKind.i64.wrap (IntKind.i64.wrap (v12 * v14) + v14)).toNat (fMM v4.1 v4.2 v5.2 x y))) else none).bind fun v23 =>
                                                  bif decide (2 ≤ 9223372036854775807 ∧ (fMM 1 v13 v20.2 v19 y).length ≤ 9223372036854775807 ∧ t1 = 1 ∧ [1, v20.2] = [1, v14] ∧ fMM 1 v13 v20.2 v19 y = v23) then some (AEnd.ret [B true], [])
                                                  else none
                                            else none
              else none := by kernel_rfl
end Go.Proofs.XGT
/- The law LinearRows answers true, whatever the tensors and the row. -/
namespace Go.Proofs.XGT
open Go.Vm Go
set_option maxRecDepth 100000
set_option maxHeartbeats 1000000
theorem lrw_tail {t1 t2 : Int} {M K N : Nat} {x y : List Int} (h : Ok2 t1 t2 M K N x y) {i : Nat} (hi : i < M) : (bif Int.ofNat (fMM (M : Int) (K : Int) (N : Int) x y).length != IntKind.i64.wrap ((M : Int) * (N : Int)) then some (AEnd.ret [B false], [])
else (idx [(M : Int), (K : Int)] 0).bind fun v17 =>
    bif Int.ofNat x.length != IntKind.i64.wrap (v17 * (K : Int)) then some (AEnd.ret [B false], [])
    else (if 0 ≤ IntKind.i64.wrap ((i : Int) * (K : Int)) ∧ IntKind.i64.wrap ((i : Int) * (K : Int)) ≤ IntKind.i64.wrap (IntKind.i64.wrap ((i : Int) * (K : Int)) + (K : Int)) ∧ IntKind.i64.wrap (IntKind.i64.wrap ((i : Int) * (K : Int)) + (K : Int)) ≤ Int.ofNat x.length then some (List.drop (IntKind.i64.wrap ((i : Int) * (K : Int))).toNat (List.take (IntKind.i64.wrap (IntKind.i64.wrap ((i : Int) * (K : Int)) + (K : Int))).toNat x)) else none).bind fun v19 =>
        (two2 [(K : Int), (N : Int)]).bind fun v20 =>
          bif decide (v19.length ≤ 9223372036854775807 ∧ y.length ≤ 9223372036854775807) then 
            bif bgnE t1 1 (K : Int) v19 t2 v20.1 v20.2 y != 0 then 
              bif bgnE t1 1 (K : Int) v19 t2 v20.1 v20.2 y == 0 then (if 0 ≤ IntKind.i64.wrap ((i : Int) * (N : Int)) ∧ IntKind.i64.wrap ((i : Int) * (N : Int)) ≤ IntKind.i64.wrap (IntKind.i64.wrap ((i : Int) * (N : Int)) + (N : Int)) ∧ IntKind.i64.wrap (IntKind.i64.wrap ((i : Int) * (N : Int)) + (N : Int)) ≤ Int.ofNat (fMM (M : Int) (K : Int) (N : Int) x y).length then some (List.drop (IntKind.i64.wrap ((i : Int) * (N : Int))).toNat (List.take (IntKind.i64.wrap (IntKind.i64.wrap ((i : Int) * (N : Int)) + (N : Int))).toNat (fMM (M : Int) (K : Int) (N : Int) x y))) else none).bind fun v24 =>
                  some (AEnd.ret [B false], [])
              else some (AEnd.ret [B false], [])
            else (if 0 ≤ IntKind.i64.wrap ((i : Int) * (N : Int)) ∧ IntKind.i64.wrap ((i : Int) * (N : Int)) ≤ IntKind.i64.wrap (IntKind.i64.wrap ((i : Int) * (N : Int)) + (N : Int)) ∧ IntKind.i64.wrap (IntKind.i64.wrap ((i : Int) * (N : Int)) + (N : Int)) ≤ Int.ofNat (fMM (M : Int) (K : Int) (N : Int) x y).length then some (List.drop (IntKind.i64.wrap ((i : Int) * (N : Int))).toNat (List.take (IntKind.i64.wrap (IntKind.i64.wrap ((i : Int) * (N : Int)) + (N : Int))).toNat (fMM (M : Int) (K : Int) (N : Int) x y))) else none).bind fun v23 =>
                bif decide (2 ≤ 9223372036854775807 ∧ (fMM 1 (K : Int) v20.2 v19 y).length ≤ 9223372036854775807 ∧ t1 = 1 ∧ [1, v20.2] = [1, (N : Int)] ∧ fMM 1 (K : Int) v20.2 v19 y = v23) then some (AEnd.ret [B true], [])
                else none
          else none : Option (AEnd × LHp)) = some (.ret [B true], []) := by
  have b1 := row_le (C := K) hi
  have b2 := row_le (C := N) hi
  have hmk := h.hmk
  have hmn := h.hmn
  have hkn := h.hkn
  have lx := h.lx
  have ly := h.ly
  have hf : (fMM (M : Int) K N x y).length = M * N := by unfold fMM; rw [prodL_length]; simp only [Int.toNat_natCast]
  have w1 : IntKind.i64.wrap ((M : Int) * N) = ((M * N : Nat) : Int) := by rw [← Int.natCast_mul]; exact wrap64 (by omega) (by omega)
  have w2 : IntKind.i64.wrap ((M : Int) * K) = ((M * K : Nat) : Int) := by rw [← Int.natCast_mul]; exact wrap64 (by omega) (by omega)
  have w3 : IntKind.i64.wrap ((i : Int) * K) = ((i * K : Nat) : Int) := by rw [← Int.natCast_mul]; exact wrap64 (by omega) (by omega)
  have w4 : IntKind.i64.wrap ((i : Int) * N) = ((i * N : Nat) : Int) := by rw [← Int.natCast_mul]; exact wrap64 (by omega) (by omega)
  have w5 : IntKind.i64.wrap (((i * K : Nat) : Int) + K) = ((i * K + K : Nat) : Int) := by rw [← Int.natCast_add]; exact wrap64 (by omega) (by omega)
  have w6 : IntKind.i64.wrap (((i * N : Nat) : Int) + N) = ((i * N + N : Nat) : Int) := by rw [← Int.natCast_add]; exact wrap64 (by omega) (by omega)
  have d1 : List.drop (i * K) (List.take (i * K + K) x) = (x.drop (i * K)).take K := by rw [List.drop_take, Nat.add_sub_cancel_left]
  have d2 : List.drop (i * N) (List.take (i * N + N) (fMM (M : Int) K N x y)) = ((fMM (M : Int) K N x y).drop (i * N)).take N := by rw [List.drop_take, Nat.add_sub_cancel_left]
  have t2k : two2 [(K : Int), (N : Int)] = some ((K : Int), (N : Int)) := rfl
  have hr := fMM_row h hi
  have hl1 : ((x.drop (i * K)).take K).length = K := by rw [List.length_take, List.length_drop]; omega
  have hl2 : (((fMM (M : Int) K N x y).drop (i * N)).take N).length = N := by rw [List.length_take, List.length_drop, hf]; omega
  have hk : K ≤ K * N := Nat.le_mul_of_pos_right _ h.n1
  have hn : N ≤ M * N := Nat.le_mul_of_pos_left _ h.m1
  rw [w1, show idx [(M : Int), (K : Int)] 0 = some (M : Int) from rfl, Option.bind_some, w2, w3, w4, w5, w6, hf]
  have c1 : (Int.ofNat (M * N) != ((M * N : Nat) : Int)) = false := by rw [bne_eq_false_iff_eq]; rfl
  have c2 : (Int.ofNat x.length != ((M * K : Nat) : Int)) = false := by rw [bne_eq_false_iff_eq, lx]; rfl
  rw [c1, c2, cond_false, cond_false, if_pos ⟨by omega, by omega, by rw [lx]; simp only [Int.ofNat_eq_natCast]; omega⟩, Option.bind_some]
  simp only [Int.toNat_natCast, d1, d2, t2k, Option.bind_some, bgnE_mk h hi, bne_self_eq_false, cond_false]
  rw [if_pos ⟨by omega, by omega, by simp only [Int.ofNat_eq_natCast]; omega⟩]
  simp only [Option.bind_some, hr, hl1, hl2, decide_eq_true (show K ≤ 9223372036854775807 ∧ y.length ≤ 9223372036854775807 from ⟨by omega, by omega⟩), cond_true]
  rw [decide_eq_true ⟨by decide, by omega, h.e1, by trivial⟩]
  rfl
theorem lrw_true (t1 t2 row : Int) (xd x yd y : List Int) (hw : -9223372036854775808 ≤ row ∧ row ≤ 9223372036854775807) (h1 : x.length ≤ maxLen) (h2 : y.length ≤ maxLen) : runC gLr Tryz.f7 8 [] [.d (Y0) (t1, xd, x, ()), .d (Y0) (t2, yd, y, ()), I row] [] ah = some (.ret [B true], []) := by
  rw [lrw_eq]
  cases decide (Int.ofNat x.length > 600) with
  | true => rfl
  | false =>
    cases decide (Int.ofNat y.length > 600) with
    | true => rfl
    | false =>
      rw [cond_false, cond_false]
      by_cases hx : xd.length = 2
      · by_cases hy : yd.length = 2
        · obtain ⟨a, b, rfl⟩ := two2_len hx
          obtain ⟨c, d, rfl⟩ := two2_len hy
          have e1 : (Int.ofNat [a, b].length != 2) = false := rfl
          have e2 : (Int.ofNat [c, d].length != 2) = false := rfl
          have t2a : two2 [a, b] = some (a, b) := rfl
          have t2b : two2 [c, d] = some (c, d) := rfl
          have i0 : idx [a, b] 0 = some a := rfl
          have i1 : idx [a, b] 1 = some b := rfl
          have j1 : idx [c, d] 1 = some d := rfl
          rw [e1, e2, cond_false, cond_false, t2a, Option.bind_some, t2b, Option.bind_some, decide_eq_true (show x.length ≤ 9223372036854775807 ∧ y.length ≤ 9223372036854775807 from ⟨h1, h2⟩), cond_true]
          dsimp only
          cases hb : bgnE t1 a b x t2 c d y != 0 with
          | true =>
            rfl
          | false =>
            have h0 : bgnE t1 a b x t2 c d y = 0 := by simpa using hb
            obtain ⟨M, K, N, rfl, rfl, rfl, rfl, hok⟩ := ok2_of h0
            have hM := hok.m1
            rw [cond_false, i0, Option.bind_some, decide_eq_false (show ¬ ((M : Int) < 1) by omega), cond_false]
            have hmM : M ≤ 65536 := by have := Nat.le_mul_of_pos_right M hok.k1; have := hok.hmk; omega
            by_cases hr : row < 0
            · have w1 : IntKind.i64.wrap (row + 1) = row + 1 := wrap64 (by omega) (by omega)
              have w2 : IntKind.i64.wrap (0 - (row + 1)) = ((-(row + 1)).toNat : Int) := by rw [wrap64 (by omega) (by omega)]; omega
              rw [decide_eq_true hr, cond_true, Option.bind_some, if_neg (by omega), Option.bind_some, w1, w2, ← Int.ofNat_tmod, i1, Option.bind_some, j1, Option.bind_some, Option.bind_some]
              exact lrw_tail hok (Nat.mod_lt _ (by omega))
            · obtain ⟨r, rfl⟩ := Int.eq_ofNat_of_zero_le (show 0 ≤ row by omega)
              rw [decide_eq_false hr, cond_false, Option.bind_some, if_neg (by omega), Option.bind_some, ← Int.ofNat_tmod, i1, Option.bind_some, j1, Option.bind_some, Option.bind_some]
              exact lrw_tail hok (Nat.mod_lt _ (by omega))
        · have e1 : (Int.ofNat xd.length != 2) = false := by rw [hx]; rfl
          have e2 : (Int.ofNat yd.length != 2) = true := by rw [bne_iff_ne]; simp only [Int.ofNat_eq_natCast]; omega
          rw [e1, e2]
          rfl
      · have e1 : (Int.ofNat xd.length != 2) = true := by rw [bne_iff_ne]; simp only [Int.ofNat_eq_natCast]; omega
        rw [e1]
        rfl
theorem lrw_call (t1 : Int) (xd x : List Int) (_ : xd.length ≤ maxLen) (h1 : x.length ≤ maxLen) (t2 : Int) (yd y : List Int) (_ : yd.length ≤ maxLen) (h2 : y.length ≤ maxLen) (row : Int) (hv : (Lit.int .i64 row).wf = true) : FnH Tryz.prog (Env.gam e0) 7 [.d (Y0) (t1, xd, x, ()), .d (Y0) (t2, yd, y, ()), I row] (hget []) (fun ae h1 => ae = .ret [B true] ∧ h1 = hget []) :=
  runC_call gLr_good hmix Tryz.func7 Tryz.call7 (by decide +kernel) rfl (lrw_true t1 t2 row xd x yd y (by
    simp [Lit.wf, IntKind.min, IntKind.max, IntKind.signed, IntKind.bits] at hv
    omega) h1 h2)
end Go.Proofs.XGT
