/- SameTensor of a tensor that has just been made and one that came in, where they are the same; the anchor of layer 13. -/
import Derived.Test.YtbijfcooljoogaaGreatDoorKC4B
namespace Go.Proofs.XGT
open Go.Vm Go
set_option maxRecDepth 100000
set_option maxHeartbeats 4000000
/-- a loop that goes through a list -/
theorem all_lp {R S α : Type} {T : Nat → S → Option R} {xs : List α} {st : Int → S} {r : Option R} (hl : xs.length ≤ maxLen)
    (h : ∀ (i : Nat) (x : α), xs[i]? = some x → idx xs (i : Int) = some x → i < xs.length → ∀ n, T (n + 1) (st (i : Nat)) = T n (st (IntKind.i64.wrap ((i : Int) + 1)))) (he : ∀ n, T (n + 1) (st (Int.ofNat xs.length)) = r) : T fu (st 0) = r := by
  have hm : maxLen = 9223372036854775807 := by decide
  have hf : fu = 18446744073709551616 := rfl
  have := lp_to (T := T) (f := fun i : Nat => st (i : Int)) xs.length fu (by omega) (fun i hi n => by
    have hx : xs[i]? = some xs[i] := List.getElem?_eq_getElem hi
    rw [h i _ hx (idx_nat hx) hi n, wrap64 (by omega) (by omega)]
    rfl)
  refine Eq.trans this ?_
  obtain ⟨m', hm'⟩ : ∃ m', fu - xs.length = m' + 1 := ⟨fu - xs.length - 1, by omega⟩
  rw [hm']
  exact he m'
noncomputable def C_same : Code := codeOf Tryz.f33
noncomputable def cf_same : Cfg := ⟨26, 5, 1, [(4, [0, 1, 5])], true⟩
theorem same_eqH (hl : Hl) (xs : List Int) : runH g169 Tryz.f33 5 [(4, [0, 1, 5])] [4] hl [.os 0 0, .d (.slice i64T) xs] [(0, .arr 3 i64T 0 false xs)] ah =
  bif Int.ofNat xs.length != Int.ofNat xs.length then some (AEnd.ret [B false], [(0, AObj.arr 3 (i64T) 0 false xs)])
  else hl (cL (cL (cR (cL (cR (cR C_same)))))) _ { fr := mkFr 5 [(0, AV.os 0 0), (1, AV.d (i64T).slice xs), (5, I 0)], hp := [(0, AObj.arr 3 (i64T) 0 false xs)], nx := 2 } (blkK 0 (seqH g169 cf_same [4] hl (cR (cR (cR C_same))) (endC Tryz.prog 1 Tryz.f33.results.toList ah))) := by kernel_rfl
theorem same_eq (xs : List Int) : runC g169 Tryz.f33 5 [(4, [0, 1, 5])] [.os 0 0, .d (.slice i64T) xs] [(0, .arr 3 i64T 0 false xs)] ah =
  bif Int.ofNat xs.length != Int.ofNat xs.length then some (AEnd.ret [B false], [(0, AObj.arr 3 (i64T) 0 false xs)])
  else (hlp g169 cf_same) (cL (cL (cR (cL (cR (cR C_same)))))) _ { fr := mkFr 5 [(0, AV.os 0 0), (1, AV.d (i64T).slice xs), (5, I 0)], hp := [(0, AObj.arr 3 (i64T) 0 false xs)], nx := 2 } (blkK 0 (seqH g169 cf_same [4] (hlp g169 cf_same) (cR (cR (cR C_same))) (endC Tryz.prog 1 Tryz.f33.results.toList ah))) := runH_runC.trans (same_eqH (hlp g169 cf_same) xs)
def stS (xs : List Int) (i : Int) : LSt := ⟨mkFr 5 [(0, .os 0 0), (1, .d (.slice i64T) xs), (5, I i)], [(0, .arr 3 i64T 0 false xs)], 2⟩
theorem same_stepH (hl : Hl) (xs : List Int) (i : Int) (n : Nat) {R : Type} (k : AEx → LSt → Option R) : lpH g169 cf_same [4] hl (cL (cL (cR (cL (cR (cR C_same)))))) (n + 1) (stS xs i) k =
  bif decide (i < Int.ofNat xs.length) then (idx xs i).bind fun v1 =>
      (xs[i.toNat]?).bind fun v2 =>
        (idx xs i).bind fun v3 =>
          bif v2 != v3 then k AEx.ret { fr := mkFr 5 [(0, AV.os 0 0), (1, AV.d (i64T).slice xs), (4, B false), (5, I i), (11, I i), (12, AV.os 0 0), (13, I (Int.ofNat xs.length)), (14, B true), (17, AV.os 0 0), (18, I i), (19, AV.oe 0 0 i.toNat), (20, I v2), (21, AV.d (i64T).slice xs), (22, I i), (23, AV.ip (i64T) v3), (24, I v3), (25, B true)], hp := [(0, AObj.arr 3 (i64T) 0 false xs)], nx := 2 }
          else lpH g169 cf_same [4] hl (cL (cL (cR (cL (cR (cR C_same)))))) n { fr := mkFr 5 [(0, AV.os 0 0), (1, AV.d (i64T).slice xs), (5, I (IntKind.i64.wrap (i + 1)))], hp := [(0, AObj.arr 3 (i64T) 0 false xs)], nx := 2 } k
  else k (AEx.exit 0) { fr := mkFr 5 [(0, AV.os 0 0), (1, AV.d (i64T).slice xs), (5, I i), (11, I i), (12, AV.os 0 0), (13, I (Int.ofNat xs.length)), (14, B false)], hp := [(0, AObj.arr 3 (i64T) 0 false xs)], nx := 2 } := by kernel_rfl
theorem same_step (xs : List Int) (i : Int) (n : Nat) {R : Type} (k : AEx → LSt → Option R) : lp g169 cf_same (cL (cL (cR (cL (cR (cR C_same)))))) (n + 1) (stS xs i) k =
  bif decide (i < Int.ofNat xs.length) then (idx xs i).bind fun v1 =>
      (xs[i.toNat]?).bind fun v2 =>
        (idx xs i).bind fun v3 =>
          bif v2 != v3 then k AEx.ret { fr := mkFr 5 [(0, AV.os 0 0), (1, AV.d (i64T).slice xs), (4, B false), (5, I i), (11, I i), (12, AV.os 0 0), (13, I (Int.ofNat xs.length)), (14, B true), (17, AV.os 0 0), (18, I i), (19, AV.oe 0 0 i.toNat), (20, I v2), (21, AV.d (i64T).slice xs), (22, I i), (23, AV.ip (i64T) v3), (24, I v3), (25, B true)], hp := [(0, AObj.arr 3 (i64T) 0 false xs)], nx := 2 }
          else lp g169 cf_same (cL (cL (cR (cL (cR (cR C_same)))))) n { fr := mkFr 5 [(0, AV.os 0 0), (1, AV.d (i64T).slice xs), (5, I (IntKind.i64.wrap (i + 1)))], hp := [(0, AObj.arr 3 (i64T) 0 false xs)], nx := 2 } k
  else k (AEx.exit 0) { fr := mkFr 5 [(0, AV.os 0 0), (1, AV.d (i64T).slice xs), (5, I i), (11, I i), (12, AV.os 0 0), (13, I (Int.ofNat xs.length)), (14, B false)], hp := [(0, AObj.arr 3 (i64T) 0 false xs)], nx := 2 } := by
  have h := same_stepH (hlp g169 cf_same) xs i n k
  simp only [lpH_lp] at h
  exact h
noncomputable def SK0 : AEx → LSt → Option (AEnd × LHp) := (blkK 0 (seqH g169 cf_same [4] (hlp g169 cf_same) (cR (cR (cR C_same))) (endC Tryz.prog 1 Tryz.f33.results.toList ah)))
theorem same_lp (xs : List Int) : runC g169 Tryz.f33 5 [(4, [0, 1, 5])] [.os 0 0, .d (.slice i64T) xs] [(0, .arr 3 i64T 0 false xs)] ah = lp g169 cf_same (cL (cL (cR (cL (cR (cR C_same)))))) fu (stS xs 0) SK0 := (same_eq xs).trans (by rw [bne_self_eq_false, cond_false]; kernel_rfl)
theorem SK0_exit (xs : List Int) (i : Int) : SK0 (AEx.exit 0) { fr := mkFr 5 [(0, AV.os 0 0), (1, AV.d (.slice i64T) xs), (5, I i), (11, I i), (12, AV.os 0 0), (13, I (Int.ofNat xs.length)), (14, B false)], hp := [(0, AObj.arr 3 i64T 0 false xs)], nx := 2 } = some (.ret [B true], [(0, .arr 3 i64T 0 false xs)]) := by kernel_rfl
theorem same_run (xs : List Int) (hl : xs.length ≤ maxLen) : runC g169 Tryz.f33 5 [(4, [0, 1, 5])] [.os 0 0, .d (.slice i64T) xs] [(0, .arr 3 i64T 0 false xs)] ah = some (.ret [B true], [(0, .arr 3 i64T 0 false xs)]) := by
  rw [same_lp]
  exact all_lp (T := fun n s => lp g169 cf_same (cL (cL (cR (cL (cR (cR C_same)))))) n s SK0) (xs := xs) (st := stS xs) (r := some (.ret [B true], [(0, .arr 3 i64T 0 false xs)])) hl (fun i x hx hi hlt n => by
    rw [same_step, decide_eq_true (show (i : Int) < Int.ofNat xs.length from Int.ofNat_lt.2 hlt), hi, show xs[(i : Int).toNat]? = some x from hx]
    simp only [cond_true, Option.bind_some, bne_self_eq_false, cond_false]
    rfl) (fun n => by
    rw [same_step, decide_eq_false (show ¬ (Int.ofNat xs.length < Int.ofNat xs.length) from Int.lt_irrefl _)]
    exact SK0_exit _ _)
def sameF : List AV → LHp → Tq
  | [.os 0 0, .d (.slice (.int .i64)) ys], [(0, .arr 3 (.int .i64) 0 false xs)] => .br (decide (xs.length ≤ maxLen ∧ xs = ys)) (.leaf (.ret [B true]) [(0, .arr 3 i64T 0 false xs)]) .no
  | _, _ => .no
theorem sameE_ok : FnE.OK e0.P e0.gam 33 (treeE sameF) := by
  have h1 : FnE.OK e0.P e0.gam 33 (execFnC g169 Tryz.f33 5 [(4, [0, 1, 5])]) := y33_ok
  refine ⟨fun _ _ _ => Tq.eq _ _, fun args hs ae hs' h => ?_⟩
  have h' : (sameF args hs).run ah = some (ae, hs') := h
  clear h
  unfold sameF at h'
  split at h'
  · obtain ⟨hb, h2⟩ := Tq.br_no h'
    clear h'
    obtain ⟨hl, he⟩ := of_decide_eq_true hb
    subst he
    cases h2
    exact h1.okC (same_run _ hl)
  · cases h'
noncomputable def gS : Env := g170.add 33 (treeE sameF)
theorem gS_good : gS.Good := g170_good.add sameE_ok
noncomputable def C_samt : Code := codeOf Tryz.f18
noncomputable def cf_samt : Cfg := ⟨46, 6, 2, [(4, [2, 3, 5])], true⟩
def hpST (xd dt : List Int) : LHp := [(0, .arr 2 i64T 0 false dt), (1, .arr 3 i64T 0 false xd)]
def tenA (t : Int) : AV := .pr (I t) (.pr (.os 1 0) (.pr (.os 0 0) (.d .unit ())))
theorem samt_eqH (hl : Hl) (t : Int) (xd dt : List Int) : runH gS Tryz.f18 6 [(4, [2, 3, 5])] [4] hl [tenA t, .d (Y0) (t, xd, dt, ())] (hpST xd dt) ah =
  bif t != t then some (AEnd.ret [B false], [(0, AObj.arr 2 (i64T) 0 false dt), (1, AObj.arr 3 (i64T) 0 false xd)])
  else 
    bif decide (xd.length ≤ 9223372036854775807 ∧ xd = xd) then 
      bif Int.ofNat dt.length != Int.ofNat dt.length then some (AEnd.ret [B false], [(0, AObj.arr 2 (i64T) 0 false dt), (1, AObj.arr 3 (i64T) 0 false xd)])
      else hl (cL (cL (cR (cL (cR (cR C_samt)))))) _ { fr := mkFr 6 [(2, AV.op 2 [] 0), (3, AV.op 3 [] 0), (5, I 0)], hp := [(0, AObj.arr 2 (i64T) 0 false dt), (1, AObj.arr 3 (i64T) 0 false xd), (2, AObj.box ((I t).pr ((AV.os 1 0).pr ((AV.os 0 0).pr (AV.d Ty.unit PUnit.unit))))), (3, AObj.box (AV.d ((i64T).pair ((i64T).slice.pair ((i64T).slice.pair Ty.unit))) (t, xd, dt, PUnit.unit)))], nx := 6 } (blkK 0 (seqH gS cf_samt [4] hl (cR (cR (cR C_samt))) (endC Tryz.prog 2 Tryz.f18.results.toList ah)))
    else none := by kernel_rfl
theorem samt_eq (t : Int) (xd dt : List Int) : runC gS Tryz.f18 6 [(4, [2, 3, 5])] [tenA t, .d (Y0) (t, xd, dt, ())] (hpST xd dt) ah =
  bif t != t then some (AEnd.ret [B false], [(0, AObj.arr 2 (i64T) 0 false dt), (1, AObj.arr 3 (i64T) 0 false xd)])
  else 
    bif decide (xd.length ≤ 9223372036854775807 ∧ xd = xd) then 
      bif Int.ofNat dt.length != Int.ofNat dt.length then some (AEnd.ret [B false], [(0, AObj.arr 2 (i64T) 0 false dt), (1, AObj.arr 3 (i64T) 0 false xd)])
      else (hlp gS cf_samt) (cL (cL (cR (cL (cR (cR C_samt)))))) _ { fr := mkFr 6 [(2, AV.op 2 [] 0), (3, AV.op 3 [] 0), (5, I 0)], hp := [(0, AObj.arr 2 (i64T) 0 false dt), (1, AObj.arr 3 (i64T) 0 false xd), (2, AObj.box ((I t).pr ((AV.os 1 0).pr ((AV.os 0 0).pr (AV.d Ty.unit PUnit.unit))))), (3, AObj.box (AV.d ((i64T).pair ((i64T).slice.pair ((i64T).slice.pair Ty.unit))) (t, xd, dt, PUnit.unit)))], nx := 6 } (blkK 0 (seqH gS cf_samt [4] (hlp gS cf_samt) (cR (cR (cR C_samt))) (endC Tryz.prog 2 Tryz.f18.results.toList ah)))
    else none := runH_runC.trans (samt_eqH (hlp gS cf_samt) t xd dt)
def stT (t : Int) (xd dt : List Int) (i : Int) : LSt := ⟨mkFr 6 [(2, .op 2 [] 0), (3, .op 3 [] 0), (5, I i)], hpST xd dt ++ [(2, .box (tenA t)), (3, .box (.d (Y0) (t, xd, dt, ())))], 6⟩
theorem samt_stepH (hl : Hl) (t : Int) (xd dt : List Int) (i : Int) (n : Nat) {R : Type} (k : AEx → LSt → Option R) : lpH gS cf_samt [4] hl (cL (cL (cR (cL (cR (cR C_samt)))))) (n + 1) (stT t xd dt i) k =
  bif decide (i < Int.ofNat dt.length) then (idx dt i).bind fun v1 =>
      (dt[i.toNat]?).bind fun v2 =>
        (idx dt i).bind fun v3 =>
          bif v2 != v3 then k AEx.ret { fr := mkFr 6 [(2, AV.op 2 [] 0), (3, AV.op 3 [] 0), (4, B false), (5, I i), (28, I i), (29, AV.op 2 [2] 2), (30, AV.os 0 0), (31, I (Int.ofNat dt.length)), (32, B true), (35, AV.op 2 [2] 2), (36, AV.os 0 0), (37, I i), (38, AV.oe 0 0 i.toNat), (39, I v2), (40, AV.op 3 [2] 2), (41, AV.d (i64T).slice dt), (42, I i), (43, AV.ip (i64T) v3), (44, I v3), (45, B true)], hp := [(0, AObj.arr 2 (i64T) 0 false dt), (1, AObj.arr 3 (i64T) 0 false xd), (2, AObj.box ((I t).pr ((AV.os 1 0).pr ((AV.os 0 0).pr (AV.d Ty.unit PUnit.unit))))), (3, AObj.box (AV.d ((i64T).pair ((i64T).slice.pair ((i64T).slice.pair Ty.unit))) (t, xd, dt, PUnit.unit)))], nx := 6 }
          else lpH gS cf_samt [4] hl (cL (cL (cR (cL (cR (cR C_samt)))))) n { fr := mkFr 6 [(2, AV.op 2 [] 0), (3, AV.op 3 [] 0), (5, I (IntKind.i64.wrap (i + 1)))], hp := [(0, AObj.arr 2 (i64T) 0 false dt), (1, AObj.arr 3 (i64T) 0 false xd), (2, AObj.box ((I t).pr ((AV.os 1 0).pr ((AV.os 0 0).pr (AV.d Ty.unit PUnit.unit))))), (3, AObj.box (AV.d ((i64T).pair ((i64T).slice.pair ((i64T).slice.pair Ty.unit))) (t, xd, dt, PUnit.unit)))], nx := 6 } k
  else k (AEx.exit 0) { fr := mkFr 6 [(2, AV.op 2 [] 0), (3, AV.op 3 [] 0), (5, I i), (28, I i), (29, AV.op 2 [2] 2), (30, AV.os 0 0), (31, I (Int.ofNat dt.length)), (32, B false)], hp := [(0, AObj.arr 2 (i64T) 0 false dt), (1, AObj.arr 3 (i64T) 0 false xd), (2, AObj.box ((I t).pr ((AV.os 1 0).pr ((AV.os 0 0).pr (AV.d Ty.unit PUnit.unit))))), (3, AObj.box (AV.d ((i64T).pair ((i64T).slice.pair ((i64T).slice.pair Ty.unit))) (t, xd, dt, PUnit.unit)))], nx := 6 } := by kernel_rfl
theorem samt_step (t : Int) (xd dt : List Int) (i : Int) (n : Nat) {R : Type} (k : AEx → LSt → Option R) : lp gS cf_samt (cL (cL (cR (cL (cR (cR C_samt)))))) (n + 1) (stT t xd dt i) k =
  bif decide (i < Int.ofNat dt.length) then (idx dt i).bind fun v1 =>
      (dt[i.toNat]?).bind fun v2 =>
        (idx dt i).bind fun v3 =>
          bif v2 != v3 then k AEx.ret { fr := mkFr 6 [(2, AV.op 2 [] 0), (3, AV.op 3 [] 0), (4, B false), (5, I i), (28, I i), (29, AV.op 2 [2] 2), (30, AV.os 0 0), (31, I (Int.ofNat dt.length)), (32, B true), (35, AV.op 2 [2] 2), (36, AV.os 0 0), (37, I i), (38, AV.oe 0 0 i.toNat), (39, I v2), (40, AV.op 3 [2] 2), (41, AV.d (i64T).slice dt), (42, I i), (43, AV.ip (i64T) v3), (44, I v3), (45, B true)], hp := [(0, AObj.arr 2 (i64T) 0 false dt), (1, AObj.arr 3 (i64T) 0 false xd), (2, AObj.box ((I t).pr ((AV.os 1 0).pr ((AV.os 0 0).pr (AV.d Ty.unit PUnit.unit))))), (3, AObj.box (AV.d ((i64T).pair ((i64T).slice.pair ((i64T).slice.pair Ty.unit))) (t, xd, dt, PUnit.unit)))], nx := 6 }
          else lp gS cf_samt (cL (cL (cR (cL (cR (cR C_samt)))))) n { fr := mkFr 6 [(2, AV.op 2 [] 0), (3, AV.op 3 [] 0), (5, I (IntKind.i64.wrap (i + 1)))], hp := [(0, AObj.arr 2 (i64T) 0 false dt), (1, AObj.arr 3 (i64T) 0 false xd), (2, AObj.box ((I t).pr ((AV.os 1 0).pr ((AV.os 0 0).pr (AV.d Ty.unit PUnit.unit))))), (3, AObj.box (AV.d ((i64T).pair ((i64T).slice.pair ((i64T).slice.pair Ty.unit))) (t, xd, dt, PUnit.unit)))], nx := 6 } k
  else k (AEx.exit 0) { fr := mkFr 6 [(2, AV.op 2 [] 0), (3, AV.op 3 [] 0), (5, I i), (28, I i), (29, AV.op 2 [2] 2), (30, AV.os 0 0), (31, I (Int.ofNat dt.length)), (32, B false)], hp := [(0, AObj.arr 2 (i64T) 0 false dt), (1, AObj.arr 3 (i64T) 0 false xd), (2, AObj.box ((I t).pr ((AV.os 1 0).pr ((AV.os 0 0).pr (AV.d Ty.unit PUnit.unit))))), (3, AObj.box (AV.d ((i64T).pair ((i64T).slice.pair ((i64T).slice.pair Ty.unit))) (t, xd, dt, PUnit.unit)))], nx := 6 } := by
  have h := samt_stepH (hlp gS cf_samt) t xd dt i n k
  simp only [lpH_lp] at h
  exact h
noncomputable def TK0 : AEx → LSt → Option (AEnd × LHp) := (blkK 0 (seqH gS cf_samt [4] (hlp gS cf_samt) (cR (cR (cR C_samt))) (endC Tryz.prog 2 Tryz.f18.results.toList ah)))
theorem samt_lp (t : Int) (xd dt : List Int) (hl : xd.length ≤ maxLen) : runC gS Tryz.f18 6 [(4, [2, 3, 5])] [tenA t, .d (Y0) (t, xd, dt, ())] (hpST xd dt) ah = lp gS cf_samt (cL (cL (cR (cL (cR (cR C_samt)))))) fu (stT t xd dt 0) TK0 := (samt_eq t xd dt).trans (by rw [bne_self_eq_false, bne_self_eq_false, decide_eq_true (show xd.length ≤ 9223372036854775807 ∧ xd = xd from ⟨hl, rfl⟩), cond_false, cond_false, cond_true]; kernel_rfl)
theorem TK0_exit (t : Int) (xd dt : List Int) (i : Int) : TK0 (AEx.exit 0) { fr := mkFr 6 [(2, AV.op 2 [] 0), (3, AV.op 3 [] 0), (5, I i), (28, I i), (29, AV.op 2 [2] 2), (30, AV.os 0 0), (31, I (Int.ofNat dt.length)), (32, B false)], hp := hpST xd dt ++ [(2, .box (tenA t)), (3, .box (.d (Y0) (t, xd, dt, ())))], nx := 6 } = some (.ret [B true], hpST xd dt) := by kernel_rfl
theorem samt_run (t : Int) (xd dt : List Int) (h1 : xd.length ≤ maxLen) (h2 : dt.length ≤ maxLen) : runC gS Tryz.f18 6 [(4, [2, 3, 5])] [tenA t, .d (Y0) (t, xd, dt, ())] (hpST xd dt) ah = some (.ret [B true], hpST xd dt) := by
  rw [samt_lp t xd dt h1]
  exact all_lp (T := fun n s => lp gS cf_samt (cL (cL (cR (cL (cR (cR C_samt)))))) n s TK0) (xs := dt) (st := stT t xd dt) (r := some (.ret [B true], hpST xd dt)) h2 (fun i x hx hi hlt n => by
    rw [samt_step, decide_eq_true (show (i : Int) < Int.ofNat dt.length from Int.ofNat_lt.2 hlt), hi, show dt[(i : Int).toNat]? = some x from hx]
    simp only [cond_true, Option.bind_some, bne_self_eq_false, cond_false]
    rfl) (fun n => by
    rw [samt_step, decide_eq_false (show ¬ (Int.ofNat dt.length < Int.ofNat dt.length) from Int.lt_irrefl _)]
    exact TK0_exit _ _ _ _)
def samtF : List AV → LHp → Tq
  | [.pr (.d (.int .i64) t) (.pr (.os 1 0) (.pr (.os 0 0) (.d .unit ()))), .d ((.pair (.int .i64) (.pair (.slice (.int .i64)) (.pair (.slice (.int .i64)) .unit)))) (t2, xd2, dt2, ())], [(0, .arr 2 (.int .i64) 0 false dt), (1, .arr 3 (.int .i64) 0 false xd)] =>
    .br (decide (xd.length ≤ maxLen ∧ dt.length ≤ maxLen ∧ t = t2 ∧ xd = xd2 ∧ dt = dt2)) (.leaf (.ret [B true]) (hpST xd dt)) .no
  | _, _ => .no
theorem samtE_ok : FnE.OK e0.P e0.gam 18 (treeE samtF) := by
  have h1 : FnE.OK e0.P e0.gam 18 (execFnC gS Tryz.f18 6 [(4, [2, 3, 5])]) := execFnC_ok gS_good hmix Tryz.func18 Tryz.call18 (by decide +kernel) rfl
  refine ⟨fun _ _ _ => Tq.eq _ _, fun args hs ae hs' h => ?_⟩
  have h' : (samtF args hs).run ah = some (ae, hs') := h
  clear h
  unfold samtF at h'
  split at h'
  · obtain ⟨hb, h2⟩ := Tq.br_no h'
    clear h'
    obtain ⟨hl, hl2, he1, he2, he3⟩ := of_decide_eq_true hb
    subst he1 he2 he3
    cases h2
    exact h1.okC (samt_run _ _ _ hl hl2)
  · cases h'

/-! ### the pool -/
def poolF : List AV → LHp → Tq
  | [n, .d ((.pair (.int .i64) (.pair (.slice (.int .i64)) (.pair (.slice (.int .i64)) .unit)))) (t, xd, dt, ()), .d ((.pair (.int .i64) (.pair (.int .i64) (.pair (.int .i64) (.pair (.int .i64) (.pair (.arr 2 (.int .i64)) (.pair (.arr 2 (.int .i64)) (.pair (.int .i64) (.pair (.int .i64) (.pair (.int .i64) (.pair (.int .i64) .unit))))))))))) (h, w, kh, kw, ss, ds', top, left, pl, pe, ()), .os 0 0], [(0, .arr 3 (.int .i64) 0 false ds), (1, .arr 37 ((.pair .str (.pair (.int .i64) (.pair (.int .i64) (.pair (.int .i64) (.pair .str (.pair (.pair (.int .i64) (.pair (.slice (.int .i64)) (.pair (.slice (.int .i64)) .unit))) (.pair (.slice (.int .i64)) .unit)))))))) 0 true ats), (2, .arr 9 .str 0 false ins)] =>
    (match nodeP n with
    | some (op, nm, out, .os 2 0, .os 1 0) => .br (decide (op = strMP) && decide (nm = []) && decide (out = [122]) && decide (ins = [[120]]) && decide (kh = 1) && decide (kw = 1) && decide (ss = [1, 1]) && decide (ds' = [1, 1]) && decide (top = 0) && decide (left = 0))
        (.opt (oneAttr strKS ats) fun l => .br (decide (l = [1, 1]) && decide (1 ≤ h ∧ 1 ≤ w ∧ 1 ≤ pl ∧ pe = h * w ∧ (dt.length : Int) = pl * (h * w) ∧ pl * (h * w) ≤ 65536 ∧ ds[2]? = some h ∧ ds[3]? = some w)) (.leaf (.ret [.os 3 0]) (hpP ds [kattr [1, 1]] [[120]] ++ [(3, .arr 2 i64T 0 false dt)])) .no) .no
    | _ => .no)
  | _, _ => .no
theorem bif_none {α : Type} {c : Bool} {x : Option α} {r : α} (h : (bif c then x else none) = some r) : c = true ∧ x = some r := by
  cases c with
  | true => exact ⟨rfl, h⟩
  | false => cases h
theorem poolE_ok : FnE.OK e0.P e0.gam 31 (treeE poolF) := by
  have h1 : FnE.OK e0.P e0.gam 31 (execFnC g166 Tryz.f31 6 [(3, [3, 4, 5, 6, 9, 15, 16]), (7, [3, 4, 5, 6, 9, 11, 15, 16, 31, 32]), (10, [3, 4, 5, 6, 9, 11, 12, 15, 16, 31, 32, 37, 38])]) := y31_ok
  refine ⟨fun _ _ _ => Tq.eq _ _, fun args hs ae hs' h => ?_⟩
  have h' : (poolF args hs).run ah = some (ae, hs') := h
  clear h
  unfold poolF at h'
  split at h'
  · split at h'
    · rename_i hn
      rw [nodeP_some hn]
      obtain ⟨hb, h2⟩ := Tq.br_no h'
      clear h'
      simp only [Bool.and_eq_true, decide_eq_true_eq] at hb
      obtain ⟨⟨⟨⟨⟨⟨⟨⟨⟨b1, b2⟩, b3⟩, b4⟩, b5⟩, b6⟩, b7⟩, b8⟩, b9⟩, b10⟩ := hb
      subst b1 b2 b3 b4 b5 b6 b7 b8 b9 b10
      simp only [Tq.run] at h2
      obtain ⟨l, hl, h3⟩ := bind_some h2
      clear h2
      rw [oneAttr_some hl]
      obtain ⟨hb, h4⟩ := bif_none h3
      clear h3
      simp only [Bool.and_eq_true, decide_eq_true_eq] at hb
      obtain ⟨rfl, c1, c2, c3, c4, c5, c6, c7, c8⟩ := hb
      cases h4
      obtain ⟨H, rfl⟩ := Int.eq_ofNat_of_zero_le (Int.le_trans (show (0 : Int) ≤ 1 by decide) c1)
      obtain ⟨W, rfl⟩ := Int.eq_ofNat_of_zero_le (Int.le_trans (show (0 : Int) ≤ 1 by decide) c2)
      obtain ⟨P, rfl⟩ := Int.eq_ofNat_of_zero_le (Int.le_trans (show (0 : Int) ≤ 1 by decide) c3)
      have d1 : (1 : Int) ≤ (H : Int) := c1
      have d2 : (1 : Int) ≤ (W : Int) := c2
      have d3 : (1 : Int) ≤ (P : Int) := c3
      have d5 := Int.ofNat.inj (show Int.ofNat _ = Int.ofNat (P * (H * W)) from c5.trans (show (P : Int) * ((H : Int) * W) = Int.ofNat (P * (H * W)) by rw [← Int.natCast_mul, ← Int.natCast_mul]; rfl))
      have d6 : P * (H * W) ≤ 65536 := by
        have := Int.le_trans (Int.le_of_eq (show ((P * (H * W) : Nat) : Int) = (P : Int) * ((H : Int) * W) by rw [Int.natCast_mul, Int.natCast_mul])) c6
        omega
      clear c1 c2 c3 c5 c6
      exact h1.okC (pool_run (H := H) (W := W) (P := P) rfl rfl rfl (by rw [c4, Int.natCast_mul]) (by omega) (by omega) (by omega) d5 d6 c7 c8)
    · cases h'
  · cases h'
end Go.Proofs.XGT
