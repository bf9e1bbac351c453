/- the anchor of layer 10: its answer. -/
import Derived.Test.YtbijfcooljoogaaGreatDoorGT
import Derived.Test.YtbijfcooljoogaaGreatDoorGUn
import Derived.Test.YtbijfcooljoogaaGreatDoorN2

namespace Go.Proofs.XGT
open Go.Vm Go
set_option maxRecDepth 100000
set_option maxHeartbeats 4000000
noncomputable def C_livt : Code := codeOf Tryz.f25
noncomputable def cf_livt : Cfg := ⟨44, 6, 0, [], true⟩
theorem livt_run : runC e228 Tryz.f25 6 [] [] [] ah = some (.ret [B true], []) := by kernel_rfl
def livtF : List AV → LHp → Option (AEnd × LHp)
  | [], [] => some (.ret [B true], [])
  | _, _ => none
theorem livtE_ok : FnE.OK e0.P e0.gam 25 (fnE livtF) := by
  have h1 : FnE.OK e0.P e0.gam 25 (execFnC e228 Tryz.f25 6 []) := x25_ok
  refine ⟨fun args hs k => ?_, fun args hs ae hs' h => ?_⟩
  · simp only [fnE]
    cases livtF args hs <;> rfl
  · have h' : (livtF args hs).bind (fun p => ah p.1 p.2) = some (ae, hs') := h
    unfold livtF at h'
    split at h'
    · cases h'
      exact h1.okC livt_run
    · cases h'
end Go.Proofs.XGT
/- SameTensor of a tensor that has just been made and one that came in, where they are the same; the anchor of layer 13. -/
namespace Go.Proofs.XGT
open Go.Vm Go
set_option maxRecDepth 100000
set_option maxHeartbeats 4000000
theorem idx_nat {α : Type} {xs : List α} {i : Nat} {x : α} (h : xs[i]? = some x) : idx xs (i : Int) = some x := by
  unfold idx
  rw [if_pos (by omega), Int.toNat_natCast, h]
theorem all_lp {R S α : Type} {T : Nat → S → Option R} {xs : List α} {st : Int → S} {r : Option R} (hl : xs.length ≤ maxLen)
    (h : ∀ (i : Nat) (x : α), xs[i]? = some x → idx xs (i : Int) = some x → i < xs.length → ∀ n, T (n + 1) (st (i : Nat)) = T n (st (IntKind.i64.wrap ((i : Int) + 1)))) (he : ∀ n, T (n + 1) (st (Int.ofNat xs.length)) = r) : T fu (st 0) = r := by
  have hm : maxLen = 9223372036854775807 := by decide
  have hf : fu = 18446744073709551616 := rfl
  have := lp_to (T := T) (f := fun i : Nat => st (i : Int)) xs.length fu (by omega) (fun i hi n => by
    have hx : xs[i]? = some xs[i] := List.getElem?_eq_getElem hi
    rw [h i _ hx (idx_nat hx) hi n, wrap64 (by omega) (by omega)]
    rfl)
  refine Eq.trans this ?_
  obtain ⟨m', hm'⟩ : ∃ m', fu - xs.length = m' + 1 := ⟨fu - xs.length - 1, by omega⟩
  rw [hm']
  exact he m'
noncomputable def C_same : Code := codeOf Tryz.f33
noncomputable def cf_same : Cfg := ⟨26, 5, 1, [(4, [0, 1, 5])], true⟩
theorem same_eqH (hl : Hl) (xs : List Int) : runH g169 Tryz.f33 5 [(4, [0, 1, 5])] [4] hl [.os 0 0, .d (.slice i64T) xs] [(0, .arr 3 i64T 0 false xs)] ah =
  bif Int.ofNat xs.length != Int.ofNat xs.length then some (AEnd.ret [B false], [(0, AObj.arr 3 (i64T) 0 false xs)])
  else hl (cL (cL (cR (cL (cR (cR C_same)))))) _ { fr := mkFr 5 [(0, AV.os 0 0), (1, AV.d (i64T).slice xs), (5, I 0)], hp := [(0, AObj.arr 3 (i64T) 0 false xs)], nx := 2 } (blkK 0 (seqH g169 cf_same [4] hl (cR (cR (cR C_same))) (endC Tryz.prog 1 Tryz.f33.results.toList ah))) := by kernel_rfl
theorem same_eq (xs : List Int) : runC g169 Tryz.f33 5 [(4, [0, 1, 5])] [.os 0 0, .d (.slice i64T) xs] [(0, .arr 3 i64T 0 false xs)] ah =
  bif Int.ofNat xs.length != Int.ofNat xs.length then some (AEnd.ret [B false], [(0, AObj.arr 3 (i64T) 0 false xs)])
  else (hlp g169 cf_same) (cL (cL (cR (cL (cR (cR C_same)))))) _ { fr := mkFr 5 [(0, AV.os 0 0), (1, AV.d (i64T).slice xs), (5, I 0)], hp := [(0, AObj.arr 3 (i64T) 0 false xs)], nx := 2 } (blkK 0 (seqH g169 cf_same [4] (hlp g169 cf_same) (cR (cR (cR C_same))) (endC Tryz.prog 1 Tryz.f33.results.toList ah))) := runH_runC.trans (same_eqH (hlp g169 cf_same) xs)
def stS (xs : List Int) (i : Int) : LSt := ⟨mkFr 5 [(0, .os 0 0), (1, .d (.slice i64T) xs), (5, I i)], [(0, .arr 3 i64T 0 false xs)], 2⟩
theorem same_stepH (hl : Hl) (xs : List Int) (i : Int) (n : Nat) {R : Type} (k : AEx → LSt → Option R) : lpH g169 cf_same [4] hl (cL (cL (cR (cL (cR (cR C_same)))))) (n + 1) (stS xs i) k =
  bif decide (i < Int.ofNat xs.length) then (idx xs i).bind fun v1 =>
      (xs[i.toNat]?).bind fun v2 =>
        (idx xs i).bind fun v3 =>
          bif v2 != v3 then k AEx.ret { fr := mkFr 5 [(0, AV.os 0 0), (1, AV.d (i64T).slice xs), (4, B false), (5, I i), (11, I i), (12, AV.os 0 0), (13, I (Int.ofNat xs.length)), (14, B true), (17, AV.os 0 0), (18, I i), (19, AV.oe 0 0 i.toNat), (20, I v2), (21, AV.d (i64T).slice xs), (22, I i), (23, AV.ip (i64T) v3), (24, I v3), (25, B true)], hp := [(0, AObj.arr 3 (i64T) 0 false xs)], nx := 2 }
          else lpH g169 cf_same [4] hl (cL (cL (cR (cL (cR (cR C_same)))))) n { fr := mkFr 5 [(0, AV.os 0 0), (1, AV.d (i64T).slice xs), (5, I (IntKind.i64.wrap (i + 1)))], hp := [(0, AObj.arr 3 (i64T) 0 false xs)], nx := 2 } k
  else k (AEx.exit 0) { fr := mkFr 5 [(0, AV.os 0 0), (1, AV.d (i64T).slice xs), (5, I i), (11, I i), (12, AV.os 0 0), (13, I (Int.ofNat xs.length)), (14, B false)], hp := [(0, AObj.arr 3 (i64T) 0 false xs)], nx := 2 } := by kernel_rfl
theorem same_step (xs : List Int) (i : Int) (n : Nat) {R : Type} (k : AEx → LSt → Option R) : lp g169 cf_same (cL (cL (cR (cL (cR (cR C_same)))))) (n + 1) (stS xs i) k =
  bif decide (i < Int.ofNat xs.length) then (idx xs i).bind fun v1 =>
      (xs[i.toNat]?).bind fun v2 =>
        (idx xs i).bind fun v3 =>
          bif v2 != v3 then k AEx.ret { fr := mkFr 5 [(0, AV.os 0 0), (1, AV.d (i64T).slice xs), (4, B false), (5, I i), (11, I i), (12, AV.os 0 0), (13, I (Int.ofNat xs.length)), (14, B true), (17, AV.os 0 0), (18, I i), (19, AV.oe 0 0 i.toNat), (20, I v2), (21, AV.d (i64T).slice xs), (22, I i), (23, AV.ip (i64T) v3), (24, I v3), (25, B true)], hp := [(0, AObj.arr 3 (i64T) 0 false xs)], nx := 2 }
          else lp g169 cf_same (cL (cL (cR (cL (cR (cR C_same)))))) n { fr := mkFr 5 [(0, AV.os 0 0), (1, AV.d (i64T).slice xs), (5, I (IntKind.i64.wrap (i + 1)))], hp := [(0, AObj.arr 3 (i64T) 0 false xs)], nx := 2 } k
  else k (AEx.exit 0) { fr := mkFr 5 [(0, AV.os 0 0), (1, AV.d (i64T).slice xs), (5, I i), (11, I i), (12, AV.os 0 0), (13, I (Int.ofNat xs.length)), (14, B false)], hp := [(0, AObj.arr 3 (i64T) 0 false xs)], nx := 2 } := by
  have h := same_stepH (hlp g169 cf_same) xs i n k
  simp only [lpH_lp] at h
  exact h
noncomputable def SK0 : AEx → LSt → Option (AEnd × LHp) := (blkK 0 (seqH g169 cf_same [4] (hlp g169 cf_same) (cR (cR (cR C_same))) (endC Tryz.prog 1 Tryz.f33.results.toList ah)))
theorem same_lp (xs : List Int) : runC g169 Tryz.f33 5 [(4, [0, 1, 5])] [.os 0 0, .d (.slice i64T) xs] [(0, .arr 3 i64T 0 false xs)] ah = lp g169 cf_same (cL (cL (cR (cL (cR (cR C_same)))))) fu (stS xs 0) SK0 := (same_eq xs).trans (by rw [bne_self_eq_false, cond_false]; kernel_rfl)
theorem SK0_exit (xs : List Int) (i : Int) : SK0 (AEx.exit 0) { fr := mkFr 5 [(0, AV.os 0 0), (1, AV.d (.slice i64T) xs), (5, I i), (11, I i), (12, AV.os 0 0), (13, I (Int.ofNat xs.length)), (14, B false)], hp := [(0, AObj.arr 3 i64T 0 false xs)], nx := 2 } = some (.ret [B true], [(0, .arr 3 i64T 0 false xs)]) := by kernel_rfl
theorem same_run (xs : List Int) (hl : xs.length ≤ maxLen) : runC g169 Tryz.f33 5 [(4, [0, 1, 5])] [.os 0 0, .d (.slice i64T) xs] [(0, .arr 3 i64T 0 false xs)] ah = some (.ret [B true], [(0, .arr 3 i64T 0 false xs)]) := by
  rw [same_lp]
  exact all_lp (T := fun n s => lp g169 cf_same (cL (cL (cR (cL (cR (cR C_same)))))) n s SK0) (xs := xs) (st := stS xs) (r := some (.ret [B true], [(0, .arr 3 i64T 0 false xs)])) hl (fun i x hx hi hlt n => by
    rw [same_step, decide_eq_true (show (i : Int) < Int.ofNat xs.length from Int.ofNat_lt.2 hlt), hi, show xs[(i : Int).toNat]? = some x from hx]
    simp only [cond_true, Option.bind_some, bne_self_eq_false, cond_false]
    rfl) (fun n => by
    rw [same_step, decide_eq_false (show ¬ (Int.ofNat xs.length < Int.ofNat xs.length) from Int.lt_irrefl _)]
    exact SK0_exit _ _)
def sameF : List AV → LHp → Tq
  | [.os 0 0, .d (.slice (.int .i64)) ys], [(0, .arr 3 (.int .i64) 0 false xs)] => .br (decide (xs.length ≤ maxLen ∧ xs = ys)) (.leaf (.ret [B true]) [(0, .arr 3 i64T 0 false xs)]) .no
  | _, _ => .no
theorem sameE_ok : FnE.OK e0.P e0.gam 33 (treeE sameF) := by
  have h1 : FnE.OK e0.P e0.gam 33 (execFnC g169 Tryz.f33 5 [(4, [0, 1, 5])]) := y33_ok
  refine ⟨fun _ _ _ => Tq.eq _ _, fun args hs ae hs' h => ?_⟩
  have h' : (sameF args hs).run ah = some (ae, hs') := h
  clear h
  unfold sameF at h'
  split at h'
  · obtain ⟨hb, h2⟩ := Tq.br_no h'
    clear h'
    obtain ⟨hl, he⟩ := of_decide_eq_true hb
    subst he
    cases h2
    exact h1.okC (same_run _ hl)
  · cases h'
noncomputable def gS : Env := g170.add 33 (treeE sameF)
theorem gS_good : gS.Good := g170_good.add sameE_ok
noncomputable def C_samt : Code := codeOf Tryz.f18
noncomputable def cf_samt : Cfg := ⟨46, 6, 2, [(4, [2, 3, 5])], true⟩
def hpST (xd dt : List Int) : LHp := [(0, .arr 2 i64T 0 false dt), (1, .arr 3 i64T 0 false xd)]
def tenA (t : Int) : AV := .pr (I t) (.pr (.os 1 0) (.pr (.os 0 0) (.d .unit ())))
theorem samt_eqH (hl : Hl) (t : Int) (xd dt : List Int) : runH gS Tryz.f18 6 [(4, [2, 3, 5])] [4] hl [tenA t, .d (Y0) (t, xd, dt, ())] (hpST xd dt) ah =
  bif t != t then some (AEnd.ret [B false], [(0, AObj.arr 2 (i64T) 0 false dt), (1, AObj.arr 3 (i64T) 0 false xd)])
  else 
    bif decide (xd.length ≤ 9223372036854775807 ∧ xd = xd) then 
      bif Int.ofNat dt.length != Int.ofNat dt.length then some (AEnd.ret [B false], [(0, AObj.arr 2 (i64T) 0 false dt), (1, AObj.arr 3 (i64T) 0 false xd)])
      else hl (cL (cL (cR (cL (cR (cR C_samt)))))) _ { fr := mkFr 6 [(2, AV.op 2 [] 0), (3, AV.op 3 [] 0), (5, I 0)], hp := [(0, AObj.arr 2 (i64T) 0 false dt), (1, AObj.arr 3 (i64T) 0 false xd), (2, AObj.box ((I t).pr ((AV.os 1 0).pr ((AV.os 0 0).pr (AV.d Ty.unit PUnit.unit))))), (3, AObj.box (AV.d ((i64T).pair ((i64T).slice.pair ((i64T).slice.pair Ty.unit))) (t, xd, dt, PUnit.unit)))], nx := 6 } (blkK 0 (seqH gS cf_samt [4] hl (cR (cR (cR C_samt))) (endC Tryz.prog 2 Tryz.f18.results.toList ah)))
    else none := by kernel_rfl
theorem samt_eq (t : Int) (xd dt : List Int) : runC gS Tryz.f18 6 [(4, [2, 3, 5])] [tenA t, .d (Y0) (t, xd, dt, ())] (hpST xd dt) ah =
  bif t != t then some (AEnd.ret [B false], [(0, AObj.arr 2 (i64T) 0 false dt), (1, AObj.arr 3 (i64T) 0 false xd)])
  else 
    bif decide (xd.length ≤ 9223372036854775807 ∧ xd = xd) then 
      bif Int.ofNat dt.length != Int.ofNat dt.length then some (AEnd.ret [B false], [(0, AObj.arr 2 (i64T) 0 false dt), (1, AObj.arr 3 (i64T) 0 false xd)])
      else (hlp gS cf_samt) (cL (cL (cR (cL (cR (cR C_samt)))))) _ { fr := mkFr 6 [(2, AV.op 2 [] 0), (3, AV.op 3 [] 0), (5, I 0)], hp := [(0, AObj.arr 2 (i64T) 0 false dt), (1, AObj.arr 3 (i64T) 0 false xd), (2, AObj.box ((I t).pr ((AV.os 1 0).pr ((AV.os 0 0).pr (AV.d Ty.unit PUnit.unit))))), (3, AObj.box (AV.d ((i64T).pair ((i64T).slice.pair ((i64T).slice.pair Ty.unit))) (t, xd, dt, PUnit.unit)))], nx := 6 } (blkK 0 (seqH gS cf_samt [4] (hlp gS cf_samt) (cR (cR (cR C_samt))) (endC Tryz.prog 2 Tryz.f18.results.toList ah)))
    else none := runH_runC.trans (samt_eqH (hlp gS cf_samt) t xd dt)
def stT (t : Int) (xd dt : List Int) (i : Int) : LSt := ⟨mkFr 6 [(2, .op 2 [] 0), (3, .op 3 [] 0), (5, I i)], hpST xd dt ++ [(2, .box (tenA t)), (3, .box (.d (Y0) (t, xd, dt, ())))], 6⟩
theorem samt_stepH (hl : Hl) (t : Int) (xd dt : List Int) (i : Int) (n : Nat) {R : Type} (k : AEx → LSt → Option R) : lpH gS cf_samt [4] hl (cL (cL (cR (cL (cR (cR C_samt)))))) (n + 1) (stT t xd dt i) k =
  bif decide (i < Int.ofNat dt.length) then (idx dt i).bind fun v1 =>
      (dt[i.toNat]?).bind fun v2 =>
        (idx dt i).bind fun v3 =>
          bif v2 != v3 then k AEx.ret { fr := mkFr 6 [(2, AV.op 2 [] 0), (3, AV.op 3 [] 0), (4, B false), (5, I i), (28, I i), (29, AV.op 2 [2] 2), (30, AV.os 0 0), (31, I (Int.ofNat dt.length)), (32, B true), (35, AV.op 2 [2] 2), (36, AV.os 0 0), (37, I i), (38, AV.oe 0 0 i.toNat), (39, I v2), (40, AV.op 3 [2] 2), (41, AV.d (i64T).slice dt), (42, I i), (43, AV.ip (i64T) v3), (44, I v3), (45, B true)], hp := [(0, AObj.arr 2 (i64T) 0 false dt), (1, AObj.arr 3 (i64T) 0 false xd), (2, AObj.box ((I t).pr ((AV.os 1 0).pr ((AV.os 0 0).pr (AV.d Ty.unit PUnit.unit))))), (3, AObj.box (AV.d ((i64T).pair ((i64T).slice.pair ((i64T).slice.pair Ty.unit))) (t, xd, dt, PUnit.unit)))], nx := 6 }
          else lpH gS cf_samt [4] hl (cL (cL (cR (cL (cR (cR C_samt)))))) n { fr := mkFr 6 [(2, AV.op 2 [] 0), (3, AV.op 3 [] 0), (5, I (IntKind.i64.wrap (i + 1)))], hp := [(0, AObj.arr 2 (i64T) 0 false dt), (1, AObj.arr 3 (i64T) 0 false xd), (2, AObj.box ((I t).pr ((AV.os 1 0).pr ((AV.os 0 0).pr (AV.d Ty.unit PUnit.unit))))), (3, AObj.box (AV.d ((i64T).pair ((i64T).slice.pair ((i64T).slice.pair Ty.unit))) (t, xd, dt, PUnit.unit)))], nx := 6 } k
  else k (AEx.exit 0) { fr := mkFr 6 [(2, AV.op 2 [] 0), (3, AV.op 3 [] 0), (5, I i), (28, I i), (29, AV.op 2 [2] 2), (30, AV.os 0 0), (31, I (Int.ofNat dt.length)), (32, B false)], hp := [(0, AObj.arr 2 (i64T) 0 false dt), (1, AObj.arr 3 (i64T) 0 false xd), (2, AObj.box ((I t).pr ((AV.os 1 0).pr ((AV.os 0 0).pr (AV.d Ty.unit PUnit.unit))))), (3, AObj.box (AV.d ((i64T).pair ((i64T).slice.pair ((i64T).slice.pair Ty.unit))) (t, xd, dt, PUnit.unit)))], nx := 6 } := by kernel_rfl
theorem samt_step (t : Int) (xd dt : List Int) (i : Int) (n : Nat) {R : Type} (k : AEx → LSt → Option R) : lp gS cf_samt (cL (cL (cR (cL (cR (cR C_samt)))))) (n + 1) (stT t xd dt i) k =
  bif decide (i < Int.ofNat dt.length) then (idx dt i).bind fun v1 =>
      (dt[i.toNat]?).bind fun v2 =>
        (idx dt i).bind fun v3 =>
          bif v2 != v3 then k AEx.ret { fr := mkFr 6 [(2, AV.op 2 [] 0), (3, AV.op 3 [] 0), (4, B false), (5, I i), (28, I i), (29, AV.op 2 [2] 2), (30, AV.os 0 0), (31, I (Int.ofNat dt.length)), (32, B true), (35, AV.op 2 [2] 2), (36, AV.os 0 0), (37, I i), (38, AV.oe 0 0 i.toNat), (39, I v2), (40, AV.op 3 [2] 2), (41, AV.d (i64T).slice dt), (42, I i), (43, AV.ip (i64T) v3), (44, I v3), (45, B true)], hp := [(0, AObj.arr 2 (i64T) 0 false dt), (1, AObj.arr 3 (i64T) 0 false xd), (2, AObj.box ((I t).pr ((AV.os 1 0).pr ((AV.os 0 0).pr (AV.d Ty.unit PUnit.unit))))), (3, AObj.box (AV.d ((i64T).pair ((i64T).slice.pair ((i64T).slice.pair Ty.unit))) (t, xd, dt, PUnit.unit)))], nx := 6 }
          else lp gS cf_samt (cL (cL (cR (cL (cR (cR C_samt)))))) n { fr := mkFr 6 [(2, AV.op 2 [] 0), (3, AV.op 3 [] 0), (5, I (IntKind.i64.wrap (i + 1)))], hp := [(0, AObj.arr 2 (i64T) 0 false dt), (1, AObj.arr 3 (i64T) 0 false xd), (2, AObj.box ((I t).pr ((AV.os 1 0).pr ((AV.os 0 0).pr (AV.d Ty.unit PUnit.unit))))), (3, AObj.box (AV.d ((i64T).pair ((i64T).slice.pair ((i64T).slice.pair Ty.unit))) (t, xd, dt, PUnit.unit)))], nx := 6 } k
  else k (AEx.exit 0) { fr := mkFr 6 [(2, AV.op 2 [] 0), (3, AV.op 3 [] 0), (5, I i), (28, I i), (29, AV.op 2 [2] 2), (30, AV.os 0 0), (31, I (Int.ofNat dt.length)), (32, B false)], hp := [(0, AObj.arr 2 (i64T) 0 false dt), (1, AObj.arr 3 (i64T) 0 false xd), (2, AObj.box ((I t).pr ((AV.os 1 0).pr ((AV.os 0 0).pr (AV.d Ty.unit PUnit.unit))))), (3, AObj.box (AV.d ((i64T).pair ((i64T).slice.pair ((i64T).slice.pair Ty.unit))) (t, xd, dt, PUnit.unit)))], nx := 6 } := by
  have h := samt_stepH (hlp gS cf_samt) t xd dt i n k
  simp only [lpH_lp] at h
  exact h
noncomputable def TK0 : AEx → LSt → Option (AEnd × LHp) := (blkK 0 (seqH gS cf_samt [4] (hlp gS cf_samt) (cR (cR (cR C_samt))) (endC Tryz.prog 2 Tryz.f18.results.toList ah)))
theorem samt_lp (t : Int) (xd dt : List Int) (hl : xd.length ≤ maxLen) : runC gS Tryz.f18 6 [(4, [2, 3, 5])] [tenA t, .d (Y0) (t, xd, dt, ())] (hpST xd dt) ah = lp gS cf_samt (cL (cL (cR (cL (cR (cR C_samt)))))) fu (stT t xd dt 0) TK0 := (samt_eq t xd dt).trans (by rw [bne_self_eq_false, bne_self_eq_false, decide_eq_true (show xd.length ≤ 9223372036854775807 ∧ xd = xd from ⟨hl, rfl⟩), cond_false, cond_false, cond_true]; kernel_rfl)
theorem TK0_exit (t : Int) (xd dt : List Int) (i : Int) : TK0 (AEx.exit 0) { fr := mkFr 6 [(2, AV.op 2 [] 0), (3, AV.op 3 [] 0), (5, I i), (28, I i), (29, AV.op 2 [2] 2), (30, AV.os 0 0), (31, I (Int.ofNat dt.length)), (32, B false)], hp := hpST xd dt ++ [(2, .box (tenA t)), (3, .box (.d (Y0) (t, xd, dt, ())))], nx := 6 } = some (.ret [B true], hpST xd dt) := by kernel_rfl
theorem samt_run (t : Int) (xd dt : List Int) (h1 : xd.length ≤ maxLen) (h2 : dt.length ≤ maxLen) : runC gS Tryz.f18 6 [(4, [2, 3, 5])] [tenA t, .d (Y0) (t, xd, dt, ())] (hpST xd dt) ah = some (.ret [B true], hpST xd dt) := by
  rw [samt_lp t xd dt h1]
  exact all_lp (T := fun n s => lp gS cf_samt (cL (cL (cR (cL (cR (cR C_samt)))))) n s TK0) (xs := dt) (st := stT t xd dt) (r := some (.ret [B true], hpST xd dt)) h2 (fun i x hx hi hlt n => by
    rw [samt_step, decide_eq_true (show (i : Int) < Int.ofNat dt.length from Int.ofNat_lt.2 hlt), hi, show dt[(i : Int).toNat]? = some x from hx]
    simp only [cond_true, Option.bind_some, bne_self_eq_false, cond_false]
    rfl) (fun n => by
    rw [samt_step, decide_eq_false (show ¬ (Int.ofNat dt.length < Int.ofNat dt.length) from Int.lt_irrefl _)]
    exact TK0_exit _ _ _ _)
def samtF : List AV → LHp → Tq
  | [.pr (.d (.int .i64) t) (.pr (.os 1 0) (.pr (.os 0 0) (.d .unit ()))), .d ((.pair (.int .i64) (.pair (.slice (.int .i64)) (.pair (.slice (.int .i64)) .unit)))) (t2, xd2, dt2, ())], [(0, .arr 2 (.int .i64) 0 false dt), (1, .arr 3 (.int .i64) 0 false xd)] =>
    .br (decide (xd.length ≤ maxLen ∧ dt.length ≤ maxLen ∧ t = t2 ∧ xd = xd2 ∧ dt = dt2)) (.leaf (.ret [B true]) (hpST xd dt)) .no
  | _, _ => .no
theorem samtE_ok : FnE.OK e0.P e0.gam 18 (treeE samtF) := by
  have h1 : FnE.OK e0.P e0.gam 18 (execFnC gS Tryz.f18 6 [(4, [2, 3, 5])]) := execFnC_ok gS_good hmix Tryz.func18 Tryz.call18 (by decide +kernel) rfl
  refine ⟨fun _ _ _ => Tq.eq _ _, fun args hs ae hs' h => ?_⟩
  have h' : (samtF args hs).run ah = some (ae, hs') := h
  clear h
  unfold samtF at h'
  split at h'
  · obtain ⟨hb, h2⟩ := Tq.br_no h'
    clear h'
    obtain ⟨hl, hl2, he1, he2, he3⟩ := of_decide_eq_true hb
    subst he1 he2 he3
    cases h2
    exact h1.okC (samt_run _ _ _ hl hl2)
  · cases h'

end Go.Proofs.XGT
/- The law MoveAll: its code, run. -/
namespace Go.Proofs.XGT
open Go.Vm Go
set_option maxRecDepth 100000
set_option maxHeartbeats 4000000
def okM (v m : Int) (xd dt l : List Int) (ty : Int) : Bool := decide (xd.length ≤ maxLen) && decide (dt.length ≤ maxLen) && decide (0 ≤ axisI v xd.length) && decide ((axisI v xd.length).toNat < xd.length) && decide (m = xd.getD (axisI v xd.length).toNat 0) && decide (1 ≤ m) && decide (m ≤ 2000) && decide (l = rangeI m.toNat) && decide (ty = 7)
def mdoT : List AV → LHp → Tq
  | [n, .os 0 0], [(0, .arr 25 ((.pair (.int .i64) (.pair (.slice (.int .i64)) (.pair (.slice (.int .i64)) .unit)))) 0 false [(t, xd, dt, ()), (ty, [m], l, ())]), (1, .arr 37 ((.pair .str (.pair (.int .i64) (.pair (.int .i64) (.pair (.int .i64) (.pair .str (.pair (.pair (.int .i64) (.pair (.slice (.int .i64)) (.pair (.slice (.int .i64)) .unit))) (.pair (.slice (.int .i64)) .unit)))))))) 0 false ats), (2, .arr 9 .str 0 false ins)] =>
    (match nodeP n with
    | some (op, nm, out, .os 2 0, .os 1 0) => gate (decide (op = strGA) && decide (nm = []) && decide (out = [122]) && decide (ins = [[120], [121]]))
        (.opt (oneInt strAxis ats) fun v => .br (okM v m xd dt l ty) (.br (tenE t xd dt != 0) (.leaf (.ret [zeroTM, I 1]) (hpMD false false v t m xd dt l)) (.leaf (okMD v t m xd dt l).1 (okMD v t m xd dt l).2)) .no)
    | _ => .no)
  | _, _ => .no
theorem mdoT_ok : FnE.OK e0.P e0.gam 27 (treeE mdoT) := by
  have h1 : FnE.OK e0.P e0.gam 27 (execFnC gMD Tryz.f27 7 []) := execFnC_ok gMD_good hmix Tryz.func27 Tryz.call27 (by decide +kernel) rfl
  refine ⟨fun _ _ _ => Tq.eq _ _, fun args hs ae hs' h => ?_⟩
  have h' : (mdoT args hs).run ah = some (ae, hs') := h
  clear h
  unfold mdoT at h'
  split at h'
  · split at h'
    · rename_i hn
      rw [nodeP_some hn]
      obtain ⟨hb, h2⟩ := gate_run h'
      clear h'
      simp only [Bool.and_eq_true, decide_eq_true_eq] at hb
      obtain ⟨⟨⟨b1, b2⟩, b3⟩, b4⟩ := hb
      subst b1 b2 b3 b4
      simp only [Tq.run] at h2
      obtain ⟨v, hv, h3⟩ := bind_some h2
      clear h2
      rw [oneInt_some hv]
      have bif_none' : ∀ {c : Bool} {x : Option (AEnd × LHp)} {r : AEnd × LHp}, (bif c then x else none) = some r → c = true ∧ x = some r := fun {c x r} h => by
        cases c with
        | true => exact ⟨rfl, h⟩
        | false => cases h
      obtain ⟨hb, h4⟩ := bif_none' h3
      unfold okM at hb
      simp only [Bool.and_eq_true, decide_eq_true_eq] at hb
      obtain ⟨⟨⟨⟨⟨⟨⟨⟨c1, c2⟩, c3⟩, c4⟩, c5⟩, c6⟩, c7⟩, c8⟩, c9⟩ := hb
      subst c9 c8
      subst c5
      exact h1.okC ((mdo_run c1 c2 c3 c4 c6 c7).trans h4)
    · cases h'
  · cases h'
noncomputable def gLa : Env := ((g233.add 27 (treeE mdoT)).add 18 (treeE samtF)).add 25 (fnE livtF)
theorem gLa_good : gLa.Good := ((g233_good.add mdoT_ok).add samtE_ok).add livtE_ok
noncomputable def C_lawa : Code := codeOf Tryz.f13
noncomputable def cf_lawa : Cfg := ⟨89, 7, 0, [(11, [1, 2, 6, 7, 8])], true⟩
theorem lawa_eqH (hl : Hl) (t v : Int) (xd dt : List Int) : runH gLa Tryz.f13 7 [(11, [1, 2, 6, 7, 8])] [11] hl [.d (Y0) (t, xd, dt, ()), I v] [] ah =
  bif decide (Int.ofNat dt.length > 2000) then some (AEnd.ret [B true], [])
  else 
    bif decide (v < 0) then 
      bif decide (IntKind.i64.wrap (v + Int.ofNat xd.length) < 0) then some (AEnd.ret [B true], [])
      else 
        bif decide (IntKind.i64.wrap (v + Int.ofNat xd.length) ≥ Int.ofNat xd.length) then some (AEnd.ret [B true], [])
        else (idx xd (IntKind.i64.wrap (v + Int.ofNat xd.length))).bind fun v4 =>
            bif decide (v4 < 1) then some (AEnd.ret [B true], [])
            else (idx xd (IntKind.i64.wrap (v + Int.ofNat xd.length))).bind fun v6 =>
                bif decide (v6 > 2000) then some (AEnd.ret [B true], [])
                else hl (cL (cL (cR (cL (cR (cR (cR (cR (cR (cR (cR C_lawa))))))))))) _ { fr := mkFr 7 [(1, I v), (2, AV.op 0 [] 0), (6, I (IntKind.i64.wrap (v + Int.ofNat xd.length))), (7, AV.nils), (8, I 0)], hp := [(0, AObj.box (AV.d ((i64T).pair ((i64T).slice.pair ((i64T).slice.pair Ty.unit))) (t, xd, dt, PUnit.unit)))], nx := 1 } (blkK 0 (seqH gLa cf_lawa [11] hl (cR (cR (cR (cR (cR (cR (cR (cR C_lawa)))))))) (endC Tryz.prog 0 Tryz.f13.results.toList ah)))
    else 
      bif decide (v < 0) then some (AEnd.ret [B true], [])
      else 
        bif decide (v ≥ Int.ofNat xd.length) then some (AEnd.ret [B true], [])
        else (idx xd v).bind fun v4 =>
            bif decide (v4 < 1) then some (AEnd.ret [B true], [])
            else (idx xd v).bind fun v6 =>
                bif decide (v6 > 2000) then some (AEnd.ret [B true], [])
                else hl (cL (cL (cR (cL (cR (cR (cR (cR (cR (cR (cR C_lawa))))))))))) _ { fr := mkFr 7 [(1, I v), (2, AV.op 0 [] 0), (6, I v), (7, AV.nils), (8, I 0)], hp := [(0, AObj.box (AV.d ((i64T).pair ((i64T).slice.pair ((i64T).slice.pair Ty.unit))) (t, xd, dt, PUnit.unit)))], nx := 1 } (blkK 0 (seqH gLa cf_lawa [11] hl (cR (cR (cR (cR (cR (cR (cR (cR C_lawa)))))))) (endC Tryz.prog 0 Tryz.f13.results.toList ah))) := by kernel_rfl
theorem lawa_eq (t v : Int) (xd dt : List Int) : runC gLa Tryz.f13 7 [(11, [1, 2, 6, 7, 8])] [.d (Y0) (t, xd, dt, ()), I v] [] ah =
  bif decide (Int.ofNat dt.length > 2000) then some (AEnd.ret [B true], [])
  else 
    bif decide (v < 0) then 
      bif decide (IntKind.i64.wrap (v + Int.ofNat xd.length) < 0) then some (AEnd.ret [B true], [])
      else 
        bif decide (IntKind.i64.wrap (v + Int.ofNat xd.length) ≥ Int.ofNat xd.length) then some (AEnd.ret [B true], [])
        else (idx xd (IntKind.i64.wrap (v + Int.ofNat xd.length))).bind fun v4 =>
            bif decide (v4 < 1) then some (AEnd.ret [B true], [])
            else (idx xd (IntKind.i64.wrap (v + Int.ofNat xd.length))).bind fun v6 =>
                bif decide (v6 > 2000) then some (AEnd.ret [B true], [])
                else (hlp gLa cf_lawa) (cL (cL (cR (cL (cR (cR (cR (cR (cR (cR (cR C_lawa))))))))))) _ { fr := mkFr 7 [(1, I v), (2, AV.op 0 [] 0), (6, I (IntKind.i64.wrap (v + Int.ofNat xd.length))), (7, AV.nils), (8, I 0)], hp := [(0, AObj.box (AV.d ((i64T).pair ((i64T).slice.pair ((i64T).slice.pair Ty.unit))) (t, xd, dt, PUnit.unit)))], nx := 1 } (blkK 0 (seqH gLa cf_lawa [11] (hlp gLa cf_lawa) (cR (cR (cR (cR (cR (cR (cR (cR C_lawa)))))))) (endC Tryz.prog 0 Tryz.f13.results.toList ah)))
    else 
      bif decide (v < 0) then some (AEnd.ret [B true], [])
      else 
        bif decide (v ≥ Int.ofNat xd.length) then some (AEnd.ret [B true], [])
        else (idx xd v).bind fun v4 =>
            bif decide (v4 < 1) then some (AEnd.ret [B true], [])
            else (idx xd v).bind fun v6 =>
                bif decide (v6 > 2000) then some (AEnd.ret [B true], [])
                else (hlp gLa cf_lawa) (cL (cL (cR (cL (cR (cR (cR (cR (cR (cR (cR C_lawa))))))))))) _ { fr := mkFr 7 [(1, I v), (2, AV.op 0 [] 0), (6, I v), (7, AV.nils), (8, I 0)], hp := [(0, AObj.box (AV.d ((i64T).pair ((i64T).slice.pair ((i64T).slice.pair Ty.unit))) (t, xd, dt, PUnit.unit)))], nx := 1 } (blkK 0 (seqH gLa cf_lawa [11] (hlp gLa cf_lawa) (cR (cR (cR (cR (cR (cR (cR (cR C_lawa)))))))) (endC Tryz.prog 0 Tryz.f13.results.toList ah))) := runH_runC.trans (lawa_eqH (hlp gLa cf_lawa) t v xd dt)
def lSl (out : List Int) : AV := match out with | [] => .nils | _ :: _ => .os 1 0
def lHp (out : List Int) : LHp := match out with | [] => [] | _ :: _ => [(1, .arr 2 i64T 0 false out)]
def lNx (out : List Int) : Nat := match out with | [] => 1 | _ :: _ => 2
def hpA0 (t : Int) (xd dt : List Int) : LHp := [(0, .box (.d (Y0) (t, xd, dt, ())))]
def stA0 (t v kk : Int) (xd dt : List Int) (i : Int) (out : List Int) : LSt := ⟨mkFr 7 [(1, I v), (2, .op 0 [] 0), (6, I kk), (7, lSl out), (8, I i)], hpA0 t xd dt ++ lHp out, lNx out⟩
theorem a0_step0H (hl : Hl) (t v kk : Int) (xd dt : List Int) (i : Int) (n : Nat) {R : Type} (k : AEx → LSt → Option R) : lpH gLa cf_lawa [11] hl (cL (cL (cR (cL (cR (cR (cR (cR (cR (cR (cR C_lawa))))))))))) (n + 1) (stA0 t v kk xd dt i []) k =
  (idx xd kk).bind fun v0 =>
    bif decide (i < v0) then lpH gLa cf_lawa [11] hl (cL (cL (cR (cL (cR (cR (cR (cR (cR (cR (cR C_lawa))))))))))) n { fr := mkFr 7 [(1, I v), (2, AV.op 0 [] 0), (6, I kk), (7, AV.os 1 0), (8, I (IntKind.i64.wrap (i + 1)))], hp := [(0, AObj.box (AV.d ((i64T).pair ((i64T).slice.pair ((i64T).slice.pair Ty.unit))) (t, xd, dt, PUnit.unit))), (1, AObj.arr 2 (i64T) 0 false [i])], nx := 2 } k
    else k (AEx.exit 0) { fr := mkFr 7 [(1, I v), (2, AV.op 0 [] 0), (6, I kk), (7, AV.nils), (8, I i), (50, I i), (51, AV.op 0 [1] 1), (52, AV.d (i64T).slice xd), (53, I kk), (54, AV.ip (i64T) v0), (55, I v0), (56, B false)], hp := [(0, AObj.box (AV.d ((i64T).pair ((i64T).slice.pair ((i64T).slice.pair Ty.unit))) (t, xd, dt, PUnit.unit)))], nx := 1 } := by kernel_rfl
theorem a0_step0 (t v kk : Int) (xd dt : List Int) (i : Int) (n : Nat) {R : Type} (k : AEx → LSt → Option R) : lp gLa cf_lawa (cL (cL (cR (cL (cR (cR (cR (cR (cR (cR (cR C_lawa))))))))))) (n + 1) (stA0 t v kk xd dt i []) k =
  (idx xd kk).bind fun v0 =>
    bif decide (i < v0) then lp gLa cf_lawa (cL (cL (cR (cL (cR (cR (cR (cR (cR (cR (cR C_lawa))))))))))) n { fr := mkFr 7 [(1, I v), (2, AV.op 0 [] 0), (6, I kk), (7, AV.os 1 0), (8, I (IntKind.i64.wrap (i + 1)))], hp := [(0, AObj.box (AV.d ((i64T).pair ((i64T).slice.pair ((i64T).slice.pair Ty.unit))) (t, xd, dt, PUnit.unit))), (1, AObj.arr 2 (i64T) 0 false [i])], nx := 2 } k
    else k (AEx.exit 0) { fr := mkFr 7 [(1, I v), (2, AV.op 0 [] 0), (6, I kk), (7, AV.nils), (8, I i), (50, I i), (51, AV.op 0 [1] 1), (52, AV.d (i64T).slice xd), (53, I kk), (54, AV.ip (i64T) v0), (55, I v0), (56, B false)], hp := [(0, AObj.box (AV.d ((i64T).pair ((i64T).slice.pair ((i64T).slice.pair Ty.unit))) (t, xd, dt, PUnit.unit)))], nx := 1 } := by
  have h := a0_step0H (hlp gLa cf_lawa) t v kk xd dt i n k
  simp only [lpH_lp] at h
  exact h
theorem a0_stepH (hl : Hl) (t v kk : Int) (xd dt : List Int) (i : Int) (o : Int) (out : List Int) (n : Nat) {R : Type} (k : AEx → LSt → Option R) : lpH gLa cf_lawa [11] hl (cL (cL (cR (cL (cR (cR (cR (cR (cR (cR (cR C_lawa))))))))))) (n + 1) (stA0 t v kk xd dt i (o :: out)) k =
  (idx xd kk).bind fun v0 =>
    bif decide (i < v0) then (app (o :: out) [i]).bind fun v2 =>
        lpH gLa cf_lawa [11] hl (cL (cL (cR (cL (cR (cR (cR (cR (cR (cR (cR C_lawa))))))))))) n { fr := mkFr 7 [(1, I v), (2, AV.op 0 [] 0), (6, I kk), (7, AV.os 1 0), (8, I (IntKind.i64.wrap (i + 1)))], hp := [(0, AObj.box (AV.d ((i64T).pair ((i64T).slice.pair ((i64T).slice.pair Ty.unit))) (t, xd, dt, PUnit.unit))), (1, AObj.arr 2 (i64T) 0 false v2)], nx := 2 } k
    else k (AEx.exit 0) { fr := mkFr 7 [(1, I v), (2, AV.op 0 [] 0), (6, I kk), (7, AV.os 1 0), (8, I i), (50, I i), (51, AV.op 0 [1] 1), (52, AV.d (i64T).slice xd), (53, I kk), (54, AV.ip (i64T) v0), (55, I v0), (56, B false)], hp := [(0, AObj.box (AV.d ((i64T).pair ((i64T).slice.pair ((i64T).slice.pair Ty.unit))) (t, xd, dt, PUnit.unit))), (1, AObj.arr 2 (i64T) 0 false (o :: out))], nx := 2 } := by kernel_rfl
theorem a0_step (t v kk : Int) (xd dt : List Int) (i : Int) (o : Int) (out : List Int) (n : Nat) {R : Type} (k : AEx → LSt → Option R) : lp gLa cf_lawa (cL (cL (cR (cL (cR (cR (cR (cR (cR (cR (cR C_lawa))))))))))) (n + 1) (stA0 t v kk xd dt i (o :: out)) k =
  (idx xd kk).bind fun v0 =>
    bif decide (i < v0) then (app (o :: out) [i]).bind fun v2 =>
        lp gLa cf_lawa (cL (cL (cR (cL (cR (cR (cR (cR (cR (cR (cR C_lawa))))))))))) n { fr := mkFr 7 [(1, I v), (2, AV.op 0 [] 0), (6, I kk), (7, AV.os 1 0), (8, I (IntKind.i64.wrap (i + 1)))], hp := [(0, AObj.box (AV.d ((i64T).pair ((i64T).slice.pair ((i64T).slice.pair Ty.unit))) (t, xd, dt, PUnit.unit))), (1, AObj.arr 2 (i64T) 0 false v2)], nx := 2 } k
    else k (AEx.exit 0) { fr := mkFr 7 [(1, I v), (2, AV.op 0 [] 0), (6, I kk), (7, AV.os 1 0), (8, I i), (50, I i), (51, AV.op 0 [1] 1), (52, AV.d (i64T).slice xd), (53, I kk), (54, AV.ip (i64T) v0), (55, I v0), (56, B false)], hp := [(0, AObj.box (AV.d ((i64T).pair ((i64T).slice.pair ((i64T).slice.pair Ty.unit))) (t, xd, dt, PUnit.unit))), (1, AObj.arr 2 (i64T) 0 false (o :: out))], nx := 2 } := by
  have h := a0_stepH (hlp gLa cf_lawa) t v kk xd dt i o out n k
  simp only [lpH_lp] at h
  exact h
noncomputable def AK0 (hl : Hl) : AEx → LSt → Option (AEnd × LHp) := blkK 0 (seqH gLa cf_lawa [11] hl (cR (cR (cR (cR (cR (cR (cR (cR C_lawa)))))))) (endC Tryz.prog 0 Tryz.f13.results.toList ah))
def frA0e (v kk : Int) (xd : List Int) (i x : Int) (out : List Int) : Tr := mkFr 7 [(1, I v), (2, AV.op 0 [] 0), (6, I kk), (7, lSl out), (8, I i), (50, I i), (51, AV.op 0 [1] 1), (52, AV.d (.slice i64T) xd), (53, I kk), (54, AV.ip i64T x), (55, I x), (56, B false)]
theorem a0_exit (hl : Hl) (t v kk : Int) (xd dt : List Int) (i x : Int) (o : Int) (out : List Int) : AK0 hl (.exit 0) ⟨frA0e v kk xd i x (o :: out), hpA0 t xd dt ++ lHp (o :: out), 2⟩ =
  bif okM v (Int.ofNat (out.length + 1)) xd dt (o :: out) 7 then bif tenE t xd dt != 0 then some (.ret [B true], []) else bif decide (xd.length ≤ 9223372036854775807 ∧ dt.length ≤ 9223372036854775807 ∧ t = t ∧ xd = xd ∧ dt = dt) then some (.ret [B true], []) else none else none := by kernel_rfl
theorem lawa_lp (t v kk m : Int) (xd dt : List Int) (h1 : decide (Int.ofNat dt.length > 2000) = false) (hv : (v = kk ∧ decide (v < 0) = false) ∨ (decide (v < 0) = true ∧ IntKind.i64.wrap (v + Int.ofNat xd.length) = kk)) (hk0 : decide (kk < 0) = false) (hk1 : decide (kk ≥ Int.ofNat xd.length) = false) (hx : idx xd kk = some m) (hm1 : decide (m < 1) = false) (hm2 : decide (m > 2000) = false) : runC gLa Tryz.f13 7 [(11, [1, 2, 6, 7, 8])] [.d (Y0) (t, xd, dt, ()), I v] [] ah = lp gLa cf_lawa (cL (cL (cR (cL (cR (cR (cR (cR (cR (cR (cR C_lawa))))))))))) fu (stA0 t v kk xd dt ((0 : Nat) : Int) []) (AK0 (hlp gLa cf_lawa)) := by
  refine (lawa_eq t v xd dt).trans ?_
  rcases hv with ⟨rfl, h⟩ | ⟨h, hw⟩
  · rw [h1, h, hk1, hx]
    simp only [cond_false, Option.bind_some]
    rw [hm1, hm2, cond_false, cond_false]
    kernel_rfl
  · rw [h1, h, hw, hk0, hk1, hx]
    simp only [cond_false, cond_true, Option.bind_some]
    rw [hm1, hm2, cond_false, cond_false]
    kernel_rfl
end Go.Proofs.XGT
/- The law MoveAll answers true, whatever the tensor and the axis. -/
namespace Go.Proofs.XGT
open Go.Vm Go
set_option maxRecDepth 100000
set_option maxHeartbeats 1000000
theorem rangeI_succ (n : Nat) : rangeI (n + 1) = rangeI n ++ [(n : Int)] := by
  unfold rangeI
  rw [List.range_succ, List.map_append]
  rfl
theorem a0_one {t v kk m : Int} {xd dt : List Int} (hx : idx xd kk = some m) (hm : m ≤ 2000) {i : Nat} (hi : (i : Int) < m) (n : Nat) {R : Type} (k : AEx → LSt → Option R) :
    lp gLa cf_lawa (cL (cL (cR (cL (cR (cR (cR (cR (cR (cR (cR C_lawa))))))))))) (n + 1) (stA0 t v kk xd dt i (rangeI i)) k = lp gLa cf_lawa (cL (cL (cR (cL (cR (cR (cR (cR (cR (cR (cR C_lawa))))))))))) n (stA0 t v kk xd dt ((i + 1 : Nat) : Int) (rangeI (i + 1))) k := by
  have e0 : IntKind.i64.wrap ((i : Int) + 1) = ((i + 1 : Nat) : Int) := by rw [wrap64 (by omega) (by omega)]; omega
  rw [rangeI_succ]
  have hl : (rangeI i).length ≤ 2000 := by rw [rangeI_length]; omega
  generalize rangeI i = out at *
  cases out with
  | nil =>
    rw [a0_step0, hx]
    simp only [Option.bind_some]
    rw [decide_eq_true hi, cond_true, e0]
    rfl
  | cons o out =>
    rw [a0_step, hx]
    simp only [Option.bind_some]
    rw [decide_eq_true hi, cond_true, e0, app_someM (by simp only [List.length_cons, List.length_nil] at *; unfold lim; omega)]
    rfl
theorem a0_all {t v kk m : Int} {xd dt : List Int} (hx : idx xd kk = some m) (hm : m ≤ 2000) {M : Nat} (hM : m = (M : Int)) {R : Type} (k : AEx → LSt → Option R) :
    ∀ (r i n : Nat), i + r = M → r < n → lp gLa cf_lawa (cL (cL (cR (cL (cR (cR (cR (cR (cR (cR (cR C_lawa))))))))))) n (stA0 t v kk xd dt i (rangeI i)) k = lp gLa cf_lawa (cL (cL (cR (cL (cR (cR (cR (cR (cR (cR (cR C_lawa))))))))))) (n - r) (stA0 t v kk xd dt (M : Int) (rangeI M)) k := by
  intro r
  induction r with
  | zero =>
    intro i n hi hn
    obtain rfl : i = M := by omega
    rfl
  | succ r ih =>
    intro i n hi hn
    obtain ⟨n, rfl⟩ : ∃ m', n = m' + 1 := ⟨n - 1, by omega⟩
    rw [a0_one hx hm (by omega), show n + 1 - (r + 1) = n - r by omega]
    exact ih (i + 1) n (by omega) (by omega)
theorem lawa_in {t v kk m : Int} {xd dt : List Int} (l1 : xd.length ≤ maxLen) (l2 : dt.length ≤ maxLen) (hA : axisI v xd.length = kk) (hk0 : 0 ≤ kk) (hk1 : kk.toNat < xd.length) (hx : xd[kk.toNat]? = some m) (hm1 : 1 ≤ m) (hm2 : m ≤ 2000) (h1 : decide (Int.ofNat dt.length > 2000) = false) (hv : (v = kk ∧ decide (v < 0) = false) ∨ (decide (v < 0) = true ∧ IntKind.i64.wrap (v + Int.ofNat xd.length) = kk)) :
    runC gLa Tryz.f13 7 [(11, [1, 2, 6, 7, 8])] [.d (Y0) (t, xd, dt, ()), I v] [] ah = some (.ret [B true], []) := by
  obtain ⟨M, hM⟩ := Int.eq_ofNat_of_zero_le (show 0 ≤ m by omega)
  have hidx : idx xd kk = some m := by unfold idx; rw [if_pos hk0, hx]
  have hfu : fu = 18446744073709551616 := rfl
  have key := a0_all (t := t) (v := v) (dt := dt) hidx hm2 hM (AK0 (hlp gLa cf_lawa)) M 0 fu (by omega) (by omega)
  rw [lawa_lp t v kk m xd dt h1 hv (decide_eq_false (by omega)) (decide_eq_false (by simp only [Int.ofNat_eq_natCast]; omega)) hidx (decide_eq_false (by omega)) (decide_eq_false (by omega))]
  refine Eq.trans key ?_
  obtain ⟨n, hn⟩ : ∃ n, fu - M = n + 1 := ⟨fu - M - 1, by omega⟩
  rw [hn]
  obtain ⟨o, out, hout⟩ := cons_of (rangeI M) (by rw [rangeI_length]; omega)
  have hlen : out.length + 1 = M := by
    have := congrArg List.length hout
    rw [rangeI_length] at this
    simpa using this.symm
  have hok : okM v (Int.ofNat (out.length + 1)) xd dt (o :: out) 7 = true := by
    unfold okM
    have e1 : xd.getD (axisI v xd.length).toNat 0 = m := by rw [hA, List.getD_eq_getElem?_getD, hx]; rfl
    have e2 : Int.ofNat (out.length + 1) = m := by rw [hlen, hM]; rfl
    rw [e1, e2, hA, decide_eq_true l1, decide_eq_true l2, decide_eq_true hk0, decide_eq_true hk1, decide_eq_true (rfl : m = m), decide_eq_true hm1, decide_eq_true hm2, decide_eq_true (show o :: out = rangeI m.toNat by rw [← hout, hM]; rfl)]
    rfl
  rw [hout, a0_step, hidx]
  simp only [Option.bind_some]
  rw [decide_eq_false (show ¬ ((M : Int) < m) by omega), cond_false]
  refine Eq.trans (a0_exit (hlp gLa cf_lawa) t v kk xd dt (M : Int) m o out) ?_
  rw [hok, decide_eq_true (show xd.length ≤ 9223372036854775807 ∧ dt.length ≤ 9223372036854775807 ∧ t = t ∧ xd = xd ∧ dt = dt from ⟨l1, l2, rfl, rfl, rfl⟩)]
  cases tenE t xd dt != 0 <;> rfl
theorem lawa_true (t v : Int) (xd dt : List Int) (hw : -9223372036854775808 ≤ v ∧ v ≤ 9223372036854775807) (l1 : xd.length ≤ maxLen) (l2 : dt.length ≤ maxLen) : runC gLa Tryz.f13 7 [(11, [1, 2, 6, 7, 8])] [.d (Y0) (t, xd, dt, ()), I v] [] ah = some (.ret [B true], []) := by
  have hml : maxLen = 9223372036854775807 := by decide
  cases c1 : decide (Int.ofNat dt.length > 2000) with
  | true => rw [lawa_eq, c1]; rfl
  | false =>
  by_cases hv : v < 0
  · have ew : IntKind.i64.wrap (v + Int.ofNat xd.length) = v + xd.length := by
      rw [show Int.ofNat xd.length = (xd.length : Int) from rfl]
      exact wrap64 (by omega) (by omega)
    by_cases h0 : v + xd.length < 0
    · rw [lawa_eq, c1, decide_eq_true hv, ew, decide_eq_true h0]; rfl
    · have hlt : (v + xd.length).toNat < xd.length := by omega
      have hx : xd[(v + xd.length).toNat]? = some xd[(v + xd.length).toNat] := List.getElem?_eq_getElem hlt
      have hidx : idx xd (v + xd.length) = some xd[(v + xd.length).toNat] := by unfold idx; rw [if_pos (by omega), hx]
      have hge : decide (v + xd.length ≥ Int.ofNat xd.length) = false := decide_eq_false (by simp only [Int.ofNat_eq_natCast]; omega)
      generalize xd[(v + xd.length).toNat] = m at *
      by_cases hm1 : m < 1
      · rw [lawa_eq, c1, decide_eq_true hv, ew, decide_eq_false h0, hge, hidx]
        simp only [cond_false, cond_true, Option.bind_some]
        rw [decide_eq_true hm1]; rfl
      · by_cases hm2 : m > 2000
        · rw [lawa_eq, c1, decide_eq_true hv, ew, decide_eq_false h0, hge, hidx]
          simp only [cond_false, cond_true, Option.bind_some]
          rw [decide_eq_false hm1, decide_eq_true hm2]; rfl
        · exact lawa_in (kk := v + xd.length) (m := m) l1 l2 (by unfold axisI; rw [decide_eq_true hv]; rfl) (by omega) hlt hx (by omega) (by omega) c1 (Or.inr ⟨decide_eq_true hv, ew⟩)
  · by_cases h0 : v ≥ Int.ofNat xd.length
    · rw [lawa_eq, c1, decide_eq_false hv, decide_eq_true h0]; rfl
    · have hlt : v.toNat < xd.length := by simp only [Int.ofNat_eq_natCast] at h0; omega
      have hx : xd[v.toNat]? = some xd[v.toNat] := List.getElem?_eq_getElem hlt
      have hidx : idx xd v = some xd[v.toNat] := by unfold idx; rw [if_pos (by omega), hx]
      generalize xd[v.toNat] = m at *
      by_cases hm1 : m < 1
      · rw [lawa_eq, c1, decide_eq_false hv, decide_eq_false h0, hidx]
        simp only [cond_false, Option.bind_some]
        rw [decide_eq_true hm1]; rfl
      · by_cases hm2 : m > 2000
        · rw [lawa_eq, c1, decide_eq_false hv, decide_eq_false h0, hidx]
          simp only [cond_false, Option.bind_some]
          rw [decide_eq_false hm1, decide_eq_true hm2]; rfl
        · exact lawa_in (kk := v) (m := m) l1 l2 (by unfold axisI; rw [decide_eq_false hv]; rfl) (by omega) hlt hx (by omega) (by omega) c1 (Or.inl ⟨rfl, decide_eq_false hv⟩)
theorem lawa_call (t : Int) (xd dt : List Int) (h1 : xd.length ≤ maxLen) (h2 : dt.length ≤ maxLen) (v : Int) (hv : (Lit.int .i64 v).wf = true) : FnH Tryz.prog (Env.gam e0) 13 [.d (Y0) (t, xd, dt, ()), I v] (hget []) (fun ae h1 => ae = .ret [B true] ∧ h1 = hget []) :=
  runC_call gLa_good hmix Tryz.func13 Tryz.call13 (by decide +kernel) rfl (lawa_true t v xd dt (by
    simp [Lit.wf, IntKind.min, IntKind.max, IntKind.signed, IntKind.bits] at hv
    omega) h1 h2)
end Go.Proofs.XGT
