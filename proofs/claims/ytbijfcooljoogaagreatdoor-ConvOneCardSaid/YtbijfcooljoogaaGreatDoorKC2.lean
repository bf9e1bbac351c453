/- schema.find, and what asks it: Int, Ints. -/
import Derived.Test.YtbijfcooljoogaaGreatDoorKC1B
namespace Go.Proofs.XGT
open Go.Vm Go
set_option maxRecDepth 100000
set_option maxHeartbeats 4000000

noncomputable def C_nmd1 : Code := codeOf Tryz.f129
noncomputable def cf_nmd1 : Cfg := ⟨15, 4, 2, [], true⟩
noncomputable def C_idxa : Code := codeOf Tryz.f52
noncomputable def cf_idxa : Cfg := ⟨19, 5, 3, [(2, [0, 1, 7, 8])], true⟩
noncomputable def C_find : Code := codeOf Tryz.f61
noncomputable def cf_find : Cfg := ⟨23, 5, 2, [], true⟩
noncomputable def C_ints : Code := codeOf Tryz.f30
noncomputable def cf_ints : Cfg := ⟨20, 5, 2, [], true⟩
noncomputable def C_int1 : Code := codeOf Tryz.f56
noncomputable def cf_int1 : Cfg := ⟨19, 5, 2, [], true⟩
def okA (name : List UInt8) (kind : Int) (a : (Y1).den) : Bool := a.1 == name && a.2.1 == kind
def hpA (z : Bool) (ats : List (Y1).den) (kind : Int) (name : List UInt8) : LHp := [(0, .box (I kind)), (1, .box (.d .str name)), (2, .arr 37 (Y1) 0 z ats)]
theorem nmd1_eq (a : (Y1).den) (kind : Int) (name : List UInt8) : runC e17 Tryz.f129 4 [] [.d (Y1) a, .op 1 [] 0, .op 0 [] 0] [(0, .box (I kind)), (1, .box (.d .str name))] ah =
  bif a.1 == name then some (AEnd.ret [B (a.2.1 == kind)], [(0, AObj.box (I kind)), (1, AObj.box (AV.d Ty.str name))])
  else some (AEnd.ret [B false], [(0, AObj.box (I kind)), (1, AObj.box (AV.d Ty.str name))]) := by kernel_rfl
def nmd1F : List AV → LHp → Option (AEnd × LHp)
  | [.d ((.pair .str (.pair (.int .i64) (.pair (.int .i64) (.pair (.int .i64) (.pair .str (.pair (.pair (.int .i64) (.pair (.slice (.int .i64)) (.pair (.slice (.int .i64)) .unit))) (.pair (.slice (.int .i64)) .unit)))))))) a, .op 1 [] 0, .op 0 [] 0], [(0, .box (.d (.int .i64) kind)), (1, .box (.d .str name))] => some (.ret [B (okA name kind a)], [(0, .box (I kind)), (1, .box (.d .str name))])
  | _, _ => none
theorem nmd1_run (a : (Y1).den) (kind : Int) (name : List UInt8) : runC e17 Tryz.f129 4 [] [.d (Y1) a, .op 1 [] 0, .op 0 [] 0] [(0, .box (I kind)), (1, .box (.d .str name))] ah = some (.ret [B (okA name kind a)], [(0, .box (I kind)), (1, .box (.d .str name))]) := by
  rw [nmd1_eq]
  unfold okA
  cases a.1 == name <;> rfl
theorem nmd1E_ok : FnE.OK e0.P e0.gam 129 (fnE nmd1F) := by
  refine fnC_ok e17_good hmix Tryz.func129 Tryz.call129 (depth := 4) (live := []) (by decide +kernel) rfl fun args hs p h => ?_
  unfold nmd1F at h
  split at h
  · cases h
    exact nmd1_run _ _ _
  · cases h
noncomputable def eJ : Env := e0.add 129 (fnE nmd1F)
theorem eJ_good : eJ.Good := e0_good.add nmd1E_ok
theorem idxa_eqH (hl : Hl) (z : Bool) (ats : List (Y1).den) (kind : Int) (name : List UInt8) : runH eJ Tryz.f52 5 [(2, [0, 1, 7, 8])] [2] hl [.os 2 0, .fn (.func 129) [] [.op 1 [] 0, .op 0 [] 0]] (hpA z ats kind name) ah =
  hl (cL (cL (cR (cL (cR C_idxa))))) _ { fr := mkFr 5 [(0, AV.os 2 0), (1, AV.fn (Fn.func 129) [] [AV.op 1 [] 0, AV.op 0 [] 0]), (7, I (Int.ofNat ats.length)), (8, I 0)], hp := [(0, AObj.box (I kind)), (1, AObj.box (AV.d Ty.str name)), (2, AObj.arr 37 (Ty.str.pair ((i64T).pair ((i64T).pair ((i64T).pair (Ty.str.pair (((i64T).pair ((i64T).slice.pair ((i64T).slice.pair Ty.unit))).pair ((i64T).slice.pair Ty.unit))))))) 0 z ats)], nx := 6 } (blkK 0 (seqH eJ cf_idxa [2] hl (cR (cR C_idxa)) (endC Tryz.prog 3 Tryz.f52.results.toList ah))) := by kernel_rfl
theorem idxa_eq (z : Bool) (ats : List (Y1).den) (kind : Int) (name : List UInt8) : runC eJ Tryz.f52 5 [(2, [0, 1, 7, 8])] [.os 2 0, .fn (.func 129) [] [.op 1 [] 0, .op 0 [] 0]] (hpA z ats kind name) ah =
  (hlp eJ cf_idxa) (cL (cL (cR (cL (cR C_idxa))))) _ { fr := mkFr 5 [(0, AV.os 2 0), (1, AV.fn (Fn.func 129) [] [AV.op 1 [] 0, AV.op 0 [] 0]), (7, I (Int.ofNat ats.length)), (8, I 0)], hp := [(0, AObj.box (I kind)), (1, AObj.box (AV.d Ty.str name)), (2, AObj.arr 37 (Ty.str.pair ((i64T).pair ((i64T).pair ((i64T).pair (Ty.str.pair (((i64T).pair ((i64T).slice.pair ((i64T).slice.pair Ty.unit))).pair ((i64T).slice.pair Ty.unit))))))) 0 z ats)], nx := 6 } (blkK 0 (seqH eJ cf_idxa [2] (hlp eJ cf_idxa) (cR (cR C_idxa)) (endC Tryz.prog 3 Tryz.f52.results.toList ah))) := runH_runC.trans (idxa_eqH (hlp eJ cf_idxa) z ats kind name)
def stA (z : Bool) (ats : List (Y1).den) (kind : Int) (name : List UInt8) (i : Int) : LSt := ⟨mkFr 5 [(0, .os 2 0), (1, .fn (.func 129) [] [.op 1 [] 0, .op 0 [] 0]), (7, I (Int.ofNat ats.length)), (8, I i)], hpA z ats kind name, 6⟩
theorem idxa_stepH (hl : Hl) (z : Bool) (ats : List (Y1).den) (kind : Int) (name : List UInt8) (i : Int) (n : Nat) {R : Type} (k : AEx → LSt → Option R) : lpH eJ cf_idxa [2] hl (cL (cL (cR (cL (cR C_idxa))))) (n + 1) (stA z ats kind name i) k =
  bif decide (i < Int.ofNat ats.length) then (idx ats i).bind fun v1 =>
      (ats[i.toNat]?).bind fun v2 =>
        bif okA name kind v2 then k AEx.ret { fr := mkFr 5 [(0, AV.os 2 0), (1, AV.fn (Fn.func 129) [] [AV.op 1 [] 0, AV.op 0 [] 0]), (4, I i), (5, I i), (7, I (Int.ofNat ats.length)), (8, I i), (9, B true), (10, I i), (11, AV.fn (Fn.func 129) [] [AV.op 1 [] 0, AV.op 0 [] 0]), (12, AV.os 2 0), (13, I i), (14, AV.oe 2 0 i.toNat), (15, AV.d (Ty.str.pair ((i64T).pair ((i64T).pair ((i64T).pair (Ty.str.pair (((i64T).pair ((i64T).slice.pair ((i64T).slice.pair Ty.unit))).pair ((i64T).slice.pair Ty.unit))))))) v2), (16, B true), (17, I i)], hp := [(0, AObj.box (I kind)), (1, AObj.box (AV.d Ty.str name)), (0, AObj.box (I kind)), (1, AObj.box (AV.d Ty.str name)), (2, AObj.arr 37 (Ty.str.pair ((i64T).pair ((i64T).pair ((i64T).pair (Ty.str.pair (((i64T).pair ((i64T).slice.pair ((i64T).slice.pair Ty.unit))).pair ((i64T).slice.pair Ty.unit))))))) 0 z ats)], nx := 8 }
        else lpH eJ cf_idxa [2] hl (cL (cL (cR (cL (cR C_idxa))))) n { fr := mkFr 5 [(0, AV.os 2 0), (1, AV.fn (Fn.func 129) [] [AV.op 1 [] 0, AV.op 0 [] 0]), (7, I (Int.ofNat ats.length)), (8, I (IntKind.i64.wrap (i + 1)))], hp := [(0, AObj.box (I kind)), (1, AObj.box (AV.d Ty.str name)), (2, AObj.arr 37 (Ty.str.pair ((i64T).pair ((i64T).pair ((i64T).pair (Ty.str.pair (((i64T).pair ((i64T).slice.pair ((i64T).slice.pair Ty.unit))).pair ((i64T).slice.pair Ty.unit))))))) 0 z ats)], nx := 6 } k
  else k (AEx.exit 0) { fr := mkFr 5 [(0, AV.os 2 0), (1, AV.fn (Fn.func 129) [] [AV.op 1 [] 0, AV.op 0 [] 0]), (7, I (Int.ofNat ats.length)), (8, I i), (9, B false)], hp := [(0, AObj.box (I kind)), (1, AObj.box (AV.d Ty.str name)), (2, AObj.arr 37 (Ty.str.pair ((i64T).pair ((i64T).pair ((i64T).pair (Ty.str.pair (((i64T).pair ((i64T).slice.pair ((i64T).slice.pair Ty.unit))).pair ((i64T).slice.pair Ty.unit))))))) 0 z ats)], nx := 6 } := by kernel_rfl
theorem idxa_step (z : Bool) (ats : List (Y1).den) (kind : Int) (name : List UInt8) (i : Int) (n : Nat) {R : Type} (k : AEx → LSt → Option R) : lp eJ cf_idxa (cL (cL (cR (cL (cR C_idxa))))) (n + 1) (stA z ats kind name i) k =
  bif decide (i < Int.ofNat ats.length) then (idx ats i).bind fun v1 =>
      (ats[i.toNat]?).bind fun v2 =>
        bif okA name kind v2 then k AEx.ret { fr := mkFr 5 [(0, AV.os 2 0), (1, AV.fn (Fn.func 129) [] [AV.op 1 [] 0, AV.op 0 [] 0]), (4, I i), (5, I i), (7, I (Int.ofNat ats.length)), (8, I i), (9, B true), (10, I i), (11, AV.fn (Fn.func 129) [] [AV.op 1 [] 0, AV.op 0 [] 0]), (12, AV.os 2 0), (13, I i), (14, AV.oe 2 0 i.toNat), (15, AV.d (Ty.str.pair ((i64T).pair ((i64T).pair ((i64T).pair (Ty.str.pair (((i64T).pair ((i64T).slice.pair ((i64T).slice.pair Ty.unit))).pair ((i64T).slice.pair Ty.unit))))))) v2), (16, B true), (17, I i)], hp := [(0, AObj.box (I kind)), (1, AObj.box (AV.d Ty.str name)), (0, AObj.box (I kind)), (1, AObj.box (AV.d Ty.str name)), (2, AObj.arr 37 (Ty.str.pair ((i64T).pair ((i64T).pair ((i64T).pair (Ty.str.pair (((i64T).pair ((i64T).slice.pair ((i64T).slice.pair Ty.unit))).pair ((i64T).slice.pair Ty.unit))))))) 0 z ats)], nx := 8 }
        else lp eJ cf_idxa (cL (cL (cR (cL (cR C_idxa))))) n { fr := mkFr 5 [(0, AV.os 2 0), (1, AV.fn (Fn.func 129) [] [AV.op 1 [] 0, AV.op 0 [] 0]), (7, I (Int.ofNat ats.length)), (8, I (IntKind.i64.wrap (i + 1)))], hp := [(0, AObj.box (I kind)), (1, AObj.box (AV.d Ty.str name)), (2, AObj.arr 37 (Ty.str.pair ((i64T).pair ((i64T).pair ((i64T).pair (Ty.str.pair (((i64T).pair ((i64T).slice.pair ((i64T).slice.pair Ty.unit))).pair ((i64T).slice.pair Ty.unit))))))) 0 z ats)], nx := 6 } k
  else k (AEx.exit 0) { fr := mkFr 5 [(0, AV.os 2 0), (1, AV.fn (Fn.func 129) [] [AV.op 1 [] 0, AV.op 0 [] 0]), (7, I (Int.ofNat ats.length)), (8, I i), (9, B false)], hp := [(0, AObj.box (I kind)), (1, AObj.box (AV.d Ty.str name)), (2, AObj.arr 37 (Ty.str.pair ((i64T).pair ((i64T).pair ((i64T).pair (Ty.str.pair (((i64T).pair ((i64T).slice.pair ((i64T).slice.pair Ty.unit))).pair ((i64T).slice.pair Ty.unit))))))) 0 z ats)], nx := 6 } := by
  have h := idxa_stepH (hlp eJ cf_idxa) z ats kind name i n k
  simp only [lpH_lp] at h
  exact h
theorem idxa_run (z : Bool) (ats : List (Y1).den) (kind : Int) (name : List UInt8) (hl : ats.length ≤ maxLen) : runC eJ Tryz.f52 5 [(2, [0, 1, 7, 8])] [.os 2 0, .fn (.func 129) [] [.op 1 [] 0, .op 0 [] 0]] (hpA z ats kind name) ah = some (.ret [I (idxP (okA name kind) ats)], hpA z ats kind name) := by
  rw [idxa_eq]
  have hs := fun (i : Int) (n : Nat) => idxa_step z ats kind name i n (blkK 0 (seqH eJ cf_idxa [2] (hlp eJ cf_idxa) (cR (cR C_idxa)) (endC Tryz.prog 3 Tryz.f52.results.toList ah)))
  simp only [idx2] at hs
  have h := find_lp (T := fun n s => lp eJ cf_idxa (cL (cL (cR (cL (cR C_idxa))))) n s (blkK 0 (seqH eJ cf_idxa [2] (hlp eJ cf_idxa) (cR (cR C_idxa)) (endC Tryz.prog 3 Tryz.f52.results.toList ah)))) (xs := ats) (st := fun i => stA z ats kind name i) hl hs
  unfold stA hpA at h
  refine h.trans ?_
  unfold idxP
  cases hq : ats.findIdx? (okA name kind) with
  | none => show _ = _; kernel_rfl
  | some i =>
    obtain ⟨hi, _⟩ := List.findIdx?_eq_some_iff_getElem.1 hq
    simp only [List.getElem?_eq_getElem hi, Option.bind_some]
    show _ = _
    kernel_rfl
def idxaF : List AV → LHp → Tq
  | [.os 2 0, .fn (.func 129) [] [.op 1 [] 0, .op 0 [] 0]], [(0, .box (.d (.int .i64) kind)), (1, .box (.d .str name)), (2, .arr 37 ((.pair .str (.pair (.int .i64) (.pair (.int .i64) (.pair (.int .i64) (.pair .str (.pair (.pair (.int .i64) (.pair (.slice (.int .i64)) (.pair (.slice (.int .i64)) .unit))) (.pair (.slice (.int .i64)) .unit)))))))) 0 z ats)] => .br (decide (ats.length ≤ maxLen)) (.leaf (.ret [I (idxP (okA name kind) ats)]) (hpA z ats kind name)) .no
  | _, _ => .no
theorem idxaE_ok : FnE.OK e0.P e0.gam 52 (treeE idxaF) := by
  refine treeC_ok eJ_good hmix Tryz.func52 Tryz.call52 (depth := 5) (live := [(2, [0, 1, 7, 8])]) (by decide +kernel) rfl fun args hs p h => ?_
  unfold idxaF at h
  split at h
  · obtain ⟨hl, h⟩ := Tq.br_no h
    cases h
    have hl := of_decide_eq_true hl
    exact idxa_run _ _ _ _ hl
  · cases h

/-! ### find -/
def nodeA (op nm out : List UInt8) (i a : AV) : AV := .pr (.d .str op) (.pr (.d .str nm) (.pr i (.pr (.d .str out) (.pr a (.d .unit ())))))
def hpN (z z2 : Bool) (ats : List (Y1).den) (ins : List (List UInt8)) : LHp := [(0, .arr 37 (Y1) 0 z ats), (1, .arr 9 .str 0 z2 ins)]
noncomputable def eK : Env := e22.add 52 (treeE idxaF)
noncomputable def eK0 : Env := e22
theorem find_eq (op nm out : List UInt8) (z z2 : Bool) (ats : List (Y1).den) (ins : List (List UInt8)) (name : List UInt8) (kind : Int) : runC eK Tryz.f61 5 [] [nodeA op nm out (.os 1 0) (.os 0 0), .d .str name, I kind] (hpN z z2 ats ins) ah =
  bif decide (ats.length ≤ 9223372036854775807) then 
    bif decide (idxP (fun a => a.fst == name && a.snd.fst == kind) ats < 0) then some (AEnd.ret [(AV.d Ty.str []).pr ((I 0).pr ((I 0).pr ((I 0).pr ((AV.d Ty.str []).pr (((I 0).pr (AV.nils.pr (AV.nils.pr (AV.d Ty.unit PUnit.unit)))).pr (AV.nils.pr (AV.d Ty.unit PUnit.unit))))))), B false], [(0, AObj.arr 37 (Ty.str.pair ((i64T).pair ((i64T).pair ((i64T).pair (Ty.str.pair (((i64T).pair ((i64T).slice.pair ((i64T).slice.pair Ty.unit))).pair ((i64T).slice.pair Ty.unit))))))) 0 z ats), (1, AObj.arr 9 Ty.str 0 z2 ins)])
    else (idx ats (idxP (fun a => a.fst == name && a.snd.fst == kind) ats)).bind fun v2 =>
        (ats[(idxP (fun a => a.fst == name && a.snd.fst == kind) ats).toNat]?).bind fun v3 =>
          some (AEnd.ret [AV.d (Ty.str.pair ((i64T).pair ((i64T).pair ((i64T).pair (Ty.str.pair (((i64T).pair ((i64T).slice.pair ((i64T).slice.pair Ty.unit))).pair ((i64T).slice.pair Ty.unit))))))) v3, B true], [(0, AObj.arr 37 (Ty.str.pair ((i64T).pair ((i64T).pair ((i64T).pair (Ty.str.pair (((i64T).pair ((i64T).slice.pair ((i64T).slice.pair Ty.unit))).pair ((i64T).slice.pair Ty.unit))))))) 0 z ats), (1, AObj.arr 9 Ty.str 0 z2 ins)])
  else none := by kernel_rfl
theorem eK_good : eK.Good := e22_good.add idxaE_ok
theorem idx_find {α : Type} (p : α → Bool) (xs : List α) : idx xs (idxP p xs) = xs.find? p := by
  unfold idxP
  cases h : xs.findIdx? p with
  | none =>
    rw [List.findIdx?_eq_none_iff] at h
    rw [List.find?_eq_none.2 (fun x hx => by simp [h x hx])]
    rfl
  | some i =>
    obtain ⟨hi, hp, hn⟩ := List.findIdx?_eq_some_iff_getElem.1 h
    show idx xs (i : Int) = _
    unfold idx
    rw [if_pos (by omega), Int.toNat_natCast, List.getElem?_eq_getElem hi]
    exact (List.find?_eq_some_iff_getElem.2 ⟨hp, i, hi, rfl, fun j hj => by simpa using hn j hj⟩).symm
def noAttr : AV := (AV.d Ty.str []).pr ((I 0).pr ((I 0).pr ((I 0).pr ((AV.d Ty.str []).pr (((I 0).pr (AV.nils.pr (AV.nils.pr (AV.d Ty.unit PUnit.unit)))).pr (AV.nils.pr (AV.d Ty.unit PUnit.unit)))))))
def findT (z z2 : Bool) (ats : List (Y1).den) (ins : List (List UInt8)) (name : List UInt8) (kind : Int) : Tq :=
  .br (decide (ats.length ≤ 9223372036854775807)) (.br (decide (idxP (okA name kind) ats < 0)) (.leaf (.ret [noAttr, B false]) (hpN z z2 ats ins)) (.opt (ats.find? (okA name kind)) fun a => .leaf (.ret [.d (Y1) a, B true]) (hpN z z2 ats ins))) .no
def nodeP : AV → Option (List UInt8 × List UInt8 × List UInt8 × AV × AV)
  | .pr (.d .str op) (.pr (.d .str nm) (.pr i (.pr (.d .str out) (.pr a (.d .unit _))))) => some (op, nm, out, i, a)
  | _ => none
theorem nodeP_some {n : AV} {op nm out : List UInt8} {i a : AV} (h : nodeP n = some (op, nm, out, i, a)) : n = nodeA op nm out i a := by
  unfold nodeP at h
  split at h
  · cases h; rfl
  · cases h
def findF1 : List AV → LHp → Tq
  | [n, .d .str name, .d (.int .i64) kind], [(0, .arr 37 ((.pair .str (.pair (.int .i64) (.pair (.int .i64) (.pair (.int .i64) (.pair .str (.pair (.pair (.int .i64) (.pair (.slice (.int .i64)) (.pair (.slice (.int .i64)) .unit))) (.pair (.slice (.int .i64)) .unit)))))))) 0 z ats), (1, .arr 9 .str 0 z2 ins)] =>
    (match nodeP n with
    | some (_, _, _, .os 1 0, .os 0 0) => findT z z2 ats ins name kind
    | _ => .no)
  | _, _ => .no
def findF2 : List AV → LHp → Tq
  | [n, .d .str _, .d (.int .i64) _], [(0, .arr 9 .str 0 z2 ins)] =>
    (match nodeP n with
    | some (_, _, _, .os 0 0, .nils) => .leaf (.ret [noAttr, B false]) [(0, .arr 9 .str 0 z2 ins)]
    | _ => .no)
  | _, _ => .no
def findF (args : List AV) (hs : LHp) : Tq := orT (findF1 args hs) (findF2 args hs)
theorem find_nil (op nm out : List UInt8) (z2 : Bool) (ins : List (List UInt8)) (name : List UInt8) (kind : Int) : runC eK0 Tryz.f61 5 [] [nodeA op nm out (.os 0 0) .nils, .d .str name, I kind] [(0, .arr 9 .str 0 z2 ins)] ah =
  some (AEnd.ret [(AV.d Ty.str []).pr ((I 0).pr ((I 0).pr ((I 0).pr ((AV.d Ty.str []).pr (((I 0).pr (AV.nils.pr (AV.nils.pr (AV.d Ty.unit PUnit.unit)))).pr (AV.nils.pr (AV.d Ty.unit PUnit.unit))))))), B false], [(0, AObj.arr 9 Ty.str 0 z2 ins)]) := by kernel_rfl
theorem find_run (op nm out : List UInt8) (z z2 : Bool) (ats : List (Y1).den) (ins : List (List UInt8)) (name : List UInt8) (kind : Int) : runC eK Tryz.f61 5 [] [nodeA op nm out (.os 1 0) (.os 0 0), .d .str name, I kind] (hpN z z2 ats ins) ah = (findT z z2 ats ins name kind).run ah := by
  rw [find_eq]
  simp only [idx2]
  simp only [idx_find]
  unfold findT
  show _ = _
  kernel_rfl
theorem findE_ok : FnE.OK e0.P e0.gam 61 (treeE findF) := by
  have h1 : FnE.OK e0.P e0.gam 61 (execFnC eK Tryz.f61 5 []) := execFnC_ok eK_good hmix Tryz.func61 Tryz.call61 (by decide +kernel) rfl
  have h2 : FnE.OK e0.P e0.gam 61 (execFnC e22 Tryz.f61 5 []) := x61_ok
  refine ⟨fun _ _ _ => Tq.eq _ _, fun args hs ae hs' h => ?_⟩
  have h' : (findF args hs).run ah = some (ae, hs') := h
  clear h
  rcases orT_run h' with h' | h'
  · unfold findF1 at h'
    split at h'
    · split at h'
      · rename_i hn
        rw [nodeP_some hn]
        exact h1.okC ((find_run _ _ _ _ _ _ _ _ _).trans h')
      · cases h'
    · cases h'
  · unfold findF2 at h'
    split at h'
    · split at h'
      · rename_i hn
        rw [nodeP_some hn]
        cases h'
        exact h2.okC (find_nil _ _ _ _ _ _ _)
      · cases h'
    · cases h'
end Go.Proofs.XGT
