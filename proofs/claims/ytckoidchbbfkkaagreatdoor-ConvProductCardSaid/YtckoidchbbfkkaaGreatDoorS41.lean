/- linear.gemm of two matrices: its loop's steps. -/
import Derived.Test.YtckoidchbbfkkaaGreatDoorS39
import Derived.Test.YtckoidchbbfkkaaGreatDoorS40
import Derived.Test.YtckoidchbbfkkaaGreatDoorS38
import Derived.Test.YtckoidchbbfkkaaGreatDoorS27
namespace Go.Proofs.XPT
open Go.Vm Go
set_option maxRecDepth 100000
set_option maxHeartbeats 4000000
noncomputable def C_gmm : Code := codeOf Tryz.f28
noncomputable def cf_gmm : Cfg := ⟨78, 7, 3, [(6, [1, 2, 9, 10, 11, 37, 38]), (12, [9, 11, 58, 59, 60])], true⟩
noncomputable def gGm : Env := (g212.add 53 (normE (treeE prdT))).add 55 (fnE ltwF)
theorem gGm_good : gGm.Good := (g212_good.add (normE_ok prdT_ok)).add ltwE_ok
def hpGm (t1 : Int) (d1 x1 : List Int) (t2 : Int) (d2 x2 : List Int) (d3 : List Int) : LHp := [(0, .arr 3 i64T 0 false d3), (1, .arr 25 (Y0) 0 false [(t1, d1, x1, ()), (t2, d2, x2, ())]), (2, .arr 9 .str 0 false [[120], [119]])]
theorem gmm_eqH (hl : Hl) (t1 a b t2 c d e f : Int) (x y : List Int) : runH gGm Tryz.f28 7 [(6, [1, 2, 9, 10, 11, 37, 38]), (12, [9, 11, 58, 59, 60])] [6] hl [nodeA strGM [] [122] (.os 2 0) .nils, .os 1 0, .os 0 0] (hpGm t1 [a, b] x t2 [c, d] y [e, f]) ah = bif prdOk a b c d x y then hl (cL (cL (cR (cL (cR (cR (cR (cR (cR C_gmm))))))))) _ { fr := mkFr 7 [(1, AV.os 1 0), (2, AV.os 0 0), (9, AV.os 3 0), (10, I 1065353216), (11, I 1065353216), (37, I (Int.ofNat (prodL a.toNat b.toNat d.toNat x y).length)), (38, I 0)], hp := [(0, AObj.arr 3 (i64T) 0 false [e, f]), (1, AObj.arr 25 Y0 0 false [(t1, [a, b], x, ()), (t2, [c, d], y, ())]), (2, AObj.arr 9 Ty.str 0 false [[120], [119]]), (3, AObj.arr 2 (i64T) 0 false (prodL a.toNat b.toNat d.toNat x y))], nx := 7 } (blkK 0 (seqH gGm cf_gmm [6] hl (cR (cR (cR (cR (cR (cR C_gmm)))))) (endC Tryz.prog 3 Tryz.f28.results.toList ah))) else none := by kernel_rfl
theorem gmm_eq (t1 a b t2 c d e f : Int) (x y : List Int) : runC gGm Tryz.f28 7 [(6, [1, 2, 9, 10, 11, 37, 38]), (12, [9, 11, 58, 59, 60])] [nodeA strGM [] [122] (.os 2 0) .nils, .os 1 0, .os 0 0] (hpGm t1 [a, b] x t2 [c, d] y [e, f]) ah = bif prdOk a b c d x y then (hlp gGm cf_gmm) (cL (cL (cR (cL (cR (cR (cR (cR (cR C_gmm))))))))) _ { fr := mkFr 7 [(1, AV.os 1 0), (2, AV.os 0 0), (9, AV.os 3 0), (10, I 1065353216), (11, I 1065353216), (37, I (Int.ofNat (prodL a.toNat b.toNat d.toNat x y).length)), (38, I 0)], hp := [(0, AObj.arr 3 (i64T) 0 false [e, f]), (1, AObj.arr 25 Y0 0 false [(t1, [a, b], x, ()), (t2, [c, d], y, ())]), (2, AObj.arr 9 Ty.str 0 false [[120], [119]]), (3, AObj.arr 2 (i64T) 0 false (prodL a.toNat b.toNat d.toNat x y))], nx := 7 } (blkK 0 (seqH gGm cf_gmm [6] (hlp gGm cf_gmm) (cR (cR (cR (cR (cR (cR C_gmm)))))) (endC Tryz.prog 3 Tryz.f28.results.toList ah))) else none := runH_runC.trans (gmm_eqH (hlp gGm cf_gmm) t1 a b t2 c d e f x y)
def stGm (t1 a b t2 c d e f : Int) (x y : List Int) (n i : Int) (L : List Int) : LSt := { fr := mkFr 7 [(1, AV.os 1 0), (2, AV.os 0 0), (9, AV.os 3 0), (10, I 1065353216), (11, I 1065353216), (37, I n), (38, I i)], hp := hpGm t1 [a, b] x t2 [c, d] y [e, f] ++ [(3, AObj.arr 2 (i64T) 0 false L)], nx := 7 }
theorem gmm_stH (hl : Hl) (t1 a b t2 c d e f : Int) (x y : List Int) (m i : Int) (L : List Int) (n : Nat) {R : Type} (k : AEx → LSt → Option R) : lpH gGm cf_gmm [6] hl (cL (cL (cR (cL (cR (cR (cR (cR (cR C_gmm))))))))) (n + 1) (stGm t1 a b t2 c d e f x y m i L) k = bif decide (i < m) then (idx L i).bind fun v1 => (L[i.toNat]?).bind fun v2 => (idx L i).bind fun v3 => (setN L i.toNat (binW BinOp.mul 1065353216 v2)).bind fun v4 => lpH gGm cf_gmm [6] hl (cL (cL (cR (cL (cR (cR (cR (cR (cR C_gmm))))))))) n { fr := mkFr 7 [(1, AV.os 1 0), (2, AV.os 0 0), (9, AV.os 3 0), (10, I 1065353216), (11, I 1065353216), (37, I m), (38, I (IntKind.i64.wrap (i + 1)))], hp := [(0, AObj.arr 3 (i64T) 0 false [e, f]), (1, AObj.arr 25 Y0 0 false [(t1, [a, b], x, ()), (t2, [c, d], y, ())]), (2, AObj.arr 9 Ty.str 0 false [[120], [119]]), (3, AObj.arr 2 (i64T) 0 false v4)], nx := 7 } k else k (AEx.exit 0) { fr := mkFr 7 [(1, AV.os 1 0), (2, AV.os 0 0), (9, AV.os 3 0), (10, I 1065353216), (11, I 1065353216), (37, I m), (38, I i), (39, B false)], hp := [(0, AObj.arr 3 (i64T) 0 false [e, f]), (1, AObj.arr 25 Y0 0 false [(t1, [a, b], x, ()), (t2, [c, d], y, ())]), (2, AObj.arr 9 Ty.str 0 false [[120], [119]]), (3, AObj.arr 2 (i64T) 0 false L)], nx := 7 } := by kernel_rfl
theorem gmm_st (t1 a b t2 c d e f : Int) (x y : List Int) (m i : Int) (L : List Int) (n : Nat) {R : Type} (k : AEx → LSt → Option R) : lp gGm cf_gmm (cL (cL (cR (cL (cR (cR (cR (cR (cR C_gmm))))))))) (n + 1) (stGm t1 a b t2 c d e f x y m i L) k = bif decide (i < m) then (idx L i).bind fun v1 => (L[i.toNat]?).bind fun v2 => (idx L i).bind fun v3 => (setN L i.toNat (binW BinOp.mul 1065353216 v2)).bind fun v4 => lp gGm cf_gmm (cL (cL (cR (cL (cR (cR (cR (cR (cR C_gmm))))))))) n { fr := mkFr 7 [(1, AV.os 1 0), (2, AV.os 0 0), (9, AV.os 3 0), (10, I 1065353216), (11, I 1065353216), (37, I m), (38, I (IntKind.i64.wrap (i + 1)))], hp := [(0, AObj.arr 3 (i64T) 0 false [e, f]), (1, AObj.arr 25 Y0 0 false [(t1, [a, b], x, ()), (t2, [c, d], y, ())]), (2, AObj.arr 9 Ty.str 0 false [[120], [119]]), (3, AObj.arr 2 (i64T) 0 false v4)], nx := 7 } k else k (AEx.exit 0) { fr := mkFr 7 [(1, AV.os 1 0), (2, AV.os 0 0), (9, AV.os 3 0), (10, I 1065353216), (11, I 1065353216), (37, I m), (38, I i), (39, B false)], hp := [(0, AObj.arr 3 (i64T) 0 false [e, f]), (1, AObj.arr 25 Y0 0 false [(t1, [a, b], x, ()), (t2, [c, d], y, ())]), (2, AObj.arr 9 Ty.str 0 false [[120], [119]]), (3, AObj.arr 2 (i64T) 0 false L)], nx := 7 } := by
  have h := gmm_stH (hlp gGm cf_gmm) t1 a b t2 c d e f x y m i L n k
  simp only [lpH_lp] at h
  exact h
noncomputable def GmK : AEx → LSt → Option (AEnd × LHp) := (blkK 0 (seqH gGm cf_gmm [6] (hlp gGm cf_gmm) (cR (cR (cR (cR (cR (cR C_gmm)))))) (endC Tryz.prog 3 Tryz.f28.results.toList ah)))
def stGmE (t1 a b t2 c d e f : Int) (x y : List Int) (n i : Int) (L : List Int) : LSt := { fr := mkFr 7 [(1, AV.os 1 0), (2, AV.os 0 0), (9, AV.os 3 0), (10, I 1065353216), (11, I 1065353216), (37, I n), (38, I i), (39, B false)], hp := hpGm t1 [a, b] x t2 [c, d] y [e, f] ++ [(3, AObj.arr 2 (i64T) 0 false L)], nx := 7 }
theorem gmm_end (t1 a b t2 c d e f : Int) (x y : List Int) (m i : Int) (L : List Int) : GmK (.exit 0) (stGmE t1 a b t2 c d e f x y m i L) = some (AEnd.ret [AV.os 3 0], [(0, AObj.arr 3 (i64T) 0 false [e, f]), (1, AObj.arr 25 Y0 0 false [(t1, [a, b], x, ()), (t2, [c, d], y, ())]), (2, AObj.arr 9 Ty.str 0 false [[120], [119]]), (3, AObj.arr 2 (i64T) 0 false L)]) := by kernel_rfl
end Go.Proofs.XPT
namespace Go.Proofs.XPT
open Go.Vm Go
set_option maxRecDepth 100000
set_option maxHeartbeats 1000000
def mulU (L : List Int) : List Int := L.map (binW .mul 1065353216)
def mixU (L : List Int) (i : Nat) : List Int := (mulU L).take i ++ L.drop i
theorem mixU_get {L : List Int} {i : Nat} (h : i < L.length) : (mixU L i)[i]? = L[i]? := by
  have hl : ((mulU L).take i).length = i := by simp [mulU]; omega
  unfold mixU
  rw [List.getElem?_append_right (by omega), hl, Nat.sub_self, List.getElem?_drop, Nat.add_zero]
theorem mixU_set {L : List Int} {i : Nat} (h : i < L.length) : setN (mixU L i) i (binW .mul 1065353216 L[i]) = some (mixU L (i + 1)) := by
  have hl : ((mulU L).take i).length = i := by simp [mulU]; omega
  have hL : (mixU L i).length = L.length := by unfold mixU; rw [List.length_append, hl, List.length_drop]; omega
  have e : (mixU L i).set i (binW .mul 1065353216 L[i]) = mixU L (i + 1) := by
    unfold mixU
    rw [List.set_append_right _ _ (by omega), hl, Nat.sub_self, List.drop_eq_getElem_cons h, List.set_cons_zero]
    have h2 : i < (mulU L).length := by simp [mulU]; exact h
    rw [← List.take_append_getElem h2, List.append_assoc]
    simp [mulU]
  unfold setN
  rw [hL, show Nat.blt i L.length = true from Nat.ble_eq_true_of_le h, cond_true, e]
theorem gmm_loop {t1 a b t2 c d e f : Int} {x y L : List Int} (hl : L.length ≤ 65536) : lp gGm cf_gmm (cL (cL (cR (cL (cR (cR (cR (cR (cR C_gmm))))))))) fu (stGm t1 a b t2 c d e f x y L.length 0 L) GmK = some (.ret [.os 3 0], hpGm t1 [a, b] x t2 [c, d] y [e, f] ++ [(3, .arr 2 i64T 0 false (mulU L))]) := by
  have hf : fu = 18446744073709551616 := rfl
  have key := lp_to (T := fun m s => lp gGm cf_gmm (cL (cL (cR (cL (cR (cR (cR (cR (cR C_gmm))))))))) m s GmK) (f := fun i : Nat => stGm t1 a b t2 c d e f x y L.length i (mixU L i)) L.length fu (by omega) (fun i hi n => by
    have e0 : IntKind.i64.wrap ((i : Int) + 1) = ((i + 1 : Nat) : Int) := by rw [wrap64 (by omega) (by omega)]; omega
    have hx : (mixU L i)[i]? = some L[i] := by rw [mixU_get hi, List.getElem?_eq_getElem hi]
    have hidx : idx (mixU L i) (i : Int) = some L[i] := by unfold idx; rw [if_pos (by omega), Int.toNat_natCast, hx]
    show lp gGm cf_gmm (cL (cL (cR (cL (cR (cR (cR (cR (cR C_gmm))))))))) (n + 1) (stGm t1 a b t2 c d e f x y L.length i (mixU L i)) GmK = _
    rw [gmm_st, decide_eq_true (show (i : Int) < (L.length : Int) by omega), hidx]
    rw [cond_true, Option.bind_some, Int.toNat_natCast, hx, Option.bind_some, Option.bind_some, mixU_set hi, Option.bind_some, e0]
    rfl)
  have e1 : mixU L 0 = L := by simp [mixU]
  have e2 : mixU L L.length = mulU L := by unfold mixU; rw [List.take_of_length_le (by simp [mulU]), List.drop_eq_nil_of_le (Nat.le_refl _), List.append_nil]
  simp only [e1, e2] at key
  refine Eq.trans key ?_
  obtain ⟨m', hm'⟩ : ∃ m', fu - L.length = m' + 1 := ⟨fu - L.length - 1, by omega⟩
  rw [hm', gmm_st, decide_eq_false (Int.lt_irrefl _), cond_false]
  exact gmm_end _ _ _ _ _ _ _ _ _ _ _ _ _
theorem gmm_run {t1 a b t2 c d e f : Int} {x y : List Int} (h : mmOk a b c d x y = true) : runC gGm Tryz.f28 7 [(6, [1, 2, 9, 10, 11, 37, 38]), (12, [9, 11, 58, 59, 60])] [nodeA strGM [] [122] (.os 2 0) .nils, .os 1 0, .os 0 0] (hpGm t1 [a, b] x t2 [c, d] y [e, f]) ah = some (.ret [.os 3 0], hpGm t1 [a, b] x t2 [c, d] y [e, f] ++ [(3, .arr 2 i64T 0 false (mulU (prodL a.toNat b.toNat d.toNat x y)))]) := by
  have hp := mmOk_prd h
  have hlen : (prodL a.toNat b.toNat d.toNat x y).length ≤ 65536 := by
    obtain ⟨_, _, h3, _⟩ := of_decide_eq_true hp
    rw [prodL_length]
    exact h3
  have key : runC gGm Tryz.f28 7 [(6, [1, 2, 9, 10, 11, 37, 38]), (12, [9, 11, 58, 59, 60])] [nodeA strGM [] [122] (.os 2 0) .nils, .os 1 0, .os 0 0] (hpGm t1 [a, b] x t2 [c, d] y [e, f]) ah = lp gGm cf_gmm (cL (cL (cR (cL (cR (cR (cR (cR (cR C_gmm))))))))) fu (stGm t1 a b t2 c d e f x y (prodL a.toNat b.toNat d.toNat x y).length 0 (prodL a.toNat b.toNat d.toNat x y)) GmK := (gmm_eq t1 a b t2 c d e f x y).trans (by
    rw [hp, cond_true]
    kernel_rfl)
  exact key.trans (gmm_loop hlen)
def gmmT : List AV → LHp → Tq
  | [n, .os 1 0, .os 0 0], [(0, .arr 3 (.int .i64) 0 false [e, f]), (1, .arr 25 ((.pair (.int .i64) (.pair (.slice (.int .i64)) (.pair (.slice (.int .i64)) .unit)))) 0 false [(t1, [a, b], x, ()), (t2, [c, d], y, ())]), (2, .arr 9 .str 0 false ins)] =>
    (match nodeP n with
    | some (op, nm, out, .os 2 0, .nils) => gate (decide (op = strGM) && decide (nm = []) && decide (out = [122]) && decide (ins = [[120], [119]]))
        (.br (mmOk a b c d x y) (.leaf (.ret [.os 3 0]) (hpGm t1 [a, b] x t2 [c, d] y [e, f] ++ [(3, .arr 2 i64T 0 false (mulU (prodL a.toNat b.toNat d.toNat x y)))])) .no)
    | _ => .no)
  | _, _ => .no
theorem gmmT_ok : FnE.OK e0.P e0.gam 28 (treeE gmmT) := by
  have h1 : FnE.OK e0.P e0.gam 28 (execFnC gGm Tryz.f28 7 [(6, [1, 2, 9, 10, 11, 37, 38]), (12, [9, 11, 58, 59, 60])]) := execFnC_ok gGm_good hmix Tryz.func28 Tryz.call28 (by decide +kernel) rfl
  refine ⟨fun _ _ _ => Tq.eq _ _, fun args hs ae hs' h => ?_⟩
  have h' : (gmmT args hs).run ah = some (ae, hs') := h
  clear h
  unfold gmmT at h'
  split at h'
  · split at h'
    · rename_i hn
      rw [nodeP_some hn]
      obtain ⟨hb, h2⟩ := gate_run h'
      clear h'
      simp only [Bool.and_eq_true, decide_eq_true_eq] at hb
      obtain ⟨⟨⟨b1, b2⟩, b3⟩, b4⟩ := hb
      subst b1 b2 b3 b4
      obtain ⟨hl, h3⟩ := Tq.br_no h2
      cases h3
      exact h1.okC (gmm_run hl)
    · cases h'
  · cases h'
end Go.Proofs.XPT
namespace Go.Proofs.XPT
open Go.Vm Go
set_option maxRecDepth 100000
set_option maxHeartbeats 4000000
noncomputable def gLd : Env := ((g213.add 26 (treeE bgnT)).add 27 (treeE mmlT)).add 28 (treeE gmmT)
theorem gLd_good : gLd.Good := ((g213_good.add bgnT_ok).add mmlT_ok).add gmmT_ok
theorem ldm_eq (t1 a b t2 c d : Int) (x y : List Int) : runC gLd Tryz.f8 6 [] [nodeA strMM [] [122] (.os 1 0) .nils, .os 0 0] (hpL false t1 [a, b] x t2 [c, d] y) ah = bif decide (x.length ≤ 9223372036854775807 ∧ y.length ≤ 9223372036854775807) then  bif bgnE t1 a b x t2 c d y != 0 then  bif bgnE t1 a b x t2 c d y != 0 then some (AEnd.ret [(I 0).pr (AV.nils.pr (AV.nils.pr (AV.d Ty.unit PUnit.unit))), I (bgnE t1 a b x t2 c d y)], [(0, AObj.arr 25 Y0 0 false [(t1, [a, b], x, ()), (t2, [c, d], y, ())]), (1, AObj.arr 9 Ty.str 0 false [[120], [119]])]) else none else  bif mmOk a b c d x y then some (AEnd.ret [(I t1).pr ((AV.os 2 0).pr ((AV.os 3 0).pr (AV.d Ty.unit PUnit.unit))), I 0], [(0, AObj.arr 25 Y0 0 false [(t1, [a, b], x, ()), (t2, [c, d], y, ())]), (1, AObj.arr 9 Ty.str 0 false [[120], [119]]), (2, AObj.arr 3 (i64T) 0 true [a, d]), (3, AObj.arr 2 (i64T) 0 false (prodL a.toNat b.toNat d.toNat x y))]) else none else none := by kernel_rfl
theorem ldg_eq (t1 a b t2 c d : Int) (x y : List Int) : runC gLd Tryz.f8 6 [] [nodeA strGM [] [122] (.os 1 0) .nils, .os 0 0] (hpL false t1 [a, b] x t2 [c, d] y) ah = bif decide (x.length ≤ 9223372036854775807 ∧ y.length ≤ 9223372036854775807) then  bif bgnE t1 a b x t2 c d y != 0 then  bif bgnE t1 a b x t2 c d y != 0 then some (AEnd.ret [(I 0).pr (AV.nils.pr (AV.nils.pr (AV.d Ty.unit PUnit.unit))), I (bgnE t1 a b x t2 c d y)], [(0, AObj.arr 25 Y0 0 false [(t1, [a, b], x, ()), (t2, [c, d], y, ())]), (1, AObj.arr 9 Ty.str 0 false [[120], [119]])]) else none else  bif mmOk a b c d x y then some (AEnd.ret [(I t1).pr ((AV.os 2 0).pr ((AV.os 3 0).pr (AV.d Ty.unit PUnit.unit))), I 0], [(0, AObj.arr 25 Y0 0 false [(t1, [a, b], x, ()), (t2, [c, d], y, ())]), (1, AObj.arr 9 Ty.str 0 false [[120], [119]]), (2, AObj.arr 3 (i64T) 0 false [a, d]), (3, AObj.arr 2 (i64T) 0 false (mulU (prodL a.toNat b.toNat d.toNat x y)))]) else none else none := by kernel_rfl
end Go.Proofs.XPT
namespace Go.Proofs.XPT
open Go.Vm Go
set_option maxRecDepth 100000
set_option maxHeartbeats 1000000
def zeroTL : AV := (I 0).pr (AV.nils.pr (AV.nils.pr (AV.d Ty.unit PUnit.unit)))
def okTL (t : Int) : AV := (I t).pr ((AV.os 2 0).pr ((AV.os 3 0).pr (AV.d Ty.unit PUnit.unit)))
theorem bgnE_ok {t1 a b t2 c d : Int} {x y : List Int} (h : bgnE t1 a b x t2 c d y = 0) : mmOk a b c d x y = true ∧ t1 = 1 ∧ t2 = 1 ∧ tenE t1 [a, b] x = 0 ∧ tenE t2 [c, d] y = 0 ∧ countE [a, d] = 0 := by
  unfold bgnE at h
  cases e1 : tenE t1 [a, b] x != 0 with
  | true => rw [e1] at h; exact absurd (show (1 : Int) = 0 from h) (by decide)
  | false =>
    cases e2 : tenE t2 [c, d] y != 0 with
    | true => rw [e1, e2] at h; exact absurd (show (1 : Int) = 0 from h) (by decide)
    | false =>
      cases e3 : t1 != 1 with
      | true => rw [e1, e2, e3] at h; exact absurd (show (4 : Int) = 0 from h) (by decide)
      | false =>
        cases e4 : t2 != 1 with
        | true => rw [e1, e2, e3, e4] at h; exact absurd (show (4 : Int) = 0 from h) (by decide)
        | false =>
          cases e5 : !b == c with
          | true => rw [e1, e2, e3, e4, e5] at h; exact absurd (show (4 : Int) = 0 from h) (by decide)
          | false =>
            rw [e1, e2, e3, e4, e5] at h
            have h : countE [a, d] = 0 := h
            have e1 : tenE t1 [a, b] x = 0 := by simpa using e1
            have e2 : tenE t2 [c, d] y = 0 := by simpa using e2
            obtain ⟨_, n1, n2, _⟩ := ten_ok e1
            obtain ⟨_, m1, m2, _⟩ := ten_ok e2
            obtain ⟨p1, _, p3, p4⟩ := count_ok n1
            obtain ⟨q1, _, q3, q4⟩ := count_ok m1
            obtain ⟨r1, _, r3, r4⟩ := count_ok h
            have ep : ∀ u v : Int, prodI [u, v] = u * v := fun u v => by show 1 * u * v = u * v; rw [Int.one_mul]
            rw [ep] at p3 p4 q3 q4 r3 r4
            have hbc : c = b := by
              simp only [Bool.not_eq_false', beq_iff_eq] at e5
              exact e5.symm
            refine ⟨decide_eq_true ⟨⟨p1 a (by simp), p1 b (by simp), p3, by omega⟩, ⟨q1 c (by simp), q1 d (by simp), q3, by omega⟩, hbc, r3⟩, by simpa using e3, by simpa using e4, e1, e2, h⟩
def two2 : List Int → Option (Int × Int)
  | [a, b] => some (a, b)
  | _ => none
theorem two2_some {xs : List Int} {p : Int × Int} (h : two2 xs = some p) : xs = [p.1, p.2] := by
  unfold two2 at h
  split at h
  · cases h
    rfl
  · cases h
def ldoT (op0 : List UInt8) (z : Bool) (f : Int → Int → Int → List Int → List Int → List Int) : List AV → LHp → Tq
  | [n, .os 0 0], [(0, .arr 25 ((.pair (.int .i64) (.pair (.slice (.int .i64)) (.pair (.slice (.int .i64)) .unit)))) 0 false [(t1, xd, x, ()), (t2, yd, y, ())]), (1, .arr 9 .str 0 false ins)] =>
    (match nodeP n with
    | some (op, nm, out, .os 1 0, .nils) => gate (decide (op = op0) && decide (nm = []) && decide (out = [122]) && decide (ins = [[120], [119]]))
        (.opt (two2 xd) fun p => .opt (two2 yd) fun q => .br (decide (x.length ≤ maxLen ∧ y.length ≤ maxLen)) (.br (bgnE t1 p.1 p.2 x t2 q.1 q.2 y != 0) (.leaf (.ret [zeroTL, I (bgnE t1 p.1 p.2 x t2 q.1 q.2 y)]) (hpL false t1 [p.1, p.2] x t2 [q.1, q.2] y)) (.leaf (.ret [okTL t1, I 0]) (hpL false t1 [p.1, p.2] x t2 [q.1, q.2] y ++ [(2, .arr 3 i64T 0 z [p.1, q.2]), (3, .arr 2 i64T 0 false (f p.1 p.2 q.2 x y))]))) .no)
    | _ => .no)
  | _, _ => .no
def fMM (a b d : Int) (x y : List Int) : List Int := prodL a.toNat b.toNat d.toNat x y
def fGM (a b d : Int) (x y : List Int) : List Int := mulU (prodL a.toNat b.toNat d.toNat x y)
theorem ldoT_ok {op0 : List UInt8} {z : Bool} {f : Int → Int → Int → List Int → List Int → List Int} (hc : ∀ (t1 a b t2 c d : Int) (x y : List Int) (_ : x.length ≤ maxLen ∧ y.length ≤ maxLen), runC gLd Tryz.f8 6 [] [nodeA op0 [] [122] (.os 1 0) .nils, .os 0 0] (hpL false t1 [a, b] x t2 [c, d] y) ah =
    bif bgnE t1 a b x t2 c d y != 0 then some (.ret [zeroTL, I (bgnE t1 a b x t2 c d y)], hpL false t1 [a, b] x t2 [c, d] y) else some (.ret [okTL t1, I 0], hpL false t1 [a, b] x t2 [c, d] y ++ [(2, .arr 3 i64T 0 z [a, d]), (3, .arr 2 i64T 0 false (f a b d x y))])) : FnE.OK e0.P e0.gam 8 (treeE (ldoT op0 z f)) := by
  have h1 : FnE.OK e0.P e0.gam 8 (execFnC gLd Tryz.f8 6 []) := execFnC_ok gLd_good hmix Tryz.func8 Tryz.call8 (by decide +kernel) rfl
  refine ⟨fun _ _ _ => Tq.eq _ _, fun args hs ae hs' h => ?_⟩
  have h' : (ldoT op0 z f args hs).run ah = some (ae, hs') := h
  clear h
  unfold ldoT at h'
  split at h'
  · split at h'
    · rename_i hn
      rw [nodeP_some hn]
      obtain ⟨hb, h2⟩ := gate_run h'
      clear h'
      simp only [Bool.and_eq_true, decide_eq_true_eq] at hb
      obtain ⟨⟨⟨b1, b2⟩, b3⟩, b4⟩ := hb
      subst b1 b2 b3 b4
      simp only [Tq.run] at h2
      obtain ⟨p, hp, h3⟩ := bind_some h2
      obtain ⟨q, hq, h4⟩ := bind_some h3
      clear h2 h3
      rw [two2_some hp, two2_some hq]
      have bif_none' : ∀ {c : Bool} {x : Option (AEnd × LHp)} {r : AEnd × LHp}, (bif c then x else none) = some r → c = true ∧ x = some r := fun {c x r} h => by
        cases c with
        | true => exact ⟨rfl, h⟩
        | false => cases h
      obtain ⟨hl, h5⟩ := bif_none' h4
      exact h1.okC ((hc _ _ _ _ _ _ _ _ (of_decide_eq_true hl)).trans h5)
    · cases h'
  · cases h'
theorem ldmT_ok : FnE.OK e0.P e0.gam 8 (treeE (ldoT strMM true fMM)) := ldoT_ok fun t1 a b t2 c d x y hl => by
  rw [ldm_eq, decide_eq_true (show x.length ≤ 9223372036854775807 ∧ y.length ≤ 9223372036854775807 from hl)]
  cases hb : bgnE t1 a b x t2 c d y != 0 with
  | true => rfl
  | false =>
    rw [(bgnE_ok (show bgnE t1 a b x t2 c d y = 0 by simpa using hb)).1]
    rfl
theorem ldgT_ok : FnE.OK e0.P e0.gam 8 (treeE (ldoT strGM false fGM)) := ldoT_ok fun t1 a b t2 c d x y hl => by
  rw [ldg_eq, decide_eq_true (show x.length ≤ 9223372036854775807 ∧ y.length ≤ 9223372036854775807 from hl)]
  cases hb : bgnE t1 a b x t2 c d y != 0 with
  | true => rfl
  | false =>
    rw [(bgnE_ok (show bgnE t1 a b x t2 c d y = 0 by simpa using hb)).1]
    rfl
def ldoF (a : List AV) (h : LHp) : Tq := orT (ldoT strMM true fMM a h) (ldoT strGM false fGM a h)
theorem ldoF_ok : FnE.OK e0.P e0.gam 8 (treeE ldoF) := treeE_or ldmT_ok ldgT_ok
end Go.Proofs.XPT
namespace Go.Proofs.XPT
open Go.Vm Go
set_option maxRecDepth 100000
set_option maxHeartbeats 1000000
theorem ep2 (u v : Int) : prodI [u, v] = u * v := by show 1 * u * v = u * v; rw [Int.one_mul]
theorem countE_mk {xs : List Int} (h1 : ∀ x ∈ xs, 1 ≤ x) (h2 : xs.length ≤ 6) (h3 : prodI xs ≤ 65536) : countE xs = 0 ∧ countN xs = prodI xs := by
  have e1 : decide (idxP (fun d => decide (d < 1)) xs ≥ 0) = false := by
    rw [idxP_ge, List.any_eq_false]
    intro x hx
    have := h1 x hx
    simp only [decide_eq_true_eq]
    omega
  have e2 : decide (Int.ofNat xs.length > 6) = false := decide_eq_false (by simp only [Int.ofNat_eq_natCast]; omega)
  have e3 : bigI xs = false := by
    unfold bigI
    exact decide_eq_false (by omega)
  unfold countE countN
  rw [e1, e2, e3]
  exact ⟨rfl, rfl⟩
theorem tenE_mk {t : Int} {xd dt : List Int} (h1 : numOk t 0 = true) (h2 : countE xd = 0) (h3 : (dt.length : Int) = countN xd) (h4 : ∀ x ∈ dt, numOk t x = true) : tenE t xd dt = 0 := by
  unfold tenE
  rw [h1, h2, show (Int.ofNat dt.length != countN xd) = false by rw [bne_eq_false_iff_eq]; exact h3, List.any_eq_false.2 (fun x hx => by rw [h4 x hx]; simp)]
  rfl
/-- what is known where a product is made -/
structure Ok2 (t1 t2 : Int) (M K N : Nat) (x y : List Int) : Prop where
  m1 : 1 ≤ M
  k1 : 1 ≤ K
  n1 : 1 ≤ N
  hmk : M * K ≤ 65536
  hkn : K * N ≤ 65536
  hmn : M * N ≤ 65536
  lx : x.length = M * K
  ly : y.length = K * N
  e1 : t1 = 1
  e2 : t2 = 1
  nx : ∀ v ∈ x, numOk 1 v = true
  tx : tenE t1 [(M : Int), K] x = 0
  ty : tenE t2 [(K : Int), N] y = 0
end Go.Proofs.XPT
namespace Go.Proofs.XPT
open Go.Vm Go
set_option maxRecDepth 100000
set_option maxHeartbeats 1000000
theorem wN {n : Nat} (h : n ≤ 65536) : IntKind.i64.wrap ((n : Nat) : Int) = ((n : Nat) : Int) := wrap64 (by omega) (by omega)
/-- what comes out of the first n places, and zeros -/
def cvL (M C P : Nat) (x y : List Int) (n : Nat) : List Int := tab (M * P) fun r => if r < n then cvF P C x y (r % P) (r / P) C else 0
theorem cvL_set {M C P n : Nat} {x y : List Int} (h : n < M * P) : setN (cvL M C P x y n) n (cvF P C x y (n % P) (n / P) C) = some (cvL M C P x y (n + 1)) := by
  unfold cvL
  rw [tab_set h]
  congr 1
  refine tab_congr fun p _ => ?_
  by_cases e : p = n
  · subst e
    rw [if_pos rfl, if_pos (by omega)]
  · rw [if_neg e]
    by_cases e2 : p < n
    · rw [if_pos e2, if_pos (by omega)]
    · rw [if_neg e2, if_neg (by omega)]
theorem cvL_zero {M C P : Nat} {x y : List Int} : List.replicate (M * P) (0 : Int) = cvL M C P x y 0 := by
  unfold cvL tab
  rw [show (fun r => if r < 0 then cvF P C x y (r % P) (r / P) C else (0 : Int)) = fun _ => 0 from funext fun r => by rw [if_neg (by omega)], List.map_const', List.length_range]
theorem cv_join (nn : Nat) (k : AEx → LSt → Option (AEnd × LHp)) (t1 c h w t2 m pl pe per : Int) (x y o : List Int) (N i q a b s ch : Int) : hlp gCv cf_cnv (cL (cL (cR (cL (cR (cR (cR (cR (cL (cL (cR (cR (cL (cL (cR (cL (cR (cR (cR (cR (cR (cR (cR (cR C_cnv)))))))))))))))))))))))) (AEnd × LHp) (stC1 t1 c h w t2 m pl pe per x y o N i q a b s ch) (CKH (hlp gCv cf_cnv) nn k) = lp gCv cf_cnv (cL (cL (cR (cL (cR (cR (cR (cR (cL (cL (cR (cR (cL (cL (cR (cL (cR (cR (cR (cR (cR (cR (cR (cR C_cnv)))))))))))))))))))))))) fu (stC1 t1 c h w t2 m pl pe per x y o N i q a b s ch) (CKH (hlp gCv cf_cnv) nn k) := rfl
theorem cv_lp0 {t1 t2 : Int} {H W M C P : Nat} {x y : List Int} (hP : P = H * W) (hM : 1 ≤ M) (hH : 1 ≤ H) (hW : 1 ≤ W) (hC : 1 ≤ C) (hx : x.length = C * P) (hy : y.length = M * C) (h1 : C * P ≤ 65536) (h2 : M * C ≤ 65536) (h3 : P ≤ 65536) (h4 : M * P ≤ 65536) (hc : countE [1, (M : Nat), (H : Nat), (W : Nat)] = 0) (hcn : countN [1, (M : Nat), (H : Nat), (W : Nat)] = ((M * P : Nat) : Int)) :
    ∀ (r i nn : Nat), i + r = M * P → r < nn → lp gCv cf_cnv (cL (cL (cR (cL (cR (cR (cR (cR (cR (cR (cR (cR C_cnv)))))))))))) nn (stC0 t1 C H W t2 M C P M x y (cvL M C P x y i) ((M * P : Nat) : Int) i) CK0 = some (.ret [.os 3 0], hpCv false t1 [1, C, H, W] x t2 [M, C, 1, 1] y [1, M, H, W] ++ [(3, .arr 2 i64T 0 false (cvL M C P x y (M * P)))]) := by
  intro r
  induction r with
  | zero =>
    intro i nn hi hn
    obtain ⟨nn, rfl⟩ : ∃ m', nn = m' + 1 := ⟨nn - 1, by omega⟩
    obtain rfl : i = M * P := by omega
    rw [cnv_s0, decide_eq_false (Int.lt_irrefl _), cond_false]
    exact cnv_k0 t1 C H W t2 M C P M x y _ _ _
  | succ r ih =>
    intro i nn hi hn
    obtain ⟨nn, rfl⟩ : ∃ m', nn = m' + 1 := ⟨nn - 1, by omega⟩
    have key := ih (i + 1) nn (by omega) (by omega)
    have hiN : i < M * P := by omega
    have hP1 : 1 ≤ P := by rw [hP]; exact Nat.mul_pos hH hW
    have hM2 : M ≤ 65536 := Nat.le_trans (Nat.le_mul_of_pos_right M (by omega : 0 < C)) h2
    have hWP : W ≤ P := by rw [hP]; exact Nat.le_mul_of_pos_left _ (by omega)
    have hHP : H ≤ P := by rw [hP]; exact Nat.le_mul_of_pos_right _ (by omega)
    have hC2 : C ≤ 65536 := Nat.le_trans (Nat.le_mul_of_pos_right C (by omega : 0 < P)) h1
    have d1 : IntKind.i64.wrap (1 * ((W : Nat) : Int)) = ((W : Nat) : Int) := by rw [wrap64 (by omega) (by omega)]; omega
    have d2 : IntKind.i64.wrap (((W : Nat) : Int) * ((H : Nat) : Int)) = ((P : Nat) : Int) := by
      rw [← Int.natCast_mul, Nat.mul_comm, ← hP]
      exact wrap64 (by omega) (by omega)
    have d3 : IntKind.i64.wrap (((P : Nat) : Int) * ((M : Nat) : Int)) = ((M * P : Nat) : Int) := by
      rw [← Int.natCast_mul, Nat.mul_comm]
      exact wrap64 (by omega) (by omega)
    have f1 : IntKind.i64.wrap (((i : Nat) : Int).tdiv ((M * P : Nat) : Int)) = 0 := by
      rw [show ((i : Nat) : Int).tdiv ((M * P : Nat) : Int) = ((i / (M * P) : Nat) : Int) from (Int.ofNat_tdiv _ _).symm, Nat.div_eq_of_lt hiN]
      exact wrap64 (by omega) (by omega)
    have f2 : ((i : Nat) : Int).tmod ((M * P : Nat) : Int) = ((i : Nat) : Int) := by
      rw [show ((i : Nat) : Int).tmod ((M * P : Nat) : Int) = ((i % (M * P) : Nat) : Int) from (Int.ofNat_tmod _ _).symm, Nat.mod_eq_of_lt hiN]
    have hq : i / P < M := Nat.div_lt_of_lt_mul (by rw [Nat.mul_comm]; exact hiN)
    have hr : i % P < P := Nat.mod_lt _ hP1
    have f3 : IntKind.i64.wrap (((i : Nat) : Int).tdiv ((P : Nat) : Int)) = ((i / P : Nat) : Int) := by
      rw [show ((i : Nat) : Int).tdiv ((P : Nat) : Int) = ((i / P : Nat) : Int) from (Int.ofNat_tdiv _ _).symm]
      exact wN (Nat.le_of_lt (Nat.lt_of_lt_of_le hq hM2))
    have f4 : ((i : Nat) : Int).tmod ((P : Nat) : Int) = ((i % P : Nat) : Int) := (Int.ofNat_tmod _ _).symm
    have ha : i % P / W < H := Nat.div_lt_of_lt_mul (by rw [Nat.mul_comm, ← hP]; exact hr)
    have hb : i % P % W < W := Nat.mod_lt _ (by omega)
    have f5 : IntKind.i64.wrap (((i % P : Nat) : Int).tdiv ((W : Nat) : Int)) = ((i % P / W : Nat) : Int) := by
      rw [show ((i % P : Nat) : Int).tdiv ((W : Nat) : Int) = ((i % P / W : Nat) : Int) from (Int.ofNat_tdiv _ _).symm]
      exact wN (Nat.le_of_lt (Nat.lt_of_lt_of_le ha (by omega)))
    have f6 : ((i % P : Nat) : Int).tmod ((W : Nat) : Int) = ((i % P % W : Nat) : Int) := (Int.ofNat_tmod _ _).symm
    have f7 : IntKind.i64.wrap (((i % P % W : Nat) : Int).tdiv 1) = ((i % P % W : Nat) : Int) := by
      rw [Int.tdiv_one]
      exact wN (Nat.le_of_lt (Nat.lt_of_lt_of_le hb (by omega)))
    have hab : i % P / W * W + i % P % W = i % P := by rw [Nat.mul_comm]; exact Nat.div_add_mod _ _
    have w5 : IntKind.i64.wrap (((i : Nat) : Int) + 1) = ((i + 1 : Nat) : Int) := by rw [wrap64 (by omega) (by omega)]; omega
    have inner := cv_lp1 (t1 := t1) (t2 := t2) (x := x) (y := y) (o := cvL M C P x y i) (N := ((M * P : Nat) : Int)) (i := ((i : Nat) : Int)) hP hq ha hb hx hy h1 h2 h3 (CKH (hlp gCv cf_cnv) nn CK0) C 0 fu (by omega) (by unfold fu; omega)
    have hlen : i < (cvL M C P x y i).length := by unfold cvL; rw [tab_length]; exact hiN
    have gI : idx (cvL M C P x y i) ((i : Nat) : Int) = some ((cvL M C P x y i)[i]) := by
      unfold idx
      rw [if_pos (by omega), Int.toNat_natCast, List.getElem?_eq_getElem hlen]
    rw [hab] at inner
    rw [cnv_s0, decide_eq_true (show ((i : Nat) : Int) < ((M * P : Nat) : Int) by omega), cond_true, hc, hcn, decide_eq_false (show ¬ (((i : Nat) : Int) < 0) by omega), decide_eq_false (show ¬ (((i : Nat) : Int) ≥ ((M * P : Nat) : Int)) by omega), show ((0 : Int) != 0) = false from rfl, d1, d2, d3,
      if_neg (show ¬ (((M * P : Nat) : Int) = 0) by omega), if_neg (show ¬ (((M * P : Nat) : Int) = 0) by omega)]
    repeat rw [cond_false]
    rw [Option.bind_some, Option.bind_some, f2, if_neg (show ¬ (((P : Nat) : Int) = 0) by omega), Option.bind_some, if_neg (show ¬ (((P : Nat) : Int) = 0) by omega), Option.bind_some, f4, if_neg (show ¬ (((W : Nat) : Int) = 0) by omega), Option.bind_some, if_neg (show ¬ (((W : Nat) : Int) = 0) by omega), Option.bind_some, f1, f3, f5, f6, f7]
    refine Eq.trans (cv_join nn CK0 t1 C H W t2 M C P M x y _ _ _ _ _ _ _ _) ?_
    refine Eq.trans inner ?_
    rw [cnv_k1, gI, Option.bind_some, Int.toNat_natCast, cvL_set hiN, Option.bind_some, w5]
    exact key
end Go.Proofs.XPT
namespace Go.Proofs.XPT
open Go.Vm Go
set_option maxRecDepth 100000
set_option maxHeartbeats 1000000
theorem prod4 (a b c d : Int) : prodI [a, b, c, d] = a * b * c * d := by show 1 * a * b * c * d = _; rw [Int.one_mul]
theorem ten4_ok {t a b c d : Int} {x : List Int} (h : tenE t [a, b, c, d] x = 0) : ∃ A B C D : Nat, a = A ∧ b = B ∧ c = C ∧ d = D ∧ 1 ≤ A ∧ 1 ≤ B ∧ 1 ≤ C ∧ 1 ≤ D ∧ A * B * C * D ≤ 65536 ∧ x.length = A * B * C * D ∧ numOk t 0 = true ∧ countE [a, b, c, d] = 0 ∧ ∀ v ∈ x, numOk t v = true := by
  obtain ⟨n1, n2, n3, n4⟩ := ten_ok h
  obtain ⟨p1, _, p3, p4⟩ := count_ok n2
  rw [p4] at n3
  rw [prod4] at p3 n3
  have ha := p1 a (by simp)
  have hb := p1 b (by simp)
  have hc := p1 c (by simp)
  have hd := p1 d (by simp)
  obtain ⟨A, rfl⟩ := Int.eq_ofNat_of_zero_le (show (0 : Int) ≤ a by omega)
  obtain ⟨B, rfl⟩ := Int.eq_ofNat_of_zero_le (show (0 : Int) ≤ b by omega)
  obtain ⟨C, rfl⟩ := Int.eq_ofNat_of_zero_le (show (0 : Int) ≤ c by omega)
  obtain ⟨D, rfl⟩ := Int.eq_ofNat_of_zero_le (show (0 : Int) ≤ d by omega)
  rw [← Int.natCast_mul, ← Int.natCast_mul, ← Int.natCast_mul] at p3 n3
  exact ⟨A, B, C, D, rfl, rfl, rfl, rfl, by omega, by omega, by omega, by omega, by omega, by omega, n1, n2, n4⟩
theorem le_mul4 {A B C D n : Nat} (ha : 1 ≤ A) (hb : 1 ≤ B) (hc : 1 ≤ C) (hd : 1 ≤ D) (h : A * B * C * D ≤ n) : A ≤ n ∧ B ≤ n ∧ C ≤ n ∧ D ≤ n := by
  have h1 : A * B * C ≤ A * B * C * D := Nat.le_mul_of_pos_right _ hd
  have h2 : A * B ≤ A * B * C := Nat.le_mul_of_pos_right _ hc
  have h3 : A ≤ A * B := Nat.le_mul_of_pos_right _ hb
  have h4 : B ≤ A * B := Nat.le_mul_of_pos_left _ ha
  have h5 : C ≤ A * B * C := Nat.le_mul_of_pos_left _ (Nat.mul_pos ha hb)
  have h6 : D ≤ A * B * C * D := Nat.le_mul_of_pos_left _ (Nat.mul_pos (Nat.mul_pos ha hb) hc)
  omega
def cbE (t1 c h w : Int) (x : List Int) (t2 m e : Int) (y : List Int) : Int := bif tenE t1 [1, c, h, w] x != 0 then 1 else bif tenE t2 [m, e, 1, 1] y != 0 then 1 else bif t1 != 1 then 4 else bif t2 != 1 then 4 else bif !e == c then 4 else countE [1, m, h, w]
theorem room_eq {h : Int} (h1 : 1 ≤ h) (h2 : h ≤ 65536) : IntKind.i64.wrap (IntKind.i64.wrap (IntKind.i64.wrap (IntKind.i64.wrap (h + 0) + 0) - 0) - 1) = h - 1 := by
  have e : IntKind.i64.wrap h = h := wrap64 (by omega) (by omega)
  simp only [Int.add_zero, Int.sub_zero, e]
  exact wrap64 (by omega) (by omega)
theorem size_eq {h : Int} (h1 : 1 ≤ h) (h2 : h ≤ 65536) : IntKind.i64.wrap (IntKind.i64.wrap ((h - 1).tdiv 1) + 1) = h := by
  rw [Int.tdiv_one, wrap64 (n := h - 1) (by omega) (by omega), Int.sub_add_cancel, wrap64 (by omega) (by omega)]
theorem cb_run {t1 c h w t2 m e : Int} {x y : List Int} (hl : x.length ≤ maxLen ∧ y.length ≤ maxLen) : runC g153 Tryz.f9 6 [(3, [2, 4, 6, 9, 10, 11])] [nodeA strCV [] [122] (.os 1 0) .nils, .os 0 0] (hpCb t1 [1, c, h, w] x t2 [m, e, 1, 1] y) ah =
    bif cbE t1 c h w x t2 m e y != 0 then some (.ret [zeroV, I (cbE t1 c h w x t2 m e y)], hpCb t1 [1, c, h, w] x t2 [m, e, 1, 1] y) else some (.ret [(AV.d Ty.str [122]).pr ((I t1).pr ((AV.os 2 0).pr (AV.d Ty.unit PUnit.unit))), I 0], hpCb t1 [1, c, h, w] x t2 [m, e, 1, 1] y ++ [(2, .arr 3 i64T 0 false [1, m, h, w])]) := by
  rw [cbg_eq, decide_eq_true (show 4 ≤ 9223372036854775807 ∧ x.length ≤ 9223372036854775807 from ⟨by decide, hl.1⟩), decide_eq_true (show 4 ≤ 9223372036854775807 ∧ y.length ≤ 9223372036854775807 from ⟨by decide, hl.2⟩)]
  unfold cbE
  cases e1 : tenE t1 [1, c, h, w] x != 0 with
  | true => rfl
  | false =>
    cases e2 : tenE t2 [m, e, 1, 1] y != 0 with
    | true => rfl
    | false =>
      obtain ⟨A, C, H, W, _, rfl, rfl, rfl, _, hC, hH, hW, hb, _, n1, n2, _⟩ := ten4_ok (show tenE t1 [1, c, h, w] x = 0 by simpa using e1)
      obtain ⟨M, E, _, _, rfl, rfl, _, _, hM, hE, _, _, hb2, _, m1, m2, _⟩ := ten4_ok (show tenE t2 [m, e, 1, 1] y = 0 by simpa using e2)
      obtain ⟨_, q1, q2, q3⟩ := le_mul4 (by omega) hC hH hW hb
      rw [n1, n2, m1, m2, room_eq (by omega) (by omega), room_eq (by omega) (by omega), size_eq (by omega) (by omega), size_eq (by omega) (by omega), show ((C : Nat) : Int).tmod 1 == 0 from by rw [Int.tmod_one]; rfl, show ((M : Nat) : Int).tmod 1 == 0 from by rw [Int.tmod_one]; rfl, Int.tdiv_one, wrap64 (n := ((C : Nat) : Int)) (by omega) (by omega),
        decide_eq_true (show ((H : Nat) : Int) - 1 ≥ 0 by omega), decide_eq_true (show ((W : Nat) : Int) - 1 ≥ 0 by omega)]
      cases t1 == 6 <;> cases t1 != 1 <;> cases t2 != 1 <;> cases !((E : Nat) : Int) == ((C : Nat) : Int) <;> first | rfl | (cases hz : countE [1, ((M : Nat) : Int), ((H : Nat) : Int), ((W : Nat) : Int)] != 0 <;> simp only [cond_true, cond_false, Bool.not_true, bne_self_eq_false, hz] <;> rfl)
end Go.Proofs.XPT
namespace Go.Proofs.XPT
open Go.Vm Go
set_option maxRecDepth 100000
set_option maxHeartbeats 1000000
/-- a picture's dims -/
def dim4 : List Int → Option (Int × Int × Int)
  | [a, c, h, w] => bif a == 1 then some (c, h, w) else none
  | _ => none
/-- the dims of kernels of one place -/
def dim11 : List Int → Option (Int × Int)
  | [m, e, a, b] => bif a == 1 && b == 1 then some (m, e) else none
  | _ => none
theorem dim4_some {xs : List Int} {p : Int × Int × Int} (h : dim4 xs = some p) : xs = [1, p.1, p.2.1, p.2.2] := by
  unfold dim4 at h
  split at h
  · rename_i a c h' w
    cases ha : a == 1 with
    | false => rw [ha] at h; cases h
    | true =>
      rw [ha] at h
      cases h
      rw [eq_of_beq ha]
  · cases h
theorem dim11_some {xs : List Int} {p : Int × Int} (h : dim11 xs = some p) : xs = [p.1, p.2, 1, 1] := by
  unfold dim11 at h
  split at h
  · rename_i m e a b
    cases ha : a == 1 && b == 1 with
    | false => rw [ha] at h; cases h
    | true =>
      rw [ha] at h
      cases h
      simp only [Bool.and_eq_true, beq_iff_eq] at ha
      rw [ha.1, ha.2]
  · cases h
def cvOk (c h w m e : Int) (x y d3 : List Int) : Bool := decide (e = c ∧ d3 = [1, m, h, w] ∧ 1 ≤ c ∧ 1 ≤ h ∧ 1 ≤ w ∧ 1 ≤ m ∧ 1 * c * h * w ≤ 65536 ∧ m * c ≤ 65536 ∧ (x.length : Int) = 1 * c * h * w ∧ (y.length : Int) = m * c ∧ countE [1, m, h, w] = 0)
def cvO (c h w m : Int) (x y : List Int) : List Int := cvL m.toNat c.toNat (h.toNat * w.toNat) x y (m.toNat * (h.toNat * w.toNat))
theorem cv_join0 (t1 c h w t2 m pl pe per : Int) (x y o : List Int) (N i : Int) : hlp gCv cf_cnv (cL (cL (cR (cL (cR (cR (cR (cR (cR (cR (cR (cR C_cnv)))))))))))) (AEnd × LHp) (stC0 t1 c h w t2 m pl pe per x y o N i) CK0 = lp gCv cf_cnv (cL (cL (cR (cL (cR (cR (cR (cR (cR (cR (cR (cR C_cnv)))))))))))) fu (stC0 t1 c h w t2 m pl pe per x y o N i) CK0 := rfl
theorem cnv_run {t1 c h w t2 m e : Int} {x y d3 : List Int} (hk : cvOk c h w m e x y d3 = true) : runC gCv Tryz.f10 8 [(9, [1, 2, 7, 8, 9, 11, 12, 13, 16, 69, 70]), (15, [1, 2, 7, 8, 9, 11, 12, 13, 16, 17, 18, 20, 21, 69, 70, 82, 83]), (20, [0, 1, 2, 3, 9, 21, 23, 24, 25, 65, 76, 77, 100, 108, 117, 131, 132, 133, 134, 135, 136, 137, 138, 139, 140, 141, 142, 143, 144])] [nodeA strCV [] [122] (.os 2 0) .nils, .os 1 0, .os 0 0] (hpCv false t1 [1, c, h, w] x t2 [m, e, 1, 1] y d3) ah = some (.ret [.os 3 0], hpCv false t1 [1, c, h, w] x t2 [m, e, 1, 1] y d3 ++ [(3, .arr 2 i64T 0 false (cvO c h w m x y))]) := by
  obtain ⟨rfl, rfl, hC, hH, hW, hM, h1, h2, hx, hy, hc⟩ := of_decide_eq_true hk
  obtain ⟨C, rfl⟩ := Int.eq_ofNat_of_zero_le (show (0 : Int) ≤ e by omega)
  obtain ⟨H, rfl⟩ := Int.eq_ofNat_of_zero_le (show (0 : Int) ≤ h by omega)
  obtain ⟨W, rfl⟩ := Int.eq_ofNat_of_zero_le (show (0 : Int) ≤ w by omega)
  obtain ⟨M, rfl⟩ := Int.eq_ofNat_of_zero_le (show (0 : Int) ≤ m by omega)
  obtain ⟨P, hP⟩ : ∃ P, P = H * W := ⟨_, rfl⟩
  have hCP : ((1 : Int) * C * H * W) = ((C * P : Nat) : Int) := by rw [hP, Int.one_mul, Int.mul_assoc, Int.natCast_mul, Int.natCast_mul]
  obtain ⟨_, _, p3, p4⟩ := count_ok hc
  have hMP : prodI [1, (M : Nat), (H : Nat), (W : Nat)] = ((M * P : Nat) : Int) := by rw [prod4, hP, Int.one_mul, Int.mul_assoc, Int.natCast_mul, Int.natCast_mul]
  rw [hMP] at p3 p4
  rw [hCP] at h1 hx
  rw [← Int.natCast_mul] at h2 hy
  replace p3 : M * P ≤ 65536 := Int.ofNat_le.1 p3
  replace h1 : C * P ≤ 65536 := Int.ofNat_le.1 h1
  replace h2 : M * C ≤ 65536 := Int.ofNat_le.1 h2
  replace hx : x.length = C * P := Int.ofNat_inj.1 hx
  replace hy : y.length = M * C := Int.ofNat_inj.1 hy
  have hPC : P ≤ C * P := Nat.le_mul_of_pos_left _ (by omega)
  have hCC : C ≤ C * P := Nat.le_mul_of_pos_right _ (by rw [hP]; exact Nat.mul_pos (by omega) (by omega))
  have hMM : M ≤ M * C := Nat.le_mul_of_pos_right _ (by omega)
  have w1 : IntKind.i64.wrap (1 * ((C : Nat) : Int)) = ((C : Nat) : Int) := by rw [Int.one_mul]; exact wN (by omega)
  have w2 : IntKind.i64.wrap (((H : Nat) : Int) * ((W : Nat) : Int)) = ((P : Nat) : Int) := by rw [← Int.natCast_mul, ← hP]; exact wN (by omega)
  have w3 : IntKind.i64.wrap (((M : Nat) : Int).tdiv 1) = ((M : Nat) : Int) := by rw [Int.tdiv_one]; exact wN (by omega)
  have key := cv_lp0 (t1 := t1) (t2 := t2) (x := x) (y := y) hP (by omega) (by omega) (by omega) (by omega) hx hy h1 h2 (Nat.le_trans hPC h1) p3 hc p4 (M * P) 0 fu (by omega) (by unfold fu; omega)
  have hO : cvO C H W M x y = cvL M C P x y (M * P) := by unfold cvO; rw [hP]; rfl
  rw [cnv_eq, p4, if_pos (show (0 : Int) ≤ ((M * P : Nat) : Int) ∧ ((M * P : Nat) : Int) ≤ 4294967296 from ⟨by omega, by omega⟩), Option.bind_some, w1, w2, w3, Int.toNat_natCast, cvL_zero, hO]
  have hl : Int.ofNat (cvL M C P x y 0).length = ((M * P : Nat) : Int) := by unfold cvL; rw [tab_length]; rfl
  rw [hl]
  refine Eq.trans (cv_join0 t1 C H W t2 M C P M x y _ _ _) ?_
  exact key
def cnvT : List AV → LHp → Tq
  | [n, .os 1 0, .os 0 0], [(0, .arr 3 (.int .i64) 0 false d3), (1, .arr 25 ((.pair (.int .i64) (.pair (.slice (.int .i64)) (.pair (.slice (.int .i64)) .unit)))) 0 false [(t1, xd, x, ()), (t2, yd, y, ())]), (2, .arr 9 .str 0 false ins)] =>
    (match nodeP n with
    | some (op, nm, out, .os 2 0, .nils) => gate (decide (op = strCV) && decide (nm = []) && decide (out = [122]) && decide (ins = [[120], [119]]))
        (.opt (dim4 xd) fun p => .opt (dim11 yd) fun q => .br (cvOk p.1 p.2.1 p.2.2 q.1 q.2 x y d3) (.leaf (.ret [.os 3 0]) (hpCv false t1 [1, p.1, p.2.1, p.2.2] x t2 [q.1, q.2, 1, 1] y d3 ++ [(3, .arr 2 i64T 0 false (cvO p.1 p.2.1 p.2.2 q.1 x y))])) .no)
    | _ => .no)
  | _, _ => .no
theorem cnvT_ok : FnE.OK e0.P e0.gam 10 (treeE cnvT) := by
  have h1 : FnE.OK e0.P e0.gam 10 (execFnC gCv Tryz.f10 8 [(9, [1, 2, 7, 8, 9, 11, 12, 13, 16, 69, 70]), (15, [1, 2, 7, 8, 9, 11, 12, 13, 16, 17, 18, 20, 21, 69, 70, 82, 83]), (20, [0, 1, 2, 3, 9, 21, 23, 24, 25, 65, 76, 77, 100, 108, 117, 131, 132, 133, 134, 135, 136, 137, 138, 139, 140, 141, 142, 143, 144])]) := execFnC_ok gCv_good hmix Tryz.func10 Tryz.call10 (by decide +kernel) rfl
  refine ⟨fun _ _ _ => Tq.eq _ _, fun args hs ae hs' h => ?_⟩
  have h' : (cnvT args hs).run ah = some (ae, hs') := h
  clear h
  unfold cnvT at h'
  split at h'
  · split at h'
    · rename_i hn
      rw [nodeP_some hn]
      obtain ⟨hb, h2⟩ := gate_run h'
      clear h'
      simp only [Bool.and_eq_true, decide_eq_true_eq] at hb
      obtain ⟨⟨⟨b1, b2⟩, b3⟩, b4⟩ := hb
      subst b1 b2 b3 b4
      simp only [Tq.run] at h2
      obtain ⟨p, hp, h3⟩ := bind_some h2
      obtain ⟨q, hq, h4⟩ := bind_some h3
      clear h2 h3
      rw [dim4_some hp, dim11_some hq]
      cases hk : cvOk p.1 p.2.1 p.2.2 q.1 q.2 _ _ _ with
      | false => rw [hk] at h4; cases h4
      | true =>
        rw [hk] at h4
        exact h1.okC ((cnv_run hk).trans h4)
    · cases h'
  · cases h'
def cbT : List AV → LHp → Tq
  | [n, .os 0 0], [(0, .arr 25 ((.pair (.int .i64) (.pair (.slice (.int .i64)) (.pair (.slice (.int .i64)) .unit)))) 0 false [(t1, xd, x, ()), (t2, yd, y, ())]), (1, .arr 9 .str 0 false ins)] =>
    (match nodeP n with
    | some (op, nm, out, .os 1 0, .nils) => gate (decide (op = strCV) && decide (nm = []) && decide (out = [122]) && decide (ins = [[120], [119]]))
        (.opt (dim4 xd) fun p => .opt (dim11 yd) fun q => .br (decide (x.length ≤ maxLen ∧ y.length ≤ maxLen)) (.br (cbE t1 p.1 p.2.1 p.2.2 x t2 q.1 q.2 y != 0) (.leaf (.ret [zeroV, I (cbE t1 p.1 p.2.1 p.2.2 x t2 q.1 q.2 y)]) (hpCb t1 [1, p.1, p.2.1, p.2.2] x t2 [q.1, q.2, 1, 1] y)) (.leaf (.ret [(AV.d Ty.str [122]).pr ((I t1).pr ((AV.os 2 0).pr (AV.d Ty.unit PUnit.unit))), I 0]) (hpCb t1 [1, p.1, p.2.1, p.2.2] x t2 [q.1, q.2, 1, 1] y ++ [(2, .arr 3 i64T 0 false [1, q.1, p.2.1, p.2.2])]))) .no)
    | _ => .no)
  | _, _ => .no
theorem cbT_ok : FnE.OK e0.P e0.gam 9 (treeE cbT) := by
  have h1 : FnE.OK e0.P e0.gam 9 (execFnC g153 Tryz.f9 6 [(3, [2, 4, 6, 9, 10, 11])]) := y9_ok
  refine ⟨fun _ _ _ => Tq.eq _ _, fun args hs ae hs' h => ?_⟩
  have h' : (cbT args hs).run ah = some (ae, hs') := h
  clear h
  unfold cbT at h'
  split at h'
  · split at h'
    · rename_i hn
      rw [nodeP_some hn]
      obtain ⟨hb, h2⟩ := gate_run h'
      clear h'
      simp only [Bool.and_eq_true, decide_eq_true_eq] at hb
      obtain ⟨⟨⟨b1, b2⟩, b3⟩, b4⟩ := hb
      subst b1 b2 b3 b4
      simp only [Tq.run] at h2
      obtain ⟨p, hp, h3⟩ := bind_some h2
      obtain ⟨q, hq, h4⟩ := bind_some h3
      clear h2 h3
      rw [dim4_some hp, dim11_some hq]
      have bif_none' : ∀ {c : Bool} {x : Option (AEnd × LHp)} {r : AEnd × LHp}, (bif c then x else none) = some r → c = true ∧ x = some r := fun {c x r} h => by
        cases c with
        | true => exact ⟨rfl, h⟩
        | false => cases h
      obtain ⟨hl, h5⟩ := bif_none' h4
      exact h1.okC ((cb_run (of_decide_eq_true hl)).trans h5)
    · cases h'
  · cases h'
noncomputable def gCd : Env := (g171.add 9 (treeE cbT)).add 10 (treeE cnvT)
theorem gCd_good : gCd.Good := (g171_good.add cbT_ok).add cnvT_ok
theorem cdo_eq (t1 c h w t2 m e : Int) (x y : List Int) : runC gCd Tryz.f6 7 [] [nodeA strCV [] [122] (.os 1 0) .nils, .os 0 0] (hpCb t1 [1, c, h, w] x t2 [m, e, 1, 1] y) ah = bif decide (x.length ≤ 9223372036854775807 ∧ y.length ≤ 9223372036854775807) then  bif cbE t1 c h w x t2 m e y != 0 then  bif cbE t1 c h w x t2 m e y != 0 then some (AEnd.ret [(I 0).pr (AV.nils.pr (AV.nils.pr (AV.d Ty.unit PUnit.unit))), I (cbE t1 c h w x t2 m e y)], [(0, AObj.arr 25 Y0 0 false [(t1, [1, c, h, w], x, ()), (t2, [m, e, 1, 1], y, ())]), (1, AObj.arr 9 Ty.str 0 false [[120], [119]])]) else none else  bif cvOk c h w m e x y [1, m, h, w] then some (AEnd.ret [(I t1).pr ((AV.os 2 0).pr ((AV.os 3 0).pr (AV.d Ty.unit PUnit.unit))), I 0], [(0, AObj.arr 25 Y0 0 false [(t1, [1, c, h, w], x, ()), (t2, [m, e, 1, 1], y, ())]), (1, AObj.arr 9 Ty.str 0 false [[120], [119]]), (2, AObj.arr 3 (i64T) 0 false [1, m, h, w]), (3, AObj.arr 2 (i64T) 0 false (cvO c h w m x y))]) else none else none := by kernel_rfl
end Go.Proofs.XPT
namespace Go.Proofs.XPT
open Go.Vm Go
set_option maxRecDepth 100000
set_option maxHeartbeats 1000000
theorem tab_succ (n : Nat) (f : Nat → Int) : tab (n + 1) f = tab n f ++ [f n] := by
  unfold tab
  rw [List.range_succ, List.map_append]
  rfl
theorem getV {l : List Int} {p : Nat} (h : p < l.length) : idx l (p : Int) = some (l.getD p 0) ∧ l[p]? = some (l.getD p 0) := by
  have e : l[p]? = some (l.getD p 0) := by rw [List.getD_eq_getElem?_getD, List.getElem?_eq_getElem h]; rfl
  exact ⟨by unfold idx; rw [if_pos (by omega), Int.toNat_natCast, e], e⟩
theorem app_one {xs : List Int} {y : Int} (h : xs.length ≤ 65536) : app xs [y] = some (xs ++ [y]) := by
  unfold app
  rw [if_pos (by unfold lim; simp only [List.length_cons, List.length_nil]; omega)]
def f2V (l : List Int) (o v s u : Nat) (q : Nat) : Int := l.getD (o + q / v * s + q % v * u) 0
end Go.Proofs.XPT
namespace Go.Proofs.XPT
open Go.Vm Go
set_option maxRecDepth 100000
set_option maxHeartbeats 4000000
noncomputable def C_reb : Code := codeOf Tryz.f43
noncomputable def cf_reb : Cfg := ⟨26, 5, 2, [(5, [0, 1, 2, 3, 4, 5, 6, 14, 15, 16, 17, 18, 19, 20, 21, 22, 23, 24])], true⟩
noncomputable def C_plb : Code := codeOf Tryz.f109
noncomputable def cf_plb : Cfg := ⟨63, 6, 9, [(2, [0, 1, 3, 4]), (4, [0, 1, 3, 4, 5])], true⟩
noncomputable def gVb (F : FnE) : Env := g179.add 109 F
def vwB (off : Int) (a b : Nat) : AV := .pr (I off) (.pr (.os a 0) (.pr (.os b 0) (.d .unit ())))
def hpW2 (w v s u : Int) : LHp := [(0, .arr 3 i64T 0 false [s, u]), (1, .arr 3 i64T 0 false [w, v])]
theorem reb_eqH (hl : Hl) (F : FnE) (off w v s u : Int) (l : List Int) : runQ (gVb F) Tryz.f43 5 [(5, [0, 1, 2, 3, 4, 5, 6, 14, 15, 16, 17, 18, 19, 20, 21, 22, 23, 24])] hl [vwB off 1 0, .d (.slice i64T) l] (hpW2 w v s u) ah = bif countE [w, v] == 0 then  bif decide (off ≥ 0) then  bif decide (off < 65536) then  bif decide (s < 0) then some (AEnd.ret [AV.nils, I 1], [(0, AObj.arr 3 (i64T) 0 false [s, u]), (1, AObj.arr 3 (i64T) 0 false [w, v])]) else  bif decide (s > 65536) then some (AEnd.ret [AV.nils, I 1], [(0, AObj.arr 3 (i64T) 0 false [s, u]), (1, AObj.arr 3 (i64T) 0 false [w, v])]) else  bif decide (u < 0) then some (AEnd.ret [AV.nils, I 1], [(0, AObj.arr 3 (i64T) 0 false [s, u]), (1, AObj.arr 3 (i64T) 0 false [w, v])]) else  bif decide (u > 65536) then some (AEnd.ret [AV.nils, I 1], [(0, AObj.arr 3 (i64T) 0 false [s, u]), (1, AObj.arr 3 (i64T) 0 false [w, v])]) else hl (cL (cR (cL (cR (cR (cR C_reb)))))) _ { fr := mkFr 5 [(0, (I off).pr ((AV.os 1 0).pr ((AV.os 0 0).pr (AV.d Ty.unit PUnit.unit)))), (1, AV.d (i64T).slice l), (2, AV.op 2 [] 0), (3, AV.op 3 [] 0), (4, AV.op 4 [] 0), (5, AV.op 5 [] 0), (6, AV.op 8 [] 0), (8, (I off).pr ((AV.os 1 0).pr ((AV.os 0 0).pr (AV.d Ty.unit PUnit.unit)))), (9, B true), (10, B false), (11, (I off).pr ((AV.os 1 0).pr ((AV.os 0 0).pr (AV.d Ty.unit PUnit.unit)))), (12, AV.fn (Fn.func 109) [] [AV.op 9 [] 0])], hp := [(0, AObj.arr 3 (i64T) 0 false [s, u]), (1, AObj.arr 3 (i64T) 0 false [w, v]), (9, AObj.box ((I off).pr ((AV.os 1 0).pr ((AV.os 0 0).pr (AV.d Ty.unit PUnit.unit))))), (8, AObj.box AV.nils), (0, AObj.arr 3 (i64T) 0 false [s, u]), (1, AObj.arr 3 (i64T) 0 false [w, v]), (5, AObj.box (I 0)), (4, AObj.box AV.nils), (3, AObj.box (AV.d (i64T).slice l)), (2, AObj.box ((I off).pr ((AV.os 1 0).pr ((AV.os 0 0).pr (AV.d Ty.unit PUnit.unit))))), (0, AObj.arr 3 (i64T) 0 false [s, u]), (1, AObj.arr 3 (i64T) 0 false [w, v])], nx := 12 } (blkK 0 (seqQ (gVb F) cf_reb hl (cR (cR (cR (cR C_reb)))) (endC Tryz.prog 2 Tryz.f43.results.toList ah))) else some (AEnd.ret [AV.nils, I 1], [(0, AObj.arr 3 (i64T) 0 false [s, u]), (1, AObj.arr 3 (i64T) 0 false [w, v])]) else some (AEnd.ret [AV.nils, I 1], [(0, AObj.arr 3 (i64T) 0 false [s, u]), (1, AObj.arr 3 (i64T) 0 false [w, v])]) else some (AEnd.ret [AV.nils, I 1], [(0, AObj.arr 3 (i64T) 0 false [s, u]), (1, AObj.arr 3 (i64T) 0 false [w, v])]) := by kernel_rfl
theorem reb_eq (F : FnE) (off w v s u : Int) (l : List Int) : runC (gVb F) Tryz.f43 5 [(5, [0, 1, 2, 3, 4, 5, 6, 14, 15, 16, 17, 18, 19, 20, 21, 22, 23, 24])] [vwB off 1 0, .d (.slice i64T) l] (hpW2 w v s u) ah =
  bif countE [w, v] == 0 then 
    bif decide (off ≥ 0) then 
      bif decide (off < 65536) then 
        bif decide (s < 0) then some (AEnd.ret [AV.nils, I 1], [(0, AObj.arr 3 (i64T) 0 false [s, u]), (1, AObj.arr 3 (i64T) 0 false [w, v])])
        else 
          bif decide (s > 65536) then some (AEnd.ret [AV.nils, I 1], [(0, AObj.arr 3 (i64T) 0 false [s, u]), (1, AObj.arr 3 (i64T) 0 false [w, v])])
          else 
            bif decide (u < 0) then some (AEnd.ret [AV.nils, I 1], [(0, AObj.arr 3 (i64T) 0 false [s, u]), (1, AObj.arr 3 (i64T) 0 false [w, v])])
            else 
              bif decide (u > 65536) then some (AEnd.ret [AV.nils, I 1], [(0, AObj.arr 3 (i64T) 0 false [s, u]), (1, AObj.arr 3 (i64T) 0 false [w, v])])
              else (rfp (gVb F) cf_reb) (cL (cR (cL (cR (cR (cR C_reb)))))) _ { fr := mkFr 5 [(0, (I off).pr ((AV.os 1 0).pr ((AV.os 0 0).pr (AV.d Ty.unit PUnit.unit)))), (1, AV.d (i64T).slice l), (2, AV.op 2 [] 0), (3, AV.op 3 [] 0), (4, AV.op 4 [] 0), (5, AV.op 5 [] 0), (6, AV.op 8 [] 0), (8, (I off).pr ((AV.os 1 0).pr ((AV.os 0 0).pr (AV.d Ty.unit PUnit.unit)))), (9, B true), (10, B false), (11, (I off).pr ((AV.os 1 0).pr ((AV.os 0 0).pr (AV.d Ty.unit PUnit.unit)))), (12, AV.fn (Fn.func 109) [] [AV.op 9 [] 0])], hp := [(0, AObj.arr 3 (i64T) 0 false [s, u]), (1, AObj.arr 3 (i64T) 0 false [w, v]), (9, AObj.box ((I off).pr ((AV.os 1 0).pr ((AV.os 0 0).pr (AV.d Ty.unit PUnit.unit))))), (8, AObj.box AV.nils), (0, AObj.arr 3 (i64T) 0 false [s, u]), (1, AObj.arr 3 (i64T) 0 false [w, v]), (5, AObj.box (I 0)), (4, AObj.box AV.nils), (3, AObj.box (AV.d (i64T).slice l)), (2, AObj.box ((I off).pr ((AV.os 1 0).pr ((AV.os 0 0).pr (AV.d Ty.unit PUnit.unit))))), (0, AObj.arr 3 (i64T) 0 false [s, u]), (1, AObj.arr 3 (i64T) 0 false [w, v])], nx := 12 } (blkK 0 (seqQ (gVb F) cf_reb (rfp (gVb F) cf_reb) (cR (cR (cR (cR C_reb)))) (endC Tryz.prog 2 Tryz.f43.results.toList ah)))
      else some (AEnd.ret [AV.nils, I 1], [(0, AObj.arr 3 (i64T) 0 false [s, u]), (1, AObj.arr 3 (i64T) 0 false [w, v])])
    else some (AEnd.ret [AV.nils, I 1], [(0, AObj.arr 3 (i64T) 0 false [s, u]), (1, AObj.arr 3 (i64T) 0 false [w, v])])
  else some (AEnd.ret [AV.nils, I 1], [(0, AObj.arr 3 (i64T) 0 false [s, u]), (1, AObj.arr 3 (i64T) 0 false [w, v])]) := runQ_runC.trans (reb_eqH (rfp (gVb F) cf_reb) F off w v s u l)
def frVb (off : Int) (l : List Int) : Tr := mkFr 5 [(0, vwB off 1 0), (1, .d (.slice i64T) l), (2, .op 2 [] 0), (3, .op 3 [] 0), (4, .op 4 [] 0), (5, .op 5 [] 0), (6, .op 8 [] 0), (8, vwB off 1 0), (9, B true), (10, B false), (11, vwB off 1 0), (12, .fn (.func 109) [] [.op 9 [] 0])]
def hpVb (off : Int) (ds ss l : List Int) : LHp := [(0, .arr 3 i64T 0 false ss), (1, .arr 3 i64T 0 false ds), (9, .box (vwB off 1 0)), (8, .box .nils), (0, .arr 3 i64T 0 false ss), (1, .arr 3 i64T 0 false ds), (5, .box (I 0)), (4, .box .nils), (3, .box (.d (.slice i64T) l)), (2, .box (vwB off 1 0)), (0, .arr 3 i64T 0 false ss), (1, .arr 3 i64T 0 false ds)]
def rfLw (cf : Cfg) : Code → LoopC
  | .rangeFunc _ ps a b => ⟨cf.depth, ps, a, b, cf.n⟩
  | _ => ⟨0, #[], .skip, .skip, 0⟩
noncomputable def LC_reb : LoopC := rfLw cf_reb (cL (cR (cL (cR (cR (cR C_reb))))))
def frecVb (off : Int) (l : List Int) : List (Nat × AV) := [(0, vwB off 7 6), (1, .d (.slice i64T) l), (2, .op 5 [] 0), (3, .op 4 [] 0), (4, .op 3 [] 0), (5, .op 2 [] 0), (6, .op 1 [] 0)]
noncomputable def hpYb (off : Int) (ds ss l : List Int) (o : AV) : LHp := [(0, .box (vwB off 7 6)), (1, .box o), (2, .box (I 0)), (3, .box .nils), (4, .box (.d (.slice i64T) l)), (5, .box (vwB off 7 6)), (6, .arr 3 i64T 0 false ss), (7, .arr 3 i64T 0 false ds), (8, .rc (.loop LC_reb (frecVb off l) .ready))]
noncomputable def frecVbT (off : Int) (l : List Int) : List (Nat × AV) := slotsF ⟨frVb off l, [], 0⟩ (loopLive cf_reb LC_reb.assign)
noncomputable def hpVb2 (off : Int) (ds ss l : List Int) : LHp := (12, .rc (.loop LC_reb (frecVbT off l) .ready)) :: hpVb off ds ss l
theorem reb_rf (F : FnE) (off : Int) (ds ss l : List Int) (k : AEx → LSt → Option (AEnd × LHp)) : exC (gVb F) cf_reb (cL (cR (cL (cR (cR (cR C_reb)))))) ⟨frVb off l, hpVb off ds ss l, 12⟩ k =
    F.run [.ref 8, .op 0 [] 0] (hpYb off ds ss l .nils) (callK [9, 8, 5, 4, 3, 2, 0, 1, 12] (hpVb2 off ds ss l) 13 (rfK (frVb off l) (hpVb2 off ds ss l) 12 k) (rfP (frVb off l) (hpVb2 off ds ss l) 12 k)) := by kernel_rfl
noncomputable def RKb (F : FnE) : AEx → LSt → Option (AEnd × LHp) := blkK 0 (seqQ (gVb F) cf_reb (rfp (gVb F) cf_reb) (cR (cR (cR (cR C_reb)))) (endC Tryz.prog 2 Tryz.f43.results.toList ah))
noncomputable def hpYbW (off : Int) (ds ss l out : List Int) : LHp := [(0, .box (vwB off 7 6)), (7, .arr 3 i64T 0 false ds), (6, .arr 3 i64T 0 false ss), (1, .box (.os 9 0)), (9, .arr 2 i64T 0 false out), (2, .box (I 0)), (3, .box .nils), (4, .box (.d (.slice i64T) l)), (5, .box (vwB off 7 6)), (8, .rc (.loop LC_reb (frecVb off l) .ready))]
theorem reb_fin (F : FnE) (off : Int) (ds ss l out : List Int) : callK [9, 8, 5, 4, 3, 2, 0, 1, 12] (hpVb2 off ds ss l) 13 (rfK (frVb off l) (hpVb2 off ds ss l) 12 (RKb F)) (rfP (frVb off l) (hpVb2 off ds ss l) 12 (RKb F)) (.ret []) (hpYbW off ds ss l out) = some (AEnd.ret [AV.os 2 0, I 0], [(0, AObj.arr 3 (i64T) 0 false ss), (1, AObj.arr 3 (i64T) 0 false ds), (2, AObj.arr 2 (i64T) 0 false out)]) := by kernel_rfl
theorem plb_eq2H (hl : Hl) (off w v s u : Int) (l : List Int) : runH g163 Tryz.f109 6 [(2, [0, 1, 3, 4]), (4, [0, 1, 3, 4, 5])] [2] hl [.ref 8, .op 0 [] 0] (hpYb off [w, v] [s, u] l .nils) ah = hl (cL (cL (cR (cR C_plb)))) _ { fr := mkFr 6 [(0, AV.ref 8), (1, AV.op 0 [] 0), (3, AV.os 9 0), (4, I off)], hp := [(0, AObj.box ((I off).pr ((AV.os 7 0).pr ((AV.os 6 0).pr (AV.d Ty.unit PUnit.unit))))), (7, AObj.arr 3 (i64T) 0 false [w, v]), (6, AObj.arr 3 (i64T) 0 false [s, u]), (1, AObj.box AV.nils), (2, AObj.box (I 0)), (3, AObj.box AV.nils), (4, AObj.box (AV.d (i64T).slice l)), (5, AObj.box ((I off).pr ((AV.os 7 0).pr ((AV.os 6 0).pr (AV.d Ty.unit PUnit.unit))))), (8, AObj.rc (ARec.loop LC_reb [(0, (I off).pr ((AV.os 7 0).pr ((AV.os 6 0).pr (AV.d Ty.unit PUnit.unit)))), (1, AV.d (i64T).slice l), (2, AV.op 5 [] 0), (3, AV.op 4 [] 0), (4, AV.op 3 [] 0), (5, AV.op 2 [] 0), (6, AV.op 1 [] 0)] LSta.ready)), (9, AObj.arr 3 (i64T) 0 false [0, 0])], nx := 19 } (blkK 0 (endC Tryz.prog 9 Tryz.f109.results.toList ah)) := by kernel_rfl
theorem plb_eq2 (off w v s u : Int) (l : List Int) : runC g163 Tryz.f109 6 [(2, [0, 1, 3, 4]), (4, [0, 1, 3, 4, 5])] [.ref 8, .op 0 [] 0] (hpYb off [w, v] [s, u] l .nils) ah = (hlp g163 cf_plb) (cL (cL (cR (cR C_plb)))) _ { fr := mkFr 6 [(0, AV.ref 8), (1, AV.op 0 [] 0), (3, AV.os 9 0), (4, I off)], hp := [(0, AObj.box ((I off).pr ((AV.os 7 0).pr ((AV.os 6 0).pr (AV.d Ty.unit PUnit.unit))))), (7, AObj.arr 3 (i64T) 0 false [w, v]), (6, AObj.arr 3 (i64T) 0 false [s, u]), (1, AObj.box AV.nils), (2, AObj.box (I 0)), (3, AObj.box AV.nils), (4, AObj.box (AV.d (i64T).slice l)), (5, AObj.box ((I off).pr ((AV.os 7 0).pr ((AV.os 6 0).pr (AV.d Ty.unit PUnit.unit))))), (8, AObj.rc (ARec.loop LC_reb [(0, (I off).pr ((AV.os 7 0).pr ((AV.os 6 0).pr (AV.d Ty.unit PUnit.unit)))), (1, AV.d (i64T).slice l), (2, AV.op 5 [] 0), (3, AV.op 4 [] 0), (4, AV.op 3 [] 0), (5, AV.op 2 [] 0), (6, AV.op 1 [] 0)] LSta.ready)), (9, AObj.arr 3 (i64T) 0 false [0, 0])], nx := 19 } (blkK 0 (endC Tryz.prog 9 Tryz.f109.results.toList ah)) := runH_runC.trans (plb_eq2H (hlp g163 cf_plb) off w v s u l)
noncomputable def stVb (at_ : Nat) (off : Int) (ds ss l A : List Int) (p : Int) (nx : Nat) (o : AV) (oh : LHp) : LSt := ⟨mkFr 6 [(0, .ref 8), (1, .op 0 [] 0), (3, .os at_ 0), (4, I p)], [(0, .box (vwB off 7 6)), (7, .arr 3 i64T 0 false ds), (6, .arr 3 i64T 0 false ss), (1, .box o)] ++ oh ++ [(2, .box (I 0)), (3, .box .nils), (4, .box (.d (.slice i64T) l)), (5, .box (vwB off 7 6)), (8, .rc (.loop LC_reb (frecVb off l) .ready)), (at_, .arr 3 i64T 0 false A)], nx⟩
noncomputable def stVb0 (off : Int) (ds ss l A : List Int) (p : Int) : LSt := stVb 9 off ds ss l A p 19 .nils []
noncomputable def stVb1 (off : Int) (ds ss l A : List Int) (p : Int) (out : List Int) : LSt := stVb 10 off ds ss l A p 20 (.os 9 0) [(9, .arr 2 i64T 0 false out)]
theorem b2_st0H (hl : Hl) (off w v s u : Int) (l : List Int) (a b p : Int) (n : Nat) {R : Type} (k : AEx → LSt → Option R) : lpH g163 cf_plb [2] hl (cL (cL (cR (cR C_plb)))) (n + 1) (stVb0 off [w, v] [s, u] l [a, b] p) k = bif decide (p ≥ Int.ofNat l.length) then k AEx.ret { fr := mkFr 6 [(0, AV.ref 8), (1, AV.op 0 [] 0), (3, AV.os 9 0), (4, I p), (12, AV.ref 8), (13, I p), (14, B false), (15, B true)], hp := [(1, AObj.box AV.nils), (2, AObj.box (I 1)), (3, AObj.box AV.nils), (4, AObj.box (AV.d (i64T).slice l)), (5, AObj.box ((I off).pr ((AV.os 7 0).pr ((AV.os 6 0).pr (AV.d Ty.unit PUnit.unit))))), (6, AObj.arr 3 (i64T) 0 false [s, u]), (7, AObj.arr 3 (i64T) 0 false [w, v]), (8, AObj.rc (ARec.loop LC_reb [(0, (I off).pr ((AV.os 7 0).pr ((AV.os 6 0).pr (AV.d Ty.unit PUnit.unit)))), (1, AV.d (i64T).slice l), (2, AV.op 5 [] 0), (3, AV.op 4 [] 0), (4, AV.op 3 [] 0), (5, AV.op 2 [] 0), (6, AV.op 1 [] 0)] (LSta.done Jmp.ret))), (0, AObj.box ((I off).pr ((AV.os 7 0).pr ((AV.os 6 0).pr (AV.d Ty.unit PUnit.unit))))), (7, AObj.arr 3 (i64T) 0 false [w, v]), (6, AObj.arr 3 (i64T) 0 false [s, u]), (1, AObj.box AV.nils), (2, AObj.box (I 0)), (3, AObj.box AV.nils), (4, AObj.box (AV.d (i64T).slice l)), (5, AObj.box ((I off).pr ((AV.os 7 0).pr ((AV.os 6 0).pr (AV.d Ty.unit PUnit.unit))))), (8, AObj.rc (ARec.loop LC_reb [(0, (I off).pr ((AV.os 7 0).pr ((AV.os 6 0).pr (AV.d Ty.unit PUnit.unit)))), (1, AV.d (i64T).slice l), (2, AV.op 5 [] 0), (3, AV.op 4 [] 0), (4, AV.op 3 [] 0), (5, AV.op 2 [] 0), (6, AV.op 1 [] 0)] LSta.ready)), (9, AObj.arr 3 (i64T) 0 false [a, b])], nx := 27 } else (idx l p).bind fun v1 => bif decide (IntKind.i64.wrap (b + 1) < v) then lpH g163 cf_plb [2] hl (cL (cL (cR (cR C_plb)))) n { fr := mkFr 6 [(0, AV.ref 8), (1, AV.op 0 [] 0), (3, AV.os 10 0), (4, I (IntKind.i64.wrap (p + u)))], hp := [(0, AObj.box ((I off).pr ((AV.os 7 0).pr ((AV.os 6 0).pr (AV.d Ty.unit PUnit.unit))))), (7, AObj.arr 3 (i64T) 0 false [w, v]), (6, AObj.arr 3 (i64T) 0 false [s, u]), (1, AObj.box (AV.os 9 0)), (9, AObj.arr 2 (i64T) 0 false [v1]), (2, AObj.box (I 0)), (3, AObj.box AV.nils), (4, AObj.box (AV.d (i64T).slice l)), (5, AObj.box ((I off).pr ((AV.os 7 0).pr ((AV.os 6 0).pr (AV.d Ty.unit PUnit.unit))))), (8, AObj.rc (ARec.loop LC_reb [(0, (I off).pr ((AV.os 7 0).pr ((AV.os 6 0).pr (AV.d Ty.unit PUnit.unit)))), (1, AV.d (i64T).slice l), (2, AV.op 5 [] 0), (3, AV.op 4 [] 0), (4, AV.op 3 [] 0), (5, AV.op 2 [] 0), (6, AV.op 1 [] 0)] LSta.ready)), (10, AObj.arr 3 (i64T) 0 false [a, IntKind.i64.wrap (b + 1)])], nx := 20 } k else  bif decide (IntKind.i64.wrap (a + 1) < w) then lpH g163 cf_plb [2] hl (cL (cL (cR (cR C_plb)))) n { fr := mkFr 6 [(0, AV.ref 8), (1, AV.op 0 [] 0), (3, AV.os 10 0), (4, I (IntKind.i64.wrap (IntKind.i64.wrap (IntKind.i64.wrap (p + u) - IntKind.i64.wrap (IntKind.i64.wrap (b + 1) * u)) + s)))], hp := [(0, AObj.box ((I off).pr ((AV.os 7 0).pr ((AV.os 6 0).pr (AV.d Ty.unit PUnit.unit))))), (7, AObj.arr 3 (i64T) 0 false [w, v]), (6, AObj.arr 3 (i64T) 0 false [s, u]), (1, AObj.box (AV.os 9 0)), (9, AObj.arr 2 (i64T) 0 false [v1]), (2, AObj.box (I 0)), (3, AObj.box AV.nils), (4, AObj.box (AV.d (i64T).slice l)), (5, AObj.box ((I off).pr ((AV.os 7 0).pr ((AV.os 6 0).pr (AV.d Ty.unit PUnit.unit))))), (8, AObj.rc (ARec.loop LC_reb [(0, (I off).pr ((AV.os 7 0).pr ((AV.os 6 0).pr (AV.d Ty.unit PUnit.unit)))), (1, AV.d (i64T).slice l), (2, AV.op 5 [] 0), (3, AV.op 4 [] 0), (4, AV.op 3 [] 0), (5, AV.op 2 [] 0), (6, AV.op 1 [] 0)] LSta.ready)), (10, AObj.arr 3 (i64T) 0 false [IntKind.i64.wrap (a + 1), 0])], nx := 20 } k else k AEx.ret { fr := mkFr 6 [(0, AV.ref 8), (1, AV.op 0 [] 0), (3, AV.os 10 0), (4, I (IntKind.i64.wrap (IntKind.i64.wrap (IntKind.i64.wrap (IntKind.i64.wrap (p + u) - IntKind.i64.wrap (IntKind.i64.wrap (b + 1) * u)) + s) - IntKind.i64.wrap (IntKind.i64.wrap (a + 1) * s)))), (5, I (-1)), (19, I (-1)), (20, B false), (61, I (-1)), (62, B true)], hp := [(0, AObj.box ((I off).pr ((AV.os 7 0).pr ((AV.os 6 0).pr (AV.d Ty.unit PUnit.unit))))), (7, AObj.arr 3 (i64T) 0 false [w, v]), (6, AObj.arr 3 (i64T) 0 false [s, u]), (1, AObj.box (AV.os 9 0)), (9, AObj.arr 2 (i64T) 0 false [v1]), (2, AObj.box (I 0)), (3, AObj.box AV.nils), (4, AObj.box (AV.d (i64T).slice l)), (5, AObj.box ((I off).pr ((AV.os 7 0).pr ((AV.os 6 0).pr (AV.d Ty.unit PUnit.unit))))), (8, AObj.rc (ARec.loop LC_reb [(0, (I off).pr ((AV.os 7 0).pr ((AV.os 6 0).pr (AV.d Ty.unit PUnit.unit)))), (1, AV.d (i64T).slice l), (2, AV.op 5 [] 0), (3, AV.op 4 [] 0), (4, AV.op 3 [] 0), (5, AV.op 2 [] 0), (6, AV.op 1 [] 0)] LSta.ready)), (10, AObj.arr 3 (i64T) 0 false [0, 0])], nx := 20 } := by kernel_rfl
theorem b2_st0 (off w v s u : Int) (l : List Int) (a b p : Int) (n : Nat) {R : Type} (k : AEx → LSt → Option R) : lp g163 cf_plb (cL (cL (cR (cR C_plb)))) (n + 1) (stVb0 off [w, v] [s, u] l [a, b] p) k = bif decide (p ≥ Int.ofNat l.length) then k AEx.ret { fr := mkFr 6 [(0, AV.ref 8), (1, AV.op 0 [] 0), (3, AV.os 9 0), (4, I p), (12, AV.ref 8), (13, I p), (14, B false), (15, B true)], hp := [(1, AObj.box AV.nils), (2, AObj.box (I 1)), (3, AObj.box AV.nils), (4, AObj.box (AV.d (i64T).slice l)), (5, AObj.box ((I off).pr ((AV.os 7 0).pr ((AV.os 6 0).pr (AV.d Ty.unit PUnit.unit))))), (6, AObj.arr 3 (i64T) 0 false [s, u]), (7, AObj.arr 3 (i64T) 0 false [w, v]), (8, AObj.rc (ARec.loop LC_reb [(0, (I off).pr ((AV.os 7 0).pr ((AV.os 6 0).pr (AV.d Ty.unit PUnit.unit)))), (1, AV.d (i64T).slice l), (2, AV.op 5 [] 0), (3, AV.op 4 [] 0), (4, AV.op 3 [] 0), (5, AV.op 2 [] 0), (6, AV.op 1 [] 0)] (LSta.done Jmp.ret))), (0, AObj.box ((I off).pr ((AV.os 7 0).pr ((AV.os 6 0).pr (AV.d Ty.unit PUnit.unit))))), (7, AObj.arr 3 (i64T) 0 false [w, v]), (6, AObj.arr 3 (i64T) 0 false [s, u]), (1, AObj.box AV.nils), (2, AObj.box (I 0)), (3, AObj.box AV.nils), (4, AObj.box (AV.d (i64T).slice l)), (5, AObj.box ((I off).pr ((AV.os 7 0).pr ((AV.os 6 0).pr (AV.d Ty.unit PUnit.unit))))), (8, AObj.rc (ARec.loop LC_reb [(0, (I off).pr ((AV.os 7 0).pr ((AV.os 6 0).pr (AV.d Ty.unit PUnit.unit)))), (1, AV.d (i64T).slice l), (2, AV.op 5 [] 0), (3, AV.op 4 [] 0), (4, AV.op 3 [] 0), (5, AV.op 2 [] 0), (6, AV.op 1 [] 0)] LSta.ready)), (9, AObj.arr 3 (i64T) 0 false [a, b])], nx := 27 } else (idx l p).bind fun v1 => bif decide (IntKind.i64.wrap (b + 1) < v) then lp g163 cf_plb (cL (cL (cR (cR C_plb)))) n { fr := mkFr 6 [(0, AV.ref 8), (1, AV.op 0 [] 0), (3, AV.os 10 0), (4, I (IntKind.i64.wrap (p + u)))], hp := [(0, AObj.box ((I off).pr ((AV.os 7 0).pr ((AV.os 6 0).pr (AV.d Ty.unit PUnit.unit))))), (7, AObj.arr 3 (i64T) 0 false [w, v]), (6, AObj.arr 3 (i64T) 0 false [s, u]), (1, AObj.box (AV.os 9 0)), (9, AObj.arr 2 (i64T) 0 false [v1]), (2, AObj.box (I 0)), (3, AObj.box AV.nils), (4, AObj.box (AV.d (i64T).slice l)), (5, AObj.box ((I off).pr ((AV.os 7 0).pr ((AV.os 6 0).pr (AV.d Ty.unit PUnit.unit))))), (8, AObj.rc (ARec.loop LC_reb [(0, (I off).pr ((AV.os 7 0).pr ((AV.os 6 0).pr (AV.d Ty.unit PUnit.unit)))), (1, AV.d (i64T).slice l), (2, AV.op 5 [] 0), (3, AV.op 4 [] 0), (4, AV.op 3 [] 0), (5, AV.op 2 [] 0), (6, AV.op 1 [] 0)] LSta.ready)), (10, AObj.arr 3 (i64T) 0 false [a, IntKind.i64.wrap (b + 1)])], nx := 20 } k else  bif decide (IntKind.i64.wrap (a + 1) < w) then lp g163 cf_plb (cL (cL (cR (cR C_plb)))) n { fr := mkFr 6 [(0, AV.ref 8), (1, AV.op 0 [] 0), (3, AV.os 10 0), (4, I (IntKind.i64.wrap (IntKind.i64.wrap (IntKind.i64.wrap (p + u) - IntKind.i64.wrap (IntKind.i64.wrap (b + 1) * u)) + s)))], hp := [(0, AObj.box ((I off).pr ((AV.os 7 0).pr ((AV.os 6 0).pr (AV.d Ty.unit PUnit.unit))))), (7, AObj.arr 3 (i64T) 0 false [w, v]), (6, AObj.arr 3 (i64T) 0 false [s, u]), (1, AObj.box (AV.os 9 0)), (9, AObj.arr 2 (i64T) 0 false [v1]), (2, AObj.box (I 0)), (3, AObj.box AV.nils), (4, AObj.box (AV.d (i64T).slice l)), (5, AObj.box ((I off).pr ((AV.os 7 0).pr ((AV.os 6 0).pr (AV.d Ty.unit PUnit.unit))))), (8, AObj.rc (ARec.loop LC_reb [(0, (I off).pr ((AV.os 7 0).pr ((AV.os 6 0).pr (AV.d Ty.unit PUnit.unit)))), (1, AV.d (i64T).slice l), (2, AV.op 5 [] 0), (3, AV.op 4 [] 0), (4, AV.op 3 [] 0), (5, AV.op 2 [] 0), (6, AV.op 1 [] 0)] LSta.ready)), (10, AObj.arr 3 (i64T) 0 false [IntKind.i64.wrap (a + 1), 0])], nx := 20 } k else k AEx.ret { fr := mkFr 6 [(0, AV.ref 8), (1, AV.op 0 [] 0), (3, AV.os 10 0), (4, I (IntKind.i64.wrap (IntKind.i64.wrap (IntKind.i64.wrap (IntKind.i64.wrap (p + u) - IntKind.i64.wrap (IntKind.i64.wrap (b + 1) * u)) + s) - IntKind.i64.wrap (IntKind.i64.wrap (a + 1) * s)))), (5, I (-1)), (19, I (-1)), (20, B false), (61, I (-1)), (62, B true)], hp := [(0, AObj.box ((I off).pr ((AV.os 7 0).pr ((AV.os 6 0).pr (AV.d Ty.unit PUnit.unit))))), (7, AObj.arr 3 (i64T) 0 false [w, v]), (6, AObj.arr 3 (i64T) 0 false [s, u]), (1, AObj.box (AV.os 9 0)), (9, AObj.arr 2 (i64T) 0 false [v1]), (2, AObj.box (I 0)), (3, AObj.box AV.nils), (4, AObj.box (AV.d (i64T).slice l)), (5, AObj.box ((I off).pr ((AV.os 7 0).pr ((AV.os 6 0).pr (AV.d Ty.unit PUnit.unit))))), (8, AObj.rc (ARec.loop LC_reb [(0, (I off).pr ((AV.os 7 0).pr ((AV.os 6 0).pr (AV.d Ty.unit PUnit.unit)))), (1, AV.d (i64T).slice l), (2, AV.op 5 [] 0), (3, AV.op 4 [] 0), (4, AV.op 3 [] 0), (5, AV.op 2 [] 0), (6, AV.op 1 [] 0)] LSta.ready)), (10, AObj.arr 3 (i64T) 0 false [0, 0])], nx := 20 } := by
  have h := b2_st0H (hlp g163 cf_plb) off w v s u l a b p n k
  simp only [lpH_lp] at h
  exact h
theorem b2_st1H (hl : Hl) (off w v s u : Int) (l : List Int) (a b p o : Int) (out : List Int) (n : Nat) {R : Type} (k : AEx → LSt → Option R) : lpH g163 cf_plb [2] hl (cL (cL (cR (cR C_plb)))) (n + 1) (stVb1 off [w, v] [s, u] l [a, b] p (o :: out)) k = bif decide (p ≥ Int.ofNat l.length) then k AEx.ret { fr := mkFr 6 [(0, AV.ref 8), (1, AV.op 0 [] 0), (3, AV.os 10 0), (4, I p), (12, AV.ref 8), (13, I p), (14, B false), (15, B true)], hp := [(9, AObj.arr 2 (i64T) 0 false (o :: out)), (1, AObj.box (AV.os 9 0)), (2, AObj.box (I 1)), (3, AObj.box AV.nils), (4, AObj.box (AV.d (i64T).slice l)), (5, AObj.box ((I off).pr ((AV.os 7 0).pr ((AV.os 6 0).pr (AV.d Ty.unit PUnit.unit))))), (6, AObj.arr 3 (i64T) 0 false [s, u]), (7, AObj.arr 3 (i64T) 0 false [w, v]), (8, AObj.rc (ARec.loop LC_reb [(0, (I off).pr ((AV.os 7 0).pr ((AV.os 6 0).pr (AV.d Ty.unit PUnit.unit)))), (1, AV.d (i64T).slice l), (2, AV.op 5 [] 0), (3, AV.op 4 [] 0), (4, AV.op 3 [] 0), (5, AV.op 2 [] 0), (6, AV.op 1 [] 0)] (LSta.done Jmp.ret))), (0, AObj.box ((I off).pr ((AV.os 7 0).pr ((AV.os 6 0).pr (AV.d Ty.unit PUnit.unit))))), (7, AObj.arr 3 (i64T) 0 false [w, v]), (6, AObj.arr 3 (i64T) 0 false [s, u]), (1, AObj.box (AV.os 9 0)), (9, AObj.arr 2 (i64T) 0 false (o :: out)), (2, AObj.box (I 0)), (3, AObj.box AV.nils), (4, AObj.box (AV.d (i64T).slice l)), (5, AObj.box ((I off).pr ((AV.os 7 0).pr ((AV.os 6 0).pr (AV.d Ty.unit PUnit.unit))))), (8, AObj.rc (ARec.loop LC_reb [(0, (I off).pr ((AV.os 7 0).pr ((AV.os 6 0).pr (AV.d Ty.unit PUnit.unit)))), (1, AV.d (i64T).slice l), (2, AV.op 5 [] 0), (3, AV.op 4 [] 0), (4, AV.op 3 [] 0), (5, AV.op 2 [] 0), (6, AV.op 1 [] 0)] LSta.ready)), (10, AObj.arr 3 (i64T) 0 false [a, b])], nx := 29 } else (idx l p).bind fun v1 => (app (o :: out) [v1]).bind fun v2 => bif decide (IntKind.i64.wrap (b + 1) < v) then lpH g163 cf_plb [2] hl (cL (cL (cR (cR C_plb)))) n { fr := mkFr 6 [(0, AV.ref 8), (1, AV.op 0 [] 0), (3, AV.os 10 0), (4, I (IntKind.i64.wrap (p + u)))], hp := [(0, AObj.box ((I off).pr ((AV.os 7 0).pr ((AV.os 6 0).pr (AV.d Ty.unit PUnit.unit))))), (7, AObj.arr 3 (i64T) 0 false [w, v]), (6, AObj.arr 3 (i64T) 0 false [s, u]), (1, AObj.box (AV.os 9 0)), (9, AObj.arr 2 (i64T) 0 false v2), (2, AObj.box (I 0)), (3, AObj.box AV.nils), (4, AObj.box (AV.d (i64T).slice l)), (5, AObj.box ((I off).pr ((AV.os 7 0).pr ((AV.os 6 0).pr (AV.d Ty.unit PUnit.unit))))), (8, AObj.rc (ARec.loop LC_reb [(0, (I off).pr ((AV.os 7 0).pr ((AV.os 6 0).pr (AV.d Ty.unit PUnit.unit)))), (1, AV.d (i64T).slice l), (2, AV.op 5 [] 0), (3, AV.op 4 [] 0), (4, AV.op 3 [] 0), (5, AV.op 2 [] 0), (6, AV.op 1 [] 0)] LSta.ready)), (10, AObj.arr 3 (i64T) 0 false [a, IntKind.i64.wrap (b + 1)])], nx := 20 } k else  bif decide (IntKind.i64.wrap (a + 1) < w) then lpH g163 cf_plb [2] hl (cL (cL (cR (cR C_plb)))) n { fr := mkFr 6 [(0, AV.ref 8), (1, AV.op 0 [] 0), (3, AV.os 10 0), (4, I (IntKind.i64.wrap (IntKind.i64.wrap (IntKind.i64.wrap (p + u) - IntKind.i64.wrap (IntKind.i64.wrap (b + 1) * u)) + s)))], hp := [(0, AObj.box ((I off).pr ((AV.os 7 0).pr ((AV.os 6 0).pr (AV.d Ty.unit PUnit.unit))))), (7, AObj.arr 3 (i64T) 0 false [w, v]), (6, AObj.arr 3 (i64T) 0 false [s, u]), (1, AObj.box (AV.os 9 0)), (9, AObj.arr 2 (i64T) 0 false v2), (2, AObj.box (I 0)), (3, AObj.box AV.nils), (4, AObj.box (AV.d (i64T).slice l)), (5, AObj.box ((I off).pr ((AV.os 7 0).pr ((AV.os 6 0).pr (AV.d Ty.unit PUnit.unit))))), (8, AObj.rc (ARec.loop LC_reb [(0, (I off).pr ((AV.os 7 0).pr ((AV.os 6 0).pr (AV.d Ty.unit PUnit.unit)))), (1, AV.d (i64T).slice l), (2, AV.op 5 [] 0), (3, AV.op 4 [] 0), (4, AV.op 3 [] 0), (5, AV.op 2 [] 0), (6, AV.op 1 [] 0)] LSta.ready)), (10, AObj.arr 3 (i64T) 0 false [IntKind.i64.wrap (a + 1), 0])], nx := 20 } k else k AEx.ret { fr := mkFr 6 [(0, AV.ref 8), (1, AV.op 0 [] 0), (3, AV.os 10 0), (4, I (IntKind.i64.wrap (IntKind.i64.wrap (IntKind.i64.wrap (IntKind.i64.wrap (p + u) - IntKind.i64.wrap (IntKind.i64.wrap (b + 1) * u)) + s) - IntKind.i64.wrap (IntKind.i64.wrap (a + 1) * s)))), (5, I (-1)), (19, I (-1)), (20, B false), (61, I (-1)), (62, B true)], hp := [(0, AObj.box ((I off).pr ((AV.os 7 0).pr ((AV.os 6 0).pr (AV.d Ty.unit PUnit.unit))))), (7, AObj.arr 3 (i64T) 0 false [w, v]), (6, AObj.arr 3 (i64T) 0 false [s, u]), (1, AObj.box (AV.os 9 0)), (9, AObj.arr 2 (i64T) 0 false v2), (2, AObj.box (I 0)), (3, AObj.box AV.nils), (4, AObj.box (AV.d (i64T).slice l)), (5, AObj.box ((I off).pr ((AV.os 7 0).pr ((AV.os 6 0).pr (AV.d Ty.unit PUnit.unit))))), (8, AObj.rc (ARec.loop LC_reb [(0, (I off).pr ((AV.os 7 0).pr ((AV.os 6 0).pr (AV.d Ty.unit PUnit.unit)))), (1, AV.d (i64T).slice l), (2, AV.op 5 [] 0), (3, AV.op 4 [] 0), (4, AV.op 3 [] 0), (5, AV.op 2 [] 0), (6, AV.op 1 [] 0)] LSta.ready)), (10, AObj.arr 3 (i64T) 0 false [0, 0])], nx := 20 } := by kernel_rfl
theorem b2_st1 (off w v s u : Int) (l : List Int) (a b p o : Int) (out : List Int) (n : Nat) {R : Type} (k : AEx → LSt → Option R) : lp g163 cf_plb (cL (cL (cR (cR C_plb)))) (n + 1) (stVb1 off [w, v] [s, u] l [a, b] p (o :: out)) k = bif decide (p ≥ Int.ofNat l.length) then k AEx.ret { fr := mkFr 6 [(0, AV.ref 8), (1, AV.op 0 [] 0), (3, AV.os 10 0), (4, I p), (12, AV.ref 8), (13, I p), (14, B false), (15, B true)], hp := [(9, AObj.arr 2 (i64T) 0 false (o :: out)), (1, AObj.box (AV.os 9 0)), (2, AObj.box (I 1)), (3, AObj.box AV.nils), (4, AObj.box (AV.d (i64T).slice l)), (5, AObj.box ((I off).pr ((AV.os 7 0).pr ((AV.os 6 0).pr (AV.d Ty.unit PUnit.unit))))), (6, AObj.arr 3 (i64T) 0 false [s, u]), (7, AObj.arr 3 (i64T) 0 false [w, v]), (8, AObj.rc (ARec.loop LC_reb [(0, (I off).pr ((AV.os 7 0).pr ((AV.os 6 0).pr (AV.d Ty.unit PUnit.unit)))), (1, AV.d (i64T).slice l), (2, AV.op 5 [] 0), (3, AV.op 4 [] 0), (4, AV.op 3 [] 0), (5, AV.op 2 [] 0), (6, AV.op 1 [] 0)] (LSta.done Jmp.ret))), (0, AObj.box ((I off).pr ((AV.os 7 0).pr ((AV.os 6 0).pr (AV.d Ty.unit PUnit.unit))))), (7, AObj.arr 3 (i64T) 0 false [w, v]), (6, AObj.arr 3 (i64T) 0 false [s, u]), (1, AObj.box (AV.os 9 0)), (9, AObj.arr 2 (i64T) 0 false (o :: out)), (2, AObj.box (I 0)), (3, AObj.box AV.nils), (4, AObj.box (AV.d (i64T).slice l)), (5, AObj.box ((I off).pr ((AV.os 7 0).pr ((AV.os 6 0).pr (AV.d Ty.unit PUnit.unit))))), (8, AObj.rc (ARec.loop LC_reb [(0, (I off).pr ((AV.os 7 0).pr ((AV.os 6 0).pr (AV.d Ty.unit PUnit.unit)))), (1, AV.d (i64T).slice l), (2, AV.op 5 [] 0), (3, AV.op 4 [] 0), (4, AV.op 3 [] 0), (5, AV.op 2 [] 0), (6, AV.op 1 [] 0)] LSta.ready)), (10, AObj.arr 3 (i64T) 0 false [a, b])], nx := 29 } else (idx l p).bind fun v1 => (app (o :: out) [v1]).bind fun v2 => bif decide (IntKind.i64.wrap (b + 1) < v) then lp g163 cf_plb (cL (cL (cR (cR C_plb)))) n { fr := mkFr 6 [(0, AV.ref 8), (1, AV.op 0 [] 0), (3, AV.os 10 0), (4, I (IntKind.i64.wrap (p + u)))], hp := [(0, AObj.box ((I off).pr ((AV.os 7 0).pr ((AV.os 6 0).pr (AV.d Ty.unit PUnit.unit))))), (7, AObj.arr 3 (i64T) 0 false [w, v]), (6, AObj.arr 3 (i64T) 0 false [s, u]), (1, AObj.box (AV.os 9 0)), (9, AObj.arr 2 (i64T) 0 false v2), (2, AObj.box (I 0)), (3, AObj.box AV.nils), (4, AObj.box (AV.d (i64T).slice l)), (5, AObj.box ((I off).pr ((AV.os 7 0).pr ((AV.os 6 0).pr (AV.d Ty.unit PUnit.unit))))), (8, AObj.rc (ARec.loop LC_reb [(0, (I off).pr ((AV.os 7 0).pr ((AV.os 6 0).pr (AV.d Ty.unit PUnit.unit)))), (1, AV.d (i64T).slice l), (2, AV.op 5 [] 0), (3, AV.op 4 [] 0), (4, AV.op 3 [] 0), (5, AV.op 2 [] 0), (6, AV.op 1 [] 0)] LSta.ready)), (10, AObj.arr 3 (i64T) 0 false [a, IntKind.i64.wrap (b + 1)])], nx := 20 } k else  bif decide (IntKind.i64.wrap (a + 1) < w) then lp g163 cf_plb (cL (cL (cR (cR C_plb)))) n { fr := mkFr 6 [(0, AV.ref 8), (1, AV.op 0 [] 0), (3, AV.os 10 0), (4, I (IntKind.i64.wrap (IntKind.i64.wrap (IntKind.i64.wrap (p + u) - IntKind.i64.wrap (IntKind.i64.wrap (b + 1) * u)) + s)))], hp := [(0, AObj.box ((I off).pr ((AV.os 7 0).pr ((AV.os 6 0).pr (AV.d Ty.unit PUnit.unit))))), (7, AObj.arr 3 (i64T) 0 false [w, v]), (6, AObj.arr 3 (i64T) 0 false [s, u]), (1, AObj.box (AV.os 9 0)), (9, AObj.arr 2 (i64T) 0 false v2), (2, AObj.box (I 0)), (3, AObj.box AV.nils), (4, AObj.box (AV.d (i64T).slice l)), (5, AObj.box ((I off).pr ((AV.os 7 0).pr ((AV.os 6 0).pr (AV.d Ty.unit PUnit.unit))))), (8, AObj.rc (ARec.loop LC_reb [(0, (I off).pr ((AV.os 7 0).pr ((AV.os 6 0).pr (AV.d Ty.unit PUnit.unit)))), (1, AV.d (i64T).slice l), (2, AV.op 5 [] 0), (3, AV.op 4 [] 0), (4, AV.op 3 [] 0), (5, AV.op 2 [] 0), (6, AV.op 1 [] 0)] LSta.ready)), (10, AObj.arr 3 (i64T) 0 false [IntKind.i64.wrap (a + 1), 0])], nx := 20 } k else k AEx.ret { fr := mkFr 6 [(0, AV.ref 8), (1, AV.op 0 [] 0), (3, AV.os 10 0), (4, I (IntKind.i64.wrap (IntKind.i64.wrap (IntKind.i64.wrap (IntKind.i64.wrap (p + u) - IntKind.i64.wrap (IntKind.i64.wrap (b + 1) * u)) + s) - IntKind.i64.wrap (IntKind.i64.wrap (a + 1) * s)))), (5, I (-1)), (19, I (-1)), (20, B false), (61, I (-1)), (62, B true)], hp := [(0, AObj.box ((I off).pr ((AV.os 7 0).pr ((AV.os 6 0).pr (AV.d Ty.unit PUnit.unit))))), (7, AObj.arr 3 (i64T) 0 false [w, v]), (6, AObj.arr 3 (i64T) 0 false [s, u]), (1, AObj.box (AV.os 9 0)), (9, AObj.arr 2 (i64T) 0 false v2), (2, AObj.box (I 0)), (3, AObj.box AV.nils), (4, AObj.box (AV.d (i64T).slice l)), (5, AObj.box ((I off).pr ((AV.os 7 0).pr ((AV.os 6 0).pr (AV.d Ty.unit PUnit.unit))))), (8, AObj.rc (ARec.loop LC_reb [(0, (I off).pr ((AV.os 7 0).pr ((AV.os 6 0).pr (AV.d Ty.unit PUnit.unit)))), (1, AV.d (i64T).slice l), (2, AV.op 5 [] 0), (3, AV.op 4 [] 0), (4, AV.op 3 [] 0), (5, AV.op 2 [] 0), (6, AV.op 1 [] 0)] LSta.ready)), (10, AObj.arr 3 (i64T) 0 false [0, 0])], nx := 20 } := by
  have h := b2_st1H (hlp g163 cf_plb) off w v s u l a b p o out n k
  simp only [lpH_lp] at h
  exact h
noncomputable def WKb : AEx → LSt → Option (AEnd × LHp) := (blkK 0 (endC Tryz.prog 9 Tryz.f109.results.toList ah))
end Go.Proofs.XPT
namespace Go.Proofs.XPT
open Go.Vm Go
set_option maxRecDepth 100000
set_option maxHeartbeats 1000000
noncomputable def stVm (off : Int) (ds ss l A : List Int) (p : Int) (out : List Int) : LSt := match out with
  | [] => stVb0 off ds ss l A p
  | o :: r => stVb1 off ds ss l A p (o :: r)
noncomputable def stVE (off : Int) (ds ss l A : List Int) (p : Int) (out : List Int) : LSt := ⟨mkFr 6 [(0, .ref 8), (1, .op 0 [] 0), (3, .os 10 0), (4, I p), (5, I (-1)), (19, I (-1)), (20, B false), (61, I (-1)), (62, B true)], (stVb1 off ds ss l A p out).hp, 20⟩
theorem WKb_end (off : Int) (ds ss l A : List Int) (p : Int) (out : List Int) : WKb .ret (stVE off ds ss l A p out) = some (.ret [], hpYbW off ds ss l out) := by kernel_rfl
theorem b2_one {o w v s u a b : Nat} {l : List Int} (ha : a < w) (hb : b < v) (ho : o ≤ 65536) (hs : s ≤ 65536) (hu : u ≤ 65536) (hwv : w * v ≤ 65536) (hp : o + a * s + b * u < l.length) (n : Nat) {R : Type} (k : AEx → LSt → Option R) :
    ∃ P : Int, lp g163 cf_plb (cL (cL (cR (cR C_plb)))) (n + 1) (stVm o [(w : Int), (v : Int)] [(s : Int), (u : Int)] l [(a : Int), (b : Int)] ((o + a * s + b * u : Nat) : Int) (tab (a * v + b) (f2V l o v s u))) k =
      if b + 1 < v then lp g163 cf_plb (cL (cL (cR (cR C_plb)))) n (stVm o [(w : Int), (v : Int)] [(s : Int), (u : Int)] l [(a : Int), ((b + 1 : Nat) : Int)] ((o + a * s + (b + 1) * u : Nat) : Int) (tab (a * v + (b + 1)) (f2V l o v s u))) k
      else if a + 1 < w then lp g163 cf_plb (cL (cL (cR (cR C_plb)))) n (stVm o [(w : Int), (v : Int)] [(s : Int), (u : Int)] l [((a + 1 : Nat) : Int), ((0 : Nat) : Int)] ((o + (a + 1) * s + 0 * u : Nat) : Int) (tab (a * v + (b + 1)) (f2V l o v s u))) k
      else k .ret (stVE o [(w : Int), (v : Int)] [(s : Int), (u : Int)] l [0, 0] P (tab (a * v + (b + 1)) (f2V l o v s u))) := by
  have hav := row_le (C := v) ha
  have hvw : v ≤ w * v := Nat.le_mul_of_pos_left _ (by omega)
  have hww : w ≤ w * v := Nat.le_mul_of_pos_right _ (by omega)
  have c1 : a * s ≤ 65536 * 65536 := Nat.mul_le_mul (by omega) hs
  have c2 : b * u ≤ 65536 * 65536 := Nat.mul_le_mul (by omega) hu
  have b2 : (b + 1) * u = b * u + u := by rw [Nat.add_mul, Nat.one_mul]
  have a2 : (a + 1) * s = a * s + s := by rw [Nat.add_mul, Nat.one_mul]
  have e0 : IntKind.i64.wrap ((b : Int) + 1) = ((b + 1 : Nat) : Int) := by rw [wrap64 (by omega) (by omega)]; omega
  have e0a : IntKind.i64.wrap ((a : Int) + 1) = ((a + 1 : Nat) : Int) := by rw [wrap64 (by omega) (by omega)]; omega
  have e1 : IntKind.i64.wrap (((o + a * s + b * u : Nat) : Int) + u) = ((o + a * s + (b + 1) * u : Nat) : Int) := by rw [b2, wrap64 (by omega) (by omega)]; omega
  have e2 : IntKind.i64.wrap (((b + 1 : Nat) : Int) * u) = (((b + 1) * u : Nat) : Int) := by rw [← Int.natCast_mul]; exact wrap64 (by omega) (by omega)
  have e3 : IntKind.i64.wrap (((o + a * s + (b + 1) * u : Nat) : Int) - (((b + 1) * u : Nat) : Int)) = ((o + a * s : Nat) : Int) := by rw [wrap64 (by omega) (by omega)]; omega
  have e4 : IntKind.i64.wrap (((o + a * s : Nat) : Int) + s) = ((o + (a + 1) * s + 0 * u : Nat) : Int) := by rw [a2, Nat.zero_mul, Nat.add_zero, wrap64 (by omega) (by omega)]; omega
  obtain ⟨g1, _⟩ := getV hp
  have hge : decide (((o + a * s + b * u : Nat) : Int) ≥ Int.ofNat l.length) = false := decide_eq_false (by simp only [Int.ofNat_eq_natCast]; omega)
  refine ⟨IntKind.i64.wrap (((o + (a + 1) * s + 0 * u : Nat) : Int) - IntKind.i64.wrap (((a + 1 : Nat) : Int) * s)), ?_⟩
  rw [← Nat.add_assoc (a * v) b 1, tab_succ]
  have hfm : f2V l o v s u (a * v + b) = l.getD (o + a * s + b * u) 0 := by
    have hpl := (place_iff (i := a) (p := a * v + b) (j := b) hb).mp rfl
    unfold f2V
    rw [hpl.1, hpl.2]
  have hlen : (tab (a * v + b) (f2V l o v s u)).length = a * v + b := tab_length _ _
  have fin : ∀ (q : Int) (r : List Int), tab (a * v + b) (f2V l o v s u) ++ [l.getD (o + a * s + b * u) 0] = q :: r → True := fun _ _ _ => trivial
  cases htab : tab (a * v + b) (f2V l o v s u) with
  | nil =>
    show lp g163 cf_plb (cL (cL (cR (cR C_plb)))) (n + 1) (stVb0 o [(w : Int), (v : Int)] [(s : Int), (u : Int)] l [(a : Int), (b : Int)] ((o + a * s + b * u : Nat) : Int)) k = _
    rw [b2_st0, hge, cond_false, g1, Option.bind_some, e0, e1, hfm]
    by_cases h : b + 1 < v
    · rw [decide_eq_true (show ((b + 1 : Nat) : Int) < (v : Int) by omega), cond_true, if_pos h]
      rfl
    · rw [decide_eq_false (show ¬ (((b + 1 : Nat) : Int) < (v : Int)) by omega), cond_false, if_neg h, e2, e3, e4, e0a]
      by_cases h2 : a + 1 < w
      · rw [decide_eq_true (show ((a + 1 : Nat) : Int) < (w : Int) by omega), cond_true, if_pos h2]
        rfl
      · rw [decide_eq_false (show ¬ (((a + 1 : Nat) : Int) < (w : Int)) by omega), cond_false, if_neg h2]
        rfl
  | cons q r =>
    have hl2 : (q :: r).length ≤ 65536 := by rw [← htab, hlen]; omega
    show lp g163 cf_plb (cL (cL (cR (cR C_plb)))) (n + 1) (stVb1 o [(w : Int), (v : Int)] [(s : Int), (u : Int)] l [(a : Int), (b : Int)] ((o + a * s + b * u : Nat) : Int) (q :: r)) k = _
    rw [b2_st1, hge, cond_false, g1, Option.bind_some, app_one hl2, Option.bind_some, e0, e1, hfm]
    by_cases h : b + 1 < v
    · rw [decide_eq_true (show ((b + 1 : Nat) : Int) < (v : Int) by omega), cond_true, if_pos h]
      rfl
    · rw [decide_eq_false (show ¬ (((b + 1 : Nat) : Int) < (v : Int)) by omega), cond_false, if_neg h, e2, e3, e4, e0a]
      by_cases h2 : a + 1 < w
      · rw [decide_eq_true (show ((a + 1 : Nat) : Int) < (w : Int) by omega), cond_true, if_pos h2]
        rfl
      · rw [decide_eq_false (show ¬ (((a + 1 : Nat) : Int) < (w : Int)) by omega), cond_false, if_neg h2]
        rfl
theorem b2_all {o w v s u : Nat} {l : List Int} (ho : o ≤ 65536) (hs : s ≤ 65536) (hu : u ≤ 65536) (hwv : w * v ≤ 65536) (hp : o + (w - 1) * s + (v - 1) * u < l.length) : ∀ (r a b n : Nat), a < w → b < v → a * v + b + r + 1 = w * v → r < n →
    lp g163 cf_plb (cL (cL (cR (cR C_plb)))) n (stVm o [(w : Int), (v : Int)] [(s : Int), (u : Int)] l [(a : Int), (b : Int)] ((o + a * s + b * u : Nat) : Int) (tab (a * v + b) (f2V l o v s u))) WKb = some (.ret [], hpYbW o [(w : Int), (v : Int)] [(s : Int), (u : Int)] l (tab (w * v) (f2V l o v s u))) := by
  intro r
  induction r with
  | zero =>
    intro a b n ha hb hr hn
    obtain ⟨n, rfl⟩ : ∃ m', n = m' + 1 := ⟨n - 1, by omega⟩
    have hav := row_le (C := v) ha
    have ha1 : a + 1 = w := by
      rcases Nat.lt_or_ge (a + 1) w with h | h
      · have := row_le (C := v) h
        rw [Nat.add_mul, Nat.one_mul] at this
        omega
      · omega
    have hle1 : a * s ≤ (w - 1) * s := Nat.mul_le_mul_right _ (by omega)
    have hle2 : b * u ≤ (v - 1) * u := Nat.mul_le_mul_right _ (by omega)
    obtain ⟨P, h⟩ := b2_one ha hb ho hs hu hwv (show o + a * s + b * u < l.length by omega) n WKb
    have hb1 : b + 1 = v := by
      rw [← ha1, Nat.add_mul, Nat.one_mul] at hr
      omega
    rw [h, if_neg (by omega), if_neg (by omega), show a * v + (b + 1) = w * v by omega]
    exact WKb_end _ _ _ _ _ _ _
  | succ r ih =>
    intro a b n ha hb hr hn
    obtain ⟨n, rfl⟩ : ∃ m', n = m' + 1 := ⟨n - 1, by omega⟩
    have hle1 : a * s ≤ (w - 1) * s := Nat.mul_le_mul_right _ (by omega)
    have hle2 : b * u ≤ (v - 1) * u := Nat.mul_le_mul_right _ (by omega)
    obtain ⟨P, h⟩ := b2_one ha hb ho hs hu hwv (show o + a * s + b * u < l.length by omega) n WKb
    rw [h]
    by_cases h1 : b + 1 < v
    · rw [if_pos h1]
      exact ih a (b + 1) n ha h1 (by omega) (by omega)
    · have hb1 : b + 1 = v := by omega
      have ha1 : a + 1 < w := by
        rcases Nat.lt_or_ge (a + 1) w with h2 | h2
        · exact h2
        · have : w = a + 1 := by omega
          subst this
          rw [Nat.add_mul, Nat.one_mul] at hr
          omega
      rw [if_neg h1, if_pos ha1, hb1, show a * v + v = (a + 1) * v + 0 by rw [Nat.add_mul, Nat.one_mul, Nat.add_zero]]
      exact ih (a + 1) 0 n ha1 (by omega) (by rw [Nat.add_mul, Nat.one_mul]; omega) (by omega)
theorem runC_kw {E : Env} (hE : E.Good) {fn : Func} {depth : Nat} {live : List (Nat × List Nat)} {args : List AV} {hs hs' : LHp} {ae : AEnd} (h : runC E fn depth live args hs ah = some (ae, hs')) {R : Type} (k : AEnd → LHp → Option R) : runC E fn depth live args hs k = k ae hs' := by
  rw [runC_eq hE] at h ⊢
  cases hx : execB E fn depth live args hs with
  | none => rw [hx] at h; cases h
  | some p => rw [hx] at h; cases h; rfl
theorem plbE_eqv (args : List AV) (hs : LHp) {R : Type} (k : AEnd → LHp → Option R) : y109.run args hs k = runC g163 Tryz.f109 6 [(2, [0, 1, 3, 4]), (4, [0, 1, 3, 4, 5])] args hs k := rfl
theorem gVb_good : (gVb y109).Good := g179_good.add y109_ok
theorem plb2_run {o w v s u : Nat} {l : List Int} (ho : o ≤ 65536) (hs : s ≤ 65536) (hu : u ≤ 65536) (hwv : w * v ≤ 65536) (hw1 : 1 ≤ w) (hv1 : 1 ≤ v) (hp : o + (w - 1) * s + (v - 1) * u < l.length) :
    runC g163 Tryz.f109 6 [(2, [0, 1, 3, 4]), (4, [0, 1, 3, 4, 5])] [.ref 8, .op 0 [] 0] (hpYb o [(w : Int), (v : Int)] [(s : Int), (u : Int)] l .nils) ah = some (.ret [], hpYbW o [(w : Int), (v : Int)] [(s : Int), (u : Int)] l (tab (w * v) (f2V l o v s u))) := by
  have hfu : fu = 18446744073709551616 := rfl
  have key : runC g163 Tryz.f109 6 [(2, [0, 1, 3, 4]), (4, [0, 1, 3, 4, 5])] [.ref 8, .op 0 [] 0] (hpYb o [(w : Int), (v : Int)] [(s : Int), (u : Int)] l .nils) ah = lp g163 cf_plb (cL (cL (cR (cR C_plb)))) fu (stVb0 o [(w : Int), (v : Int)] [(s : Int), (u : Int)] l [0, 0] o) WKb := (plb_eq2 o w v s u l).trans (by kernel_rfl)
  have hb : 1 ≤ w * v := Nat.mul_pos hw1 hv1
  have h := b2_all ho hs hu hwv hp (w * v - 1) 0 0 fu hw1 hv1 (by omega) (by omega)
  rw [Nat.zero_mul, Nat.zero_mul, Nat.zero_mul, Nat.add_zero, Nat.add_zero] at h
  have e : stVm o [(w : Int), (v : Int)] [(s : Int), (u : Int)] l [((0 : Nat) : Int), ((0 : Nat) : Int)] (o : Int) (tab 0 (f2V l o v s u)) = stVb0 o [(w : Int), (v : Int)] [(s : Int), (u : Int)] l [0, 0] o := rfl
  rw [e] at h
  exact key.trans h
theorem reb_go (F : FnE) (off : Int) (ds ss l out : List Int) (h : ∀ (k : AEnd → LHp → Option (AEnd × LHp)), F.run [.ref 8, .op 0 [] 0] (hpYb off ds ss l .nils) k = k (.ret []) (hpYbW off ds ss l out)) :
    exC (gVb F) cf_reb (cL (cR (cL (cR (cR (cR C_reb)))))) ⟨frVb off l, hpVb off ds ss l, 12⟩ (RKb F) = some (.ret [.os 2 0, I 0], [(0, .arr 3 i64T 0 false ss), (1, .arr 3 i64T 0 false ds), (2, .arr 2 i64T 0 false out)]) := by
  rw [reb_rf, h, reb_fin]
theorem reb2_run {o w v s u : Nat} {l : List Int} (ho : o < 65536) (hs : s ≤ 65536) (hu : u ≤ 65536) (hwv : w * v ≤ 65536) (hc : countE [(w : Int), (v : Int)] = 0) (hp : o + (w - 1) * s + (v - 1) * u < l.length) :
    runC (gVb y109) Tryz.f43 5 [(5, [0, 1, 2, 3, 4, 5, 6, 14, 15, 16, 17, 18, 19, 20, 21, 22, 23, 24])] [vwB o 1 0, .d (.slice i64T) l] (hpW2 w v s u) ah = some (.ret [.os 2 0, I 0], [(0, .arr 3 i64T 0 false [(s : Int), (u : Int)]), (1, .arr 3 i64T 0 false [(w : Int), (v : Int)]), (2, .arr 2 i64T 0 false (tab (w * v) (f2V l o v s u)))]) := by
  have hw1 : 1 ≤ w := by
    have := (count_ok hc).1 (w : Int) (by simp)
    omega
  have hv1 : 1 ≤ v := by
    have := (count_ok hc).1 (v : Int) (by simp)
    omega
  have key : runC (gVb y109) Tryz.f43 5 [(5, [0, 1, 2, 3, 4, 5, 6, 14, 15, 16, 17, 18, 19, 20, 21, 22, 23, 24])] [vwB o 1 0, .d (.slice i64T) l] (hpW2 w v s u) ah = exC (gVb y109) cf_reb (cL (cR (cL (cR (cR (cR C_reb)))))) ⟨frVb o l, hpVb o [(w : Int), (v : Int)] [(s : Int), (u : Int)] l, 12⟩ (RKb y109) := (reb_eq y109 o w v s u l).trans (by
    rw [hc, decide_eq_true (show (o : Int) ≥ 0 by omega), decide_eq_true (show (o : Int) < 65536 by omega), decide_eq_false (show ¬ ((s : Int) < 0) by omega), decide_eq_false (show ¬ ((s : Int) > 65536) by omega), decide_eq_false (show ¬ ((u : Int) < 0) by omega), decide_eq_false (show ¬ ((u : Int) > 65536) by omega), beq_self_eq_true, cond_true, cond_true, cond_true, cond_false, cond_false, cond_false, cond_false]
    show _ = _
    kernel_rfl)
  exact key.trans (reb_go _ _ _ _ _ _ fun k => (plbE_eqv _ _ k).trans (runC_kw g163_good (plb2_run (by omega) hs hu hwv hw1 hv1 hp) k))
def okR2 (off s u w v : Int) (l : List Int) : Bool := decide ((0 ≤ off ∧ off < 65536 ∧ 0 ≤ s ∧ s ≤ 65536 ∧ 0 ≤ u ∧ u ≤ 65536) ∧ (1 ≤ w ∧ 1 ≤ v ∧ w.toNat * v.toNat ≤ 65536 ∧ countE [w, v] = 0) ∧ off.toNat + (w.toNat - 1) * s.toNat + (v.toNat - 1) * u.toNat < l.length)
def rd2 (off s u w v : Int) (l : List Int) : List Int := tab (w.toNat * v.toNat) (f2V l off.toNat v.toNat s.toNat u.toNat)
def reaT2 : List AV → LHp → Tq
  | [.pr (.d (.int .i64) off) (.pr (.os 1 0) (.pr (.os 0 0) (.d .unit ()))), .d (.slice (.int .i64)) l], [(0, .arr 3 (.int .i64) 0 false [s, u]), (1, .arr 3 (.int .i64) 0 false [w, v])] =>
    .br (okR2 off s u w v l) (.leaf (.ret [.os 2 0, I 0]) [(0, .arr 3 i64T 0 false [s, u]), (1, .arr 3 i64T 0 false [w, v]), (2, .arr 2 i64T 0 false (rd2 off s u w v l))]) .no
  | _, _ => .no
theorem reaT2_ok : FnE.OK e0.P e0.gam 43 (treeE reaT2) := by
  have h1 : FnE.OK e0.P e0.gam 43 (execFnC (gVb y109) Tryz.f43 5 [(5, [0, 1, 2, 3, 4, 5, 6, 14, 15, 16, 17, 18, 19, 20, 21, 22, 23, 24])]) := execFnC_ok gVb_good hmix Tryz.func43 Tryz.call43 (by decide +kernel) rfl
  refine ⟨fun _ _ _ => Tq.eq _ _, fun args hs ae hs' h => ?_⟩
  have h' : (reaT2 args hs).run ah = some (ae, hs') := h
  clear h
  unfold reaT2 at h'
  split at h'
  · rename_i off l s u w v
    obtain ⟨hb, h2⟩ := Tq.br_no h'
    obtain ⟨⟨c1, c2, c3, c4, c5, c6⟩, ⟨c7, c8, c9, c10⟩, c11⟩ := of_decide_eq_true hb
    obtain ⟨o, rfl⟩ := Int.eq_ofNat_of_zero_le c1
    obtain ⟨s, rfl⟩ := Int.eq_ofNat_of_zero_le c3
    obtain ⟨u, rfl⟩ := Int.eq_ofNat_of_zero_le c5
    obtain ⟨w, rfl⟩ := Int.eq_ofNat_of_zero_le (show (0 : Int) ≤ w by omega)
    obtain ⟨v, rfl⟩ := Int.eq_ofNat_of_zero_le (show (0 : Int) ≤ v by omega)
    unfold rd2 at h2
    simp only [Int.toNat_natCast] at c9 c11 h2
    have d2 : (o : Int) < 65536 := c2
    have d4 : (s : Int) ≤ 65536 := c4
    have d6 : (u : Int) ≤ 65536 := c6
    cases h2
    exact h1.okC (reb2_run (by omega) (by omega) (by omega) c9 c10 c11)
  · cases h'
end Go.Proofs.XPT
namespace Go.Proofs.XPT
open Go.Vm Go
set_option maxRecDepth 100000
set_option maxHeartbeats 4000000
def hpTr (t : Int) (d x : List Int) : LHp := [(0, .arr 25 (Y0) 0 false [(t, d, x, ())]), (1, .arr 9 .str 0 false [[120]])]
theorem mbg_eq (t a b : Int) (x : List Int) : runC g173 Tryz.f14 6 [(3, [2, 4, 6, 9, 10, 11])] [nodeA strTR [] [121] (.os 1 0) .nils, .os 0 0] (hpTr t [a, b] x) ah = bif decide (2 ≤ 9223372036854775807 ∧ x.length ≤ 9223372036854775807) then  bif tenE t [a, b] x != 0 then some (AEnd.ret [(AV.d Ty.str []).pr ((I 0).pr (AV.nils.pr (AV.d Ty.unit PUnit.unit))), I 1], [(0, AObj.arr 25 Y0 0 false [(t, [a, b], x, ())]), (1, AObj.arr 9 Ty.str 0 false [[120]])]) else  bif !numOk t 0 then some (AEnd.ret [(AV.d Ty.str []).pr ((I 0).pr (AV.nils.pr (AV.d Ty.unit PUnit.unit))), I 5], [(0, AObj.arr 25 Y0 0 false [(t, [a, b], x, ())]), (1, AObj.arr 9 Ty.str 0 false [[120]])]) else  bif countE [a, b] != 0 then some (AEnd.ret [(AV.d Ty.str []).pr ((I 0).pr (AV.nils.pr (AV.d Ty.unit PUnit.unit))), I (countE [a, b])], [(0, AObj.arr 25 Y0 0 false [(t, [a, b], x, ())]), (1, AObj.arr 9 Ty.str 0 false [[120]])]) else  bif t == 6 then  bif countE [b, a] != 0 then some (AEnd.ret [(AV.d Ty.str []).pr ((I 0).pr (AV.nils.pr (AV.d Ty.unit PUnit.unit))), I (countE [b, a])], [(0, AObj.arr 25 Y0 0 false [(t, [a, b], x, ())]), (1, AObj.arr 9 Ty.str 0 false [[120]])]) else some (AEnd.ret [(AV.d Ty.str [121]).pr ((I t).pr ((AV.os 2 0).pr (AV.d Ty.unit PUnit.unit))), I 0], [(0, AObj.arr 25 Y0 0 false [(t, [a, b], x, ())]), (1, AObj.arr 9 Ty.str 0 false [[120]]), (2, AObj.arr 3 (i64T) 0 false [b, a])]) else  bif countE [b, a] != 0 then some (AEnd.ret [(AV.d Ty.str []).pr ((I 0).pr (AV.nils.pr (AV.d Ty.unit PUnit.unit))), I (countE [b, a])], [(0, AObj.arr 25 Y0 0 false [(t, [a, b], x, ())]), (1, AObj.arr 9 Ty.str 0 false [[120]])]) else some (AEnd.ret [(AV.d Ty.str [121]).pr ((I t).pr ((AV.os 2 0).pr (AV.d Ty.unit PUnit.unit))), I 0], [(0, AObj.arr 25 Y0 0 false [(t, [a, b], x, ())]), (1, AObj.arr 9 Ty.str 0 false [[120]]), (2, AObj.arr 3 (i64T) 0 false [b, a])]) else none := by kernel_rfl
noncomputable def gMr : Env := g180.add 43 (treeE reaT2)
theorem gMr_good : gMr.Good := g180_good.add reaT2_ok
noncomputable def rdE : FnE := execFnC gMr Tryz.f18 4 []
theorem rdE_ok : FnE.OK e0.P e0.gam 18 rdE := execFnC_ok gMr_good hmix Tryz.func18 Tryz.call18 (by decide +kernel) rfl
noncomputable def gMt : Env := g187.add 18 rdE
theorem gMt_good : gMt.Good := g187_good.add rdE_ok
theorem mtp_eq (t a b : Int) (x : List Int) : runC gMt Tryz.f19 6 [(3, [2, 3, 5, 14, 15]), (9, [3, 7, 25, 26, 27])] [nodeA strTR [] [121] (.os 0 0) .nils, .d (Y0) (t, [a, b], x, ())] [(0, .arr 9 .str 0 false [[120]])] ah = bif countE [a, b] != 0 then  bif countE [a, b] != 0 then none else  bif countE [a, b] == 0 then none else none else  bif countE [a, b] == 0 then  bif decide (IntKind.i64.wrap (1 * b) < 0) then none else  bif decide (IntKind.i64.wrap (1 * b) > 65536) then none else  bif okR2 0 1 (IntKind.i64.wrap (1 * b)) b a x then some (AEnd.ret [AV.os 1 0], [(0, AObj.arr 9 Ty.str 0 false [[120]]), (1, AObj.arr 2 (i64T) 0 false (rd2 0 1 (IntKind.i64.wrap (1 * b)) b a x))]) else none else none := by kernel_rfl
end Go.Proofs.XPT
namespace Go.Proofs.XPT
open Go.Vm Go
set_option maxRecDepth 100000
set_option maxHeartbeats 4000000
/-- the numbers of a turned matrix -/
def turnL (a b : Int) (x : List Int) : List Int := rd2 0 1 b b a x
def okTn (a b : Int) (x : List Int) : Bool := decide (countE [a, b] = 0 ∧ 0 ≤ b ∧ b ≤ 65536 ∧ okR2 0 1 b b a x = true)
end Go.Proofs.XPT
namespace Go.Proofs.XPT
open Go.Vm Go
set_option maxRecDepth 100000
set_option maxHeartbeats 4000000
theorem prod2 (u v : Int) : prodI [u, v] = u * v := by show 1 * u * v = u * v; rw [Int.one_mul]
theorem count_turn {a b : Int} (h : countE [a, b] = 0) : countE [b, a] = 0 := by
  obtain ⟨p1, _, p3, _⟩ := count_ok h
  rw [prod2] at p3
  exact (countE_mk (xs := [b, a]) (fun v hv => by
    simp only [List.mem_cons, List.not_mem_nil, or_false] at hv
    rcases hv with rfl | rfl
    · exact p1 _ (by simp)
    · exact p1 _ (by simp)) (by simp) (by rw [prod2, Int.mul_comm]; exact p3)).1
theorem ten2_ok {t a b : Int} {x : List Int} (h : tenE t [a, b] x = 0) : ∃ A B : Nat, a = A ∧ b = B ∧ 1 ≤ A ∧ 1 ≤ B ∧ A * B ≤ 65536 ∧ x.length = A * B ∧ numOk t 0 = true ∧ countE [(A : Int), (B : Int)] = 0 ∧ ∀ v ∈ x, numOk t v = true := by
  obtain ⟨n1, n2, n3, n4⟩ := ten_ok h
  obtain ⟨p1, _, p3, p4⟩ := count_ok n2
  rw [p4] at n3
  rw [prod2] at p3 n3
  have ha := p1 a (by simp)
  have hb := p1 b (by simp)
  obtain ⟨A, rfl⟩ := Int.eq_ofNat_of_zero_le (show (0 : Int) ≤ a by omega)
  obtain ⟨B, rfl⟩ := Int.eq_ofNat_of_zero_le (show (0 : Int) ≤ b by omega)
  rw [← Int.natCast_mul] at p3 n3
  exact ⟨A, B, rfl, rfl, by omega, by omega, by omega, by omega, n1, n2, n4⟩
theorem okTn_of {t a b : Int} {x : List Int} (h : tenE t [a, b] x = 0) : okTn a b x = true := by
  obtain ⟨A, B, rfl, rfl, hA, hB, hm, hl, _, hc, _⟩ := ten2_ok h
  have h1 : B ≤ A * B := Nat.le_mul_of_pos_left _ (by omega)
  have h2 : A ≤ A * B := Nat.le_mul_of_pos_right _ (by omega)
  have h3 : (A - 1) * B + B = A * B := by
    obtain ⟨k, rfl⟩ : ∃ k, A = k + 1 := ⟨A - 1, by omega⟩
    rw [Nat.add_sub_cancel, Nat.add_mul, Nat.one_mul]
  unfold okTn okR2
  refine decide_eq_true ⟨hc, by omega, by omega, decide_eq_true ⟨⟨by omega, by omega, by omega, by omega, by omega, by omega⟩, ⟨by omega, by omega, ?_, count_turn hc⟩, ?_⟩⟩
  · simp only [Int.toNat_natCast]
    rw [Nat.mul_comm]
    exact hm
  · simp only [Int.toNat_natCast, Int.toNat_zero, Int.toNat_one, Nat.mul_one, Nat.zero_add]
    omega
theorem mtp_run {t a b : Int} {x : List Int} (h : okTn a b x = true) : runC gMt Tryz.f19 6 [(3, [2, 3, 5, 14, 15]), (9, [3, 7, 25, 26, 27])] [nodeA strTR [] [121] (.os 0 0) .nils, .d (Y0) (t, [a, b], x, ())] [(0, .arr 9 .str 0 false [[120]])] ah = some (.ret [.os 1 0], [(0, .arr 9 .str 0 false [[120]]), (1, .arr 2 i64T 0 false (turnL a b x))]) := by
  obtain ⟨c1, c2, c3, c4⟩ := of_decide_eq_true h
  refine (mtp_eq t a b x).trans ?_
  have w : IntKind.i64.wrap (1 * b) = b := by rw [Int.one_mul]; exact wrap64 (by omega) (by omega)
  rw [w, c1, decide_eq_false (show ¬ b < 0 by omega), decide_eq_false (show ¬ b > 65536 by omega), c4]
  rfl
def mtpT : List AV → LHp → Tq
  | [n, .d ((.pair (.int .i64) (.pair (.slice (.int .i64)) (.pair (.slice (.int .i64)) .unit)))) (_, [a, b], x, ())], [(0, .arr 9 .str 0 false ins)] =>
    (match nodeP n with
    | some (op, nm, out, .os 0 0, .nils) => gate (decide (op = strTR) && decide (nm = []) && decide (out = [121]) && decide (ins = [[120]]))
        (.br (okTn a b x) (.leaf (.ret [.os 1 0]) [(0, .arr 9 .str 0 false [[120]]), (1, .arr 2 i64T 0 false (turnL a b x))]) .no)
    | _ => .no)
  | _, _ => .no
theorem mtpT_ok : FnE.OK e0.P e0.gam 19 (treeE mtpT) := by
  have h1 : FnE.OK e0.P e0.gam 19 (execFnC gMt Tryz.f19 6 [(3, [2, 3, 5, 14, 15]), (9, [3, 7, 25, 26, 27])]) := execFnC_ok gMt_good hmix Tryz.func19 Tryz.call19 (by decide +kernel) rfl
  refine ⟨fun _ _ _ => Tq.eq _ _, fun args hs ae hs' h => ?_⟩
  have h' : (mtpT args hs).run ah = some (ae, hs') := h
  clear h
  unfold mtpT at h'
  split at h'
  · split at h'
    · rename_i hn
      rw [nodeP_some hn]
      obtain ⟨hb, h2⟩ := gate_run h'
      clear h'
      simp only [Bool.and_eq_true, decide_eq_true_eq] at hb
      obtain ⟨⟨⟨b1, b2⟩, b3⟩, b4⟩ := hb
      subst b1 b2 b3 b4
      obtain ⟨hl, h3⟩ := Tq.br_no h2
      cases h3
      exact h1.okC (mtp_run hl)
    · cases h'
  · cases h'
def mbgE (t a b : Int) (x : List Int) : Int := bif tenE t [a, b] x != 0 then 1 else 0
theorem mbg_run {t a b : Int} {x : List Int} (h : x.length ≤ maxLen) : runC g173 Tryz.f14 6 [(3, [2, 4, 6, 9, 10, 11])] [nodeA strTR [] [121] (.os 1 0) .nils, .os 0 0] (hpTr t [a, b] x) ah =
    bif mbgE t a b x != 0 then some (.ret [zeroV, I (mbgE t a b x)], hpTr t [a, b] x) else some (.ret [(AV.d Ty.str [121]).pr ((I t).pr ((AV.os 2 0).pr (AV.d Ty.unit PUnit.unit))), I 0], hpTr t [a, b] x ++ [(2, .arr 3 i64T 0 false [b, a])]) := by
  rw [mbg_eq, decide_eq_true (show 2 ≤ 9223372036854775807 ∧ x.length ≤ 9223372036854775807 from ⟨by decide, h⟩)]
  unfold mbgE
  cases e1 : tenE t [a, b] x != 0 with
  | true => rfl
  | false =>
    have e0 : tenE t [a, b] x = 0 := by simpa using e1
    obtain ⟨n1, n2, _⟩ := ten_ok e0
    rw [n1, n2, count_turn n2]
    cases t == 6 <;> rfl
def mbgT : List AV → LHp → Tq
  | [n, .os 0 0], [(0, .arr 25 ((.pair (.int .i64) (.pair (.slice (.int .i64)) (.pair (.slice (.int .i64)) .unit)))) 0 false [(t, [a, b], x, ())]), (1, .arr 9 .str 0 false ins)] =>
    (match nodeP n with
    | some (op, nm, out, .os 1 0, .nils) => gate (decide (op = strTR) && decide (nm = []) && decide (out = [121]) && decide (ins = [[120]]))
        (.br (decide (x.length ≤ maxLen)) (.br (mbgE t a b x != 0) (.leaf (.ret [zeroV, I (mbgE t a b x)]) (hpTr t [a, b] x)) (.leaf (.ret [(AV.d Ty.str [121]).pr ((I t).pr ((AV.os 2 0).pr (AV.d Ty.unit PUnit.unit))), I 0]) (hpTr t [a, b] x ++ [(2, .arr 3 i64T 0 false [b, a])]))) .no)
    | _ => .no)
  | _, _ => .no
theorem mbgT_ok : FnE.OK e0.P e0.gam 14 (treeE mbgT) := by
  have h1 : FnE.OK e0.P e0.gam 14 (execFnC g173 Tryz.f14 6 [(3, [2, 4, 6, 9, 10, 11])]) := y14_ok
  refine ⟨fun _ _ _ => Tq.eq _ _, fun args hs ae hs' h => ?_⟩
  have h' : (mbgT args hs).run ah = some (ae, hs') := h
  clear h
  unfold mbgT at h'
  split at h'
  · split at h'
    · rename_i hn
      rw [nodeP_some hn]
      obtain ⟨hb, h2⟩ := gate_run h'
      clear h'
      simp only [Bool.and_eq_true, decide_eq_true_eq] at hb
      obtain ⟨⟨⟨b1, b2⟩, b3⟩, b4⟩ := hb
      subst b1 b2 b3 b4
      obtain ⟨hl, h3⟩ := Tq.br_no h2
      exact h1.okC ((mbg_run (of_decide_eq_true hl)).trans h3)
    · cases h'
  · cases h'
noncomputable def gMd : Env := (g200.add 14 (treeE mbgT)).add 19 (treeE mtpT)
theorem gMd_good : gMd.Good := (g200_good.add mbgT_ok).add mtpT_ok
theorem mdo_eq (t a b : Int) (x : List Int) : runC gMd Tryz.f7 7 [] [nodeA strTR [] [121] (.os 1 0) .nils, .os 0 0] (hpTr t [a, b] x) ah = bif decide (x.length ≤ 9223372036854775807) then  bif mbgE t a b x != 0 then  bif mbgE t a b x != 0 then some (AEnd.ret [(I 0).pr (AV.nils.pr (AV.nils.pr (AV.d Ty.unit PUnit.unit))), I (mbgE t a b x)], [(0, AObj.arr 25 Y0 0 false [(t, [a, b], x, ())]), (1, AObj.arr 9 Ty.str 0 false [[120]])]) else  bif okTn a b x then some (AEnd.ret [(I 0).pr (AV.nils.pr ((AV.os 2 0).pr (AV.d Ty.unit PUnit.unit))), I 0], [(0, AObj.arr 25 Y0 0 false [(t, [a, b], x, ())]), (1, AObj.arr 9 Ty.str 0 false [[120]]), (2, AObj.arr 2 (i64T) 0 false (turnL a b x))]) else none else  bif okTn a b x then some (AEnd.ret [(I t).pr ((AV.os 2 0).pr ((AV.os 3 0).pr (AV.d Ty.unit PUnit.unit))), I 0], [(0, AObj.arr 25 Y0 0 false [(t, [a, b], x, ())]), (1, AObj.arr 9 Ty.str 0 false [[120]]), (2, AObj.arr 3 (i64T) 0 false [b, a]), (3, AObj.arr 2 (i64T) 0 false (turnL a b x))]) else none else none := by kernel_rfl
end Go.Proofs.XPT
namespace Go.Proofs.XPT
open Go.Vm Go
set_option maxRecDepth 100000
set_option maxHeartbeats 4000000
theorem mdo_run {t a b : Int} {x : List Int} (h : x.length ≤ maxLen) : runC gMd Tryz.f7 7 [] [nodeA strTR [] [121] (.os 1 0) .nils, .os 0 0] (hpTr t [a, b] x) ah =
    bif mbgE t a b x != 0 then some (.ret [zeroTL, I (mbgE t a b x)], hpTr t [a, b] x) else some (.ret [okTL t, I 0], hpTr t [a, b] x ++ [(2, .arr 3 i64T 0 false [b, a]), (3, .arr 2 i64T 0 false (turnL a b x))]) := by
  rw [mdo_eq, decide_eq_true (show x.length ≤ 9223372036854775807 from h)]
  unfold mbgE
  cases e1 : tenE t [a, b] x != 0 with
  | true => rfl
  | false =>
    rw [okTn_of (show tenE t [a, b] x = 0 by simpa using e1)]
    rfl
def mdoT : List AV → LHp → Tq
  | [n, .os 0 0], [(0, .arr 25 ((.pair (.int .i64) (.pair (.slice (.int .i64)) (.pair (.slice (.int .i64)) .unit)))) 0 false [(t, xd, x, ())]), (1, .arr 9 .str 0 false ins)] =>
    (match nodeP n with
    | some (op, nm, out, .os 1 0, .nils) => gate (decide (op = strTR) && decide (nm = []) && decide (out = [121]) && decide (ins = [[120]]))
        (.opt (two2 xd) fun p => .br (decide (x.length ≤ maxLen)) (.br (mbgE t p.1 p.2 x != 0) (.leaf (.ret [zeroTL, I (mbgE t p.1 p.2 x)]) (hpTr t [p.1, p.2] x)) (.leaf (.ret [okTL t, I 0]) (hpTr t [p.1, p.2] x ++ [(2, .arr 3 i64T 0 false [p.2, p.1]), (3, .arr 2 i64T 0 false (turnL p.1 p.2 x))]))) .no)
    | _ => .no)
  | _, _ => .no
theorem mdoT_ok : FnE.OK e0.P e0.gam 7 (treeE mdoT) := by
  have h1 : FnE.OK e0.P e0.gam 7 (execFnC gMd Tryz.f7 7 []) := execFnC_ok gMd_good hmix Tryz.func7 Tryz.call7 (by decide +kernel) rfl
  refine ⟨fun _ _ _ => Tq.eq _ _, fun args hs ae hs' h => ?_⟩
  have h' : (mdoT args hs).run ah = some (ae, hs') := h
  clear h
  unfold mdoT at h'
  split at h'
  · split at h'
    · rename_i hn
      rw [nodeP_some hn]
      obtain ⟨hb, h2⟩ := gate_run h'
      clear h'
      simp only [Bool.and_eq_true, decide_eq_true_eq] at hb
      obtain ⟨⟨⟨b1, b2⟩, b3⟩, b4⟩ := hb
      subst b1 b2 b3 b4
      simp only [Tq.run] at h2
      obtain ⟨p, hp, h3⟩ := bind_some h2
      clear h2
      rw [two2_some hp]
      have bif_none' : ∀ {c : Bool} {x : Option (AEnd × LHp)} {r : AEnd × LHp}, (bif c then x else none) = some r → c = true ∧ x = some r := fun {c x r} h => by
        cases c with
        | true => exact ⟨rfl, h⟩
        | false => cases h
      obtain ⟨hl, h5⟩ := bif_none' h3
      exact h1.okC ((mdo_run (of_decide_eq_true hl)).trans h5)
    · cases h'
  · cases h'
end Go.Proofs.XPT
namespace Go.Proofs.XPT
open Go.Vm Go
set_option maxRecDepth 100000
set_option maxHeartbeats 1000000
theorem cbE_ok {t1 c h w t2 m e : Int} {x y : List Int} (hb : cbE t1 c h w x t2 m e y = 0) : t1 = 1 ∧ t2 = 1 ∧ e = c ∧ tenE t1 [1, c, h, w] x = 0 ∧ tenE t2 [m, e, 1, 1] y = 0 ∧ countE [1, m, h, w] = 0 := by
  unfold cbE at hb
  cases e1 : tenE t1 [1, c, h, w] x != 0 with
  | true => rw [e1] at hb; exact absurd (show (1 : Int) = 0 from hb) (by decide)
  | false =>
    cases e2 : tenE t2 [m, e, 1, 1] y != 0 with
    | true => rw [e1, e2] at hb; exact absurd (show (1 : Int) = 0 from hb) (by decide)
    | false =>
      cases e3 : t1 != 1 with
      | true => rw [e1, e2, e3] at hb; exact absurd (show (4 : Int) = 0 from hb) (by decide)
      | false =>
        cases e4 : t2 != 1 with
        | true => rw [e1, e2, e3, e4] at hb; exact absurd (show (4 : Int) = 0 from hb) (by decide)
        | false =>
          cases e5 : !e == c with
          | true => rw [e1, e2, e3, e4, e5] at hb; exact absurd (show (4 : Int) = 0 from hb) (by decide)
          | false =>
            rw [e1, e2, e3, e4, e5] at hb
            exact ⟨by simpa using e3, by simpa using e4, by simpa using e5, by simpa using e1, by simpa using e2, hb⟩
/-- what is known where conv.Do makes something -/
structure OkCv (C H W M : Nat) (x y : List Int) : Prop where
  c1 : 1 ≤ C
  h1 : 1 ≤ H
  w1 : 1 ≤ W
  m1 : 1 ≤ M
  hx : x.length = C * (H * W)
  hy : y.length = M * C
  bx : C * (H * W) ≤ 65536
  bY : M * C ≤ 65536
  bz : M * (H * W) ≤ 65536
  nx : ∀ v ∈ x, numOk 1 v = true
  ny : ∀ v ∈ y, numOk 1 v = true
theorem cbE_nat {t1 c h w t2 m e : Int} {x y : List Int} (hb : cbE t1 c h w x t2 m e y = 0) : ∃ C H W M : Nat, c = C ∧ h = H ∧ w = W ∧ m = M ∧ e = C ∧ OkCv C H W M x y := by
  obtain ⟨rfl, rfl, rfl, e1, e2, e3⟩ := cbE_ok hb
  obtain ⟨A, C, H, W, a1, rfl, rfl, rfl, _, hC, hH, hW, hb1, hx, _, _, nx⟩ := ten4_ok e1
  obtain ⟨M, E, X, Y, rfl, hE, x1, y1, hM, _, _, _, hb2, hy, _, _, ny⟩ := ten4_ok e2
  obtain rfl : A = 1 := by omega
  obtain rfl : X = 1 := by omega
  obtain rfl : Y = 1 := by omega
  obtain rfl : C = E := by omega
  obtain ⟨_, _, p3, _⟩ := count_ok e3
  rw [prod4, Int.one_mul, ← Int.natCast_mul, ← Int.natCast_mul] at p3
  rw [Nat.one_mul, Nat.mul_assoc] at hb1 hx
  rw [Nat.mul_one, Nat.mul_one] at hb2 hy
  replace p3 : M * H * W ≤ 65536 := Int.ofNat_le.1 p3
  rw [Nat.mul_assoc] at p3
  exact ⟨C, H, W, M, rfl, rfl, rfl, rfl, rfl, hC, hH, hW, hM, hx, hy, hb1, hb2, p3, nx, ny⟩
theorem cb_cv {t1 c h w t2 m e : Int} {x y : List Int} (hb : cbE t1 c h w x t2 m e y = 0) : cvOk c h w m e x y [1, m, h, w] = true := by
  obtain ⟨_, _, rfl, _, _, e3⟩ := cbE_ok hb
  obtain ⟨C, H, W, M, rfl, rfl, rfl, rfl, _, k⟩ := cbE_nat hb
  have a1 : (1 : Int) * C * H * W = ((C * (H * W) : Nat) : Int) := by rw [Int.one_mul, Int.mul_assoc, Int.natCast_mul, Int.natCast_mul]
  have a2 : ((M : Nat) : Int) * ((C : Nat) : Int) = ((M * C : Nat) : Int) := by rw [Int.natCast_mul]
  have := k.c1
  have := k.h1
  have := k.w1
  have := k.m1
  refine decide_eq_true ⟨rfl, rfl, by omega, by omega, by omega, by omega, ?_, ?_, ?_, ?_, e3⟩
  · rw [a1]; exact Int.ofNat_le.2 k.bx
  · rw [a2]; exact Int.ofNat_le.2 k.bY
  · rw [a1, k.hx]
  · rw [a2, k.hy]
theorem cdo_run {t1 c h w t2 m e : Int} {x y : List Int} (hl : x.length ≤ maxLen ∧ y.length ≤ maxLen) : runC gCd Tryz.f6 7 [] [nodeA strCV [] [122] (.os 1 0) .nils, .os 0 0] (hpCb t1 [1, c, h, w] x t2 [m, e, 1, 1] y) ah =
    bif cbE t1 c h w x t2 m e y != 0 then some (.ret [zeroTL, I (cbE t1 c h w x t2 m e y)], hpCb t1 [1, c, h, w] x t2 [m, e, 1, 1] y) else some (.ret [okTL t1, I 0], hpCb t1 [1, c, h, w] x t2 [m, e, 1, 1] y ++ [(2, .arr 3 i64T 0 false [1, m, h, w]), (3, .arr 2 i64T 0 false (cvO c h w m x y))]) := by
  rw [cdo_eq, decide_eq_true (show x.length ≤ 9223372036854775807 ∧ y.length ≤ 9223372036854775807 from hl)]
  cases hb : cbE t1 c h w x t2 m e y != 0 with
  | true => rfl
  | false =>
    rw [cb_cv (show cbE t1 c h w x t2 m e y = 0 by simpa using hb)]
    rfl
def cdT : List AV → LHp → Tq
  | [n, .os 0 0], [(0, .arr 25 ((.pair (.int .i64) (.pair (.slice (.int .i64)) (.pair (.slice (.int .i64)) .unit)))) 0 false [(t1, xd, x, ()), (t2, yd, y, ())]), (1, .arr 9 .str 0 false ins)] =>
    (match nodeP n with
    | some (op, nm, out, .os 1 0, .nils) => gate (decide (op = strCV) && decide (nm = []) && decide (out = [122]) && decide (ins = [[120], [119]]))
        (.opt (dim4 xd) fun p => .opt (dim11 yd) fun q => .br (decide (x.length ≤ maxLen ∧ y.length ≤ maxLen)) (.br (cbE t1 p.1 p.2.1 p.2.2 x t2 q.1 q.2 y != 0) (.leaf (.ret [zeroTL, I (cbE t1 p.1 p.2.1 p.2.2 x t2 q.1 q.2 y)]) (hpCb t1 [1, p.1, p.2.1, p.2.2] x t2 [q.1, q.2, 1, 1] y)) (.leaf (.ret [okTL t1, I 0]) (hpCb t1 [1, p.1, p.2.1, p.2.2] x t2 [q.1, q.2, 1, 1] y ++ [(2, .arr 3 i64T 0 false [1, q.1, p.2.1, p.2.2]), (3, .arr 2 i64T 0 false (cvO p.1 p.2.1 p.2.2 q.1 x y))]))) .no)
    | _ => .no)
  | _, _ => .no
theorem cdT_ok : FnE.OK e0.P e0.gam 6 (treeE cdT) := by
  have h1 : FnE.OK e0.P e0.gam 6 (execFnC gCd Tryz.f6 7 []) := execFnC_ok gCd_good hmix Tryz.func6 Tryz.call6 (by decide +kernel) rfl
  refine ⟨fun _ _ _ => Tq.eq _ _, fun args hs ae hs' h => ?_⟩
  have h' : (cdT args hs).run ah = some (ae, hs') := h
  clear h
  unfold cdT at h'
  split at h'
  · split at h'
    · rename_i hn
      rw [nodeP_some hn]
      obtain ⟨hb, h2⟩ := gate_run h'
      clear h'
      simp only [Bool.and_eq_true, decide_eq_true_eq] at hb
      obtain ⟨⟨⟨b1, b2⟩, b3⟩, b4⟩ := hb
      subst b1 b2 b3 b4
      simp only [Tq.run] at h2
      obtain ⟨p, hp, h3⟩ := bind_some h2
      obtain ⟨q, hq, h4⟩ := bind_some h3
      clear h2 h3
      rw [dim4_some hp, dim11_some hq]
      have bif_none' : ∀ {c : Bool} {x : Option (AEnd × LHp)} {r : AEnd × LHp}, (bif c then x else none) = some r → c = true ∧ x = some r := fun {c x r} h => by
        cases c with
        | true => exact ⟨rfl, h⟩
        | false => cases h
      obtain ⟨hl, h5⟩ := bif_none' h4
      exact h1.okC ((cdo_run (of_decide_eq_true hl)).trans h5)
    · cases h'
  · cases h'
noncomputable def C_cpr : Code := codeOf Tryz.f3
noncomputable def cf_cpr : Cfg := ⟨179, 8, 0, [(17, [5, 17, 19])], true⟩
noncomputable def gCp : Env := (((g214.add 6 (treeE cdT)).add 7 (treeE mdoT)).add 8 (treeE ldoF)).add 5 (fnE liveF)
theorem gCp_good : gCp.Good := (((g214_good.add cdT_ok).add mdoT_ok).add ldoF_ok).add liveE_ok
theorem cpr_eqH (hl : Hl) (t1 c h w t2 m e : Int) (x y : List Int) : runH gCp Tryz.f3 8 [(17, [5, 17, 19])] [17] hl [.d (Y0) (t1, [1, c, h, w], x, ()), .d (Y0) (t2, [m, e, 1, 1], y, ())] [] ah = bif decide (Int.ofNat x.length > 600) then some (AEnd.ret [B true], []) else  bif decide (Int.ofNat y.length > 600) then some (AEnd.ret [B true], []) else  bif decide (x.length ≤ 9223372036854775807 ∧ y.length ≤ 9223372036854775807) then  bif cbE t1 c h w x t2 m e y != 0 then  bif cbE t1 c h w x t2 m e y != 0 then some (AEnd.ret [B true], []) else  bif decide (x.length ≤ 9223372036854775807) then  bif mbgE t1 c (IntKind.i64.wrap (h * w)) x != 0 then  bif decide (y.length ≤ 9223372036854775807) then  bif mbgE t2 m e y != 0 then none else none else none else  bif decide (y.length ≤ 9223372036854775807) then  bif mbgE t2 m e y != 0 then none else  bif decide ((turnL c (IntKind.i64.wrap (h * w)) x).length ≤ 9223372036854775807 ∧ (turnL m e y).length ≤ 9223372036854775807) then  bif bgnE t1 (IntKind.i64.wrap (h * w)) c (turnL c (IntKind.i64.wrap (h * w)) x) t2 e m (turnL m e y) != 0 then none else  bif decide ((fMM (IntKind.i64.wrap (h * w)) c m (turnL c (IntKind.i64.wrap (h * w)) x) (turnL m e y)).length ≤ 9223372036854775807) then  bif mbgE t1 (IntKind.i64.wrap (h * w)) m (fMM (IntKind.i64.wrap (h * w)) c m (turnL c (IntKind.i64.wrap (h * w)) x) (turnL m e y)) != 0 then  bif mbgE t1 (IntKind.i64.wrap (h * w)) m (fMM (IntKind.i64.wrap (h * w)) c m (turnL c (IntKind.i64.wrap (h * w)) x) (turnL m e y)) != 0 then some (AEnd.ret [B false], []) else hl (cL (cL (cR (cL (cR (cR (cR (cR (cR (cR (cR (cR (cR (cR (cR (cR (cR C_cpr))))))))))))))))) _ { fr := mkFr 8 [(5, AV.op 0 [] 0), (17, AV.op 1 [] 0), (19, I 0)], hp := [(0, AObj.box ((I 0).pr (AV.nils.pr (AV.nils.pr (AV.d Ty.unit PUnit.unit))))), (1, AObj.box ((I 0).pr (AV.nils.pr (AV.nils.pr (AV.d Ty.unit PUnit.unit)))))], nx := 2 } (blkK 0 (seqH gCp cf_cpr [17] hl (cR (cR (cR (cR (cR (cR (cR (cR (cR (cR (cR (cR (cR (cR C_cpr)))))))))))))) (endC Tryz.prog 0 Tryz.f3.results.toList ah))) else  bif Int.ofNat (turnL (IntKind.i64.wrap (h * w)) m (fMM (IntKind.i64.wrap (h * w)) c m (turnL c (IntKind.i64.wrap (h * w)) x) (turnL m e y))).length != 0 then some (AEnd.ret [B false], []) else hl (cL (cL (cR (cL (cR (cR (cR (cR (cR (cR (cR (cR (cR (cR (cR (cR (cR C_cpr))))))))))))))))) _ { fr := mkFr 8 [(5, AV.op 0 [] 0), (17, AV.op 1 [] 0), (19, I 0)], hp := [(0, AObj.box ((I 0).pr (AV.nils.pr (AV.nils.pr (AV.d Ty.unit PUnit.unit))))), (1, AObj.box ((I t1).pr ((AV.os 2 0).pr ((AV.os 3 0).pr (AV.d Ty.unit PUnit.unit))))), (2, AObj.arr 3 (i64T) 0 false [m, IntKind.i64.wrap (h * w)]), (3, AObj.arr 2 (i64T) 0 false (turnL (IntKind.i64.wrap (h * w)) m (fMM (IntKind.i64.wrap (h * w)) c m (turnL c (IntKind.i64.wrap (h * w)) x) (turnL m e y))))], nx := 4 } (blkK 0 (seqH gCp cf_cpr [17] hl (cR (cR (cR (cR (cR (cR (cR (cR (cR (cR (cR (cR (cR (cR C_cpr)))))))))))))) (endC Tryz.prog 0 Tryz.f3.results.toList ah))) else none else none else none else none else  bif decide (x.length ≤ 9223372036854775807) then  bif mbgE t1 c (IntKind.i64.wrap (h * w)) x != 0 then  bif decide (y.length ≤ 9223372036854775807) then  bif mbgE t2 m e y != 0 then none else none else none else  bif decide (y.length ≤ 9223372036854775807) then  bif mbgE t2 m e y != 0 then none else  bif decide ((turnL c (IntKind.i64.wrap (h * w)) x).length ≤ 9223372036854775807 ∧ (turnL m e y).length ≤ 9223372036854775807) then  bif bgnE t1 (IntKind.i64.wrap (h * w)) c (turnL c (IntKind.i64.wrap (h * w)) x) t2 e m (turnL m e y) != 0 then none else  bif decide ((fMM (IntKind.i64.wrap (h * w)) c m (turnL c (IntKind.i64.wrap (h * w)) x) (turnL m e y)).length ≤ 9223372036854775807) then  bif mbgE t1 (IntKind.i64.wrap (h * w)) m (fMM (IntKind.i64.wrap (h * w)) c m (turnL c (IntKind.i64.wrap (h * w)) x) (turnL m e y)) != 0 then  bif mbgE t1 (IntKind.i64.wrap (h * w)) m (fMM (IntKind.i64.wrap (h * w)) c m (turnL c (IntKind.i64.wrap (h * w)) x) (turnL m e y)) != 0 then some (AEnd.ret [B false], []) else  bif 0 != Int.ofNat (cvO c h w m x y).length then some (AEnd.ret [B false], []) else hl (cL (cL (cR (cL (cR (cR (cR (cR (cR (cR (cR (cR (cR (cR (cR (cR (cR C_cpr))))))))))))))))) _ { fr := mkFr 8 [(5, AV.op 0 [] 0), (17, AV.op 3 [] 0), (19, I 0)], hp := [(0, AObj.box ((I t1).pr ((AV.os 1 0).pr ((AV.os 2 0).pr (AV.d Ty.unit PUnit.unit))))), (1, AObj.arr 3 (i64T) 0 false [1, m, h, w]), (2, AObj.arr 2 (i64T) 0 false (cvO c h w m x y)), (3, AObj.box ((I 0).pr (AV.nils.pr (AV.nils.pr (AV.d Ty.unit PUnit.unit)))))], nx := 4 } (blkK 0 (seqH gCp cf_cpr [17] hl (cR (cR (cR (cR (cR (cR (cR (cR (cR (cR (cR (cR (cR (cR C_cpr)))))))))))))) (endC Tryz.prog 0 Tryz.f3.results.toList ah))) else  bif Int.ofNat (turnL (IntKind.i64.wrap (h * w)) m (fMM (IntKind.i64.wrap (h * w)) c m (turnL c (IntKind.i64.wrap (h * w)) x) (turnL m e y))).length != Int.ofNat (cvO c h w m x y).length then some (AEnd.ret [B false], []) else hl (cL (cL (cR (cL (cR (cR (cR (cR (cR (cR (cR (cR (cR (cR (cR (cR (cR C_cpr))))))))))))))))) _ { fr := mkFr 8 [(5, AV.op 0 [] 0), (17, AV.op 3 [] 0), (19, I 0)], hp := [(0, AObj.box ((I t1).pr ((AV.os 1 0).pr ((AV.os 2 0).pr (AV.d Ty.unit PUnit.unit))))), (1, AObj.arr 3 (i64T) 0 false [1, m, h, w]), (2, AObj.arr 2 (i64T) 0 false (cvO c h w m x y)), (3, AObj.box ((I t1).pr ((AV.os 4 0).pr ((AV.os 5 0).pr (AV.d Ty.unit PUnit.unit))))), (4, AObj.arr 3 (i64T) 0 false [m, IntKind.i64.wrap (h * w)]), (5, AObj.arr 2 (i64T) 0 false (turnL (IntKind.i64.wrap (h * w)) m (fMM (IntKind.i64.wrap (h * w)) c m (turnL c (IntKind.i64.wrap (h * w)) x) (turnL m e y))))], nx := 6 } (blkK 0 (seqH gCp cf_cpr [17] hl (cR (cR (cR (cR (cR (cR (cR (cR (cR (cR (cR (cR (cR (cR C_cpr)))))))))))))) (endC Tryz.prog 0 Tryz.f3.results.toList ah))) else none else none else none else none else none := by kernel_rfl
theorem cpr_eq (t1 c h w t2 m e : Int) (x y : List Int) : runC gCp Tryz.f3 8 [(17, [5, 17, 19])] [.d (Y0) (t1, [1, c, h, w], x, ()), .d (Y0) (t2, [m, e, 1, 1], y, ())] [] ah = bif decide (Int.ofNat x.length > 600) then some (AEnd.ret [B true], []) else  bif decide (Int.ofNat y.length > 600) then some (AEnd.ret [B true], []) else  bif decide (x.length ≤ 9223372036854775807 ∧ y.length ≤ 9223372036854775807) then  bif cbE t1 c h w x t2 m e y != 0 then  bif cbE t1 c h w x t2 m e y != 0 then some (AEnd.ret [B true], []) else  bif decide (x.length ≤ 9223372036854775807) then  bif mbgE t1 c (IntKind.i64.wrap (h * w)) x != 0 then  bif decide (y.length ≤ 9223372036854775807) then  bif mbgE t2 m e y != 0 then none else none else none else  bif decide (y.length ≤ 9223372036854775807) then  bif mbgE t2 m e y != 0 then none else  bif decide ((turnL c (IntKind.i64.wrap (h * w)) x).length ≤ 9223372036854775807 ∧ (turnL m e y).length ≤ 9223372036854775807) then  bif bgnE t1 (IntKind.i64.wrap (h * w)) c (turnL c (IntKind.i64.wrap (h * w)) x) t2 e m (turnL m e y) != 0 then none else  bif decide ((fMM (IntKind.i64.wrap (h * w)) c m (turnL c (IntKind.i64.wrap (h * w)) x) (turnL m e y)).length ≤ 9223372036854775807) then  bif mbgE t1 (IntKind.i64.wrap (h * w)) m (fMM (IntKind.i64.wrap (h * w)) c m (turnL c (IntKind.i64.wrap (h * w)) x) (turnL m e y)) != 0 then  bif mbgE t1 (IntKind.i64.wrap (h * w)) m (fMM (IntKind.i64.wrap (h * w)) c m (turnL c (IntKind.i64.wrap (h * w)) x) (turnL m e y)) != 0 then some (AEnd.ret [B false], []) else (hlp gCp cf_cpr) (cL (cL (cR (cL (cR (cR (cR (cR (cR (cR (cR (cR (cR (cR (cR (cR (cR C_cpr))))))))))))))))) _ { fr := mkFr 8 [(5, AV.op 0 [] 0), (17, AV.op 1 [] 0), (19, I 0)], hp := [(0, AObj.box ((I 0).pr (AV.nils.pr (AV.nils.pr (AV.d Ty.unit PUnit.unit))))), (1, AObj.box ((I 0).pr (AV.nils.pr (AV.nils.pr (AV.d Ty.unit PUnit.unit)))))], nx := 2 } (blkK 0 (seqH gCp cf_cpr [17] (hlp gCp cf_cpr) (cR (cR (cR (cR (cR (cR (cR (cR (cR (cR (cR (cR (cR (cR C_cpr)))))))))))))) (endC Tryz.prog 0 Tryz.f3.results.toList ah))) else  bif Int.ofNat (turnL (IntKind.i64.wrap (h * w)) m (fMM (IntKind.i64.wrap (h * w)) c m (turnL c (IntKind.i64.wrap (h * w)) x) (turnL m e y))).length != 0 then some (AEnd.ret [B false], []) else (hlp gCp cf_cpr) (cL (cL (cR (cL (cR (cR (cR (cR (cR (cR (cR (cR (cR (cR (cR (cR (cR C_cpr))))))))))))))))) _ { fr := mkFr 8 [(5, AV.op 0 [] 0), (17, AV.op 1 [] 0), (19, I 0)], hp := [(0, AObj.box ((I 0).pr (AV.nils.pr (AV.nils.pr (AV.d Ty.unit PUnit.unit))))), (1, AObj.box ((I t1).pr ((AV.os 2 0).pr ((AV.os 3 0).pr (AV.d Ty.unit PUnit.unit))))), (2, AObj.arr 3 (i64T) 0 false [m, IntKind.i64.wrap (h * w)]), (3, AObj.arr 2 (i64T) 0 false (turnL (IntKind.i64.wrap (h * w)) m (fMM (IntKind.i64.wrap (h * w)) c m (turnL c (IntKind.i64.wrap (h * w)) x) (turnL m e y))))], nx := 4 } (blkK 0 (seqH gCp cf_cpr [17] (hlp gCp cf_cpr) (cR (cR (cR (cR (cR (cR (cR (cR (cR (cR (cR (cR (cR (cR C_cpr)))))))))))))) (endC Tryz.prog 0 Tryz.f3.results.toList ah))) else none else none else none else none else  bif decide (x.length ≤ 9223372036854775807) then  bif mbgE t1 c (IntKind.i64.wrap (h * w)) x != 0 then  bif decide (y.length ≤ 9223372036854775807) then  bif mbgE t2 m e y != 0 then none else none else none else  bif decide (y.length ≤ 9223372036854775807) then  bif mbgE t2 m e y != 0 then none else  bif decide ((turnL c (IntKind.i64.wrap (h * w)) x).length ≤ 9223372036854775807 ∧ (turnL m e y).length ≤ 9223372036854775807) then  bif bgnE t1 (IntKind.i64.wrap (h * w)) c (turnL c (IntKind.i64.wrap (h * w)) x) t2 e m (turnL m e y) != 0 then none else  bif decide ((fMM (IntKind.i64.wrap (h * w)) c m (turnL c (IntKind.i64.wrap (h * w)) x) (turnL m e y)).length ≤ 9223372036854775807) then  bif mbgE t1 (IntKind.i64.wrap (h * w)) m (fMM (IntKind.i64.wrap (h * w)) c m (turnL c (IntKind.i64.wrap (h * w)) x) (turnL m e y)) != 0 then  bif mbgE t1 (IntKind.i64.wrap (h * w)) m (fMM (IntKind.i64.wrap (h * w)) c m (turnL c (IntKind.i64.wrap (h * w)) x) (turnL m e y)) != 0 then some (AEnd.ret [B false], []) else  bif 0 != Int.ofNat (cvO c h w m x y).length then some (AEnd.ret [B false], []) else (hlp gCp cf_cpr) (cL (cL (cR (cL (cR (cR (cR (cR (cR (cR (cR (cR (cR (cR (cR (cR (cR C_cpr))))))))))))))))) _ { fr := mkFr 8 [(5, AV.op 0 [] 0), (17, AV.op 3 [] 0), (19, I 0)], hp := [(0, AObj.box ((I t1).pr ((AV.os 1 0).pr ((AV.os 2 0).pr (AV.d Ty.unit PUnit.unit))))), (1, AObj.arr 3 (i64T) 0 false [1, m, h, w]), (2, AObj.arr 2 (i64T) 0 false (cvO c h w m x y)), (3, AObj.box ((I 0).pr (AV.nils.pr (AV.nils.pr (AV.d Ty.unit PUnit.unit)))))], nx := 4 } (blkK 0 (seqH gCp cf_cpr [17] (hlp gCp cf_cpr) (cR (cR (cR (cR (cR (cR (cR (cR (cR (cR (cR (cR (cR (cR C_cpr)))))))))))))) (endC Tryz.prog 0 Tryz.f3.results.toList ah))) else  bif Int.ofNat (turnL (IntKind.i64.wrap (h * w)) m (fMM (IntKind.i64.wrap (h * w)) c m (turnL c (IntKind.i64.wrap (h * w)) x) (turnL m e y))).length != Int.ofNat (cvO c h w m x y).length then some (AEnd.ret [B false], []) else (hlp gCp cf_cpr) (cL (cL (cR (cL (cR (cR (cR (cR (cR (cR (cR (cR (cR (cR (cR (cR (cR C_cpr))))))))))))))))) _ { fr := mkFr 8 [(5, AV.op 0 [] 0), (17, AV.op 3 [] 0), (19, I 0)], hp := [(0, AObj.box ((I t1).pr ((AV.os 1 0).pr ((AV.os 2 0).pr (AV.d Ty.unit PUnit.unit))))), (1, AObj.arr 3 (i64T) 0 false [1, m, h, w]), (2, AObj.arr 2 (i64T) 0 false (cvO c h w m x y)), (3, AObj.box ((I t1).pr ((AV.os 4 0).pr ((AV.os 5 0).pr (AV.d Ty.unit PUnit.unit))))), (4, AObj.arr 3 (i64T) 0 false [m, IntKind.i64.wrap (h * w)]), (5, AObj.arr 2 (i64T) 0 false (turnL (IntKind.i64.wrap (h * w)) m (fMM (IntKind.i64.wrap (h * w)) c m (turnL c (IntKind.i64.wrap (h * w)) x) (turnL m e y))))], nx := 6 } (blkK 0 (seqH gCp cf_cpr [17] (hlp gCp cf_cpr) (cR (cR (cR (cR (cR (cR (cR (cR (cR (cR (cR (cR (cR (cR C_cpr)))))))))))))) (endC Tryz.prog 0 Tryz.f3.results.toList ah))) else none else none else none else none else none := runH_runC.trans (cpr_eqH (hlp gCp cf_cpr) t1 c h w t2 m e x y)
def noT : List AV → LHp → Tq := fun _ _ => .no
theorem noT_ok : FnE.OK e0.P e0.gam 6 (treeE noT) := ⟨fun _ _ _ => Tq.eq _ _, fun args hs ae hs' h => by
  have h' : (noT args hs).run ah = some (ae, hs') := h
  cases h'⟩
noncomputable def gCq : Env := (g214.add 6 (treeE noT)).add 5 (fnE liveF)
theorem gCq_good : gCq.Good := (g214_good.add noT_ok).add liveE_ok
theorem cpq_eqH (hl : Hl) (t1 t2 : Int) (xd x yd y : List Int) : runH gCq Tryz.f3 8 [(17, [5, 17, 19])] [17] hl [.d (Y0) (t1, xd, x, ()), .d (Y0) (t2, yd, y, ())] [] ah = bif decide (Int.ofNat x.length > 600) then some (AEnd.ret [B true], []) else  bif decide (Int.ofNat y.length > 600) then some (AEnd.ret [B true], []) else  bif Int.ofNat xd.length != 4 then some (AEnd.ret [B true], []) else  bif Int.ofNat yd.length != 4 then some (AEnd.ret [B true], []) else (idx xd 0).bind fun v4 => bif v4 != 1 then some (AEnd.ret [B true], []) else (idx yd 2).bind fun v6 => bif v6 != 1 then some (AEnd.ret [B true], []) else (idx yd 3).bind fun v8 => bif v8 != 1 then some (AEnd.ret [B true], []) else none := by kernel_rfl
theorem cpq_eq (t1 t2 : Int) (xd x yd y : List Int) : runC gCq Tryz.f3 8 [(17, [5, 17, 19])] [.d (Y0) (t1, xd, x, ()), .d (Y0) (t2, yd, y, ())] [] ah = bif decide (Int.ofNat x.length > 600) then some (AEnd.ret [B true], []) else  bif decide (Int.ofNat y.length > 600) then some (AEnd.ret [B true], []) else  bif Int.ofNat xd.length != 4 then some (AEnd.ret [B true], []) else  bif Int.ofNat yd.length != 4 then some (AEnd.ret [B true], []) else (idx xd 0).bind fun v4 => bif v4 != 1 then some (AEnd.ret [B true], []) else (idx yd 2).bind fun v6 => bif v6 != 1 then some (AEnd.ret [B true], []) else (idx yd 3).bind fun v8 => bif v8 != 1 then some (AEnd.ret [B true], []) else none := runH_runC.trans (cpq_eqH (hlp gCq cf_cpr) t1 t2 xd x yd y)
end Go.Proofs.XPT
namespace Go.Proofs.XPT
open Go.Vm Go
set_option maxRecDepth 100000
set_option maxHeartbeats 1000000
def stCp (t1 : Int) (ad a bd b : List Int) (i : Int) : LSt := { fr := mkFr 8 [(5, AV.op 0 [] 0), (17, AV.op 3 [] 0), (19, I i)], hp := [(0, AObj.box ((I t1).pr ((AV.os 1 0).pr ((AV.os 2 0).pr (AV.d Ty.unit PUnit.unit))))), (1, .arr 3 i64T 0 false ad), (2, .arr 2 i64T 0 false a), (3, AObj.box ((I t1).pr ((AV.os 4 0).pr ((AV.os 5 0).pr (AV.d Ty.unit PUnit.unit))))), (4, .arr 3 i64T 0 false bd), (5, .arr 2 i64T 0 false b)], nx := 6 }
theorem cpr_stH (hl : Hl) (t1 : Int) (ad a bd b : List Int) (i : Int) (n : Nat) {R : Type} (k : AEx → LSt → Option R) : lpH gCp cf_cpr [17] hl (cL (cL (cR (cL (cR (cR (cR (cR (cR (cR (cR (cR (cR (cR (cR (cR (cR C_cpr))))))))))))))))) (n + 1) (stCp t1 ad a bd b i) k = bif decide (i < Int.ofNat a.length) then (idx a i).bind fun v1 => (a[i.toNat]?).bind fun v2 => (idx b i).bind fun v3 => (b[i.toNat]?).bind fun v4 => bif v2 != v4 then k AEx.ret { fr := mkFr 8 [(4, B false), (5, AV.op 0 [] 0), (17, AV.op 3 [] 0), (19, I i), (160, I i), (161, AV.op 0 [2] 2), (162, AV.os 2 0), (163, I (Int.ofNat a.length)), (164, B true), (167, AV.op 0 [2] 2), (168, AV.os 2 0), (169, I i), (170, AV.oe 2 0 i.toNat), (171, I v2), (172, AV.op 3 [2] 2), (173, AV.os 5 0), (174, I i), (175, AV.oe 5 0 i.toNat), (176, I v4), (177, B true)], hp := [(0, AObj.box ((I t1).pr ((AV.os 1 0).pr ((AV.os 2 0).pr (AV.d Ty.unit PUnit.unit))))), (1, AObj.arr 3 (i64T) 0 false ad), (2, AObj.arr 2 (i64T) 0 false a), (3, AObj.box ((I t1).pr ((AV.os 4 0).pr ((AV.os 5 0).pr (AV.d Ty.unit PUnit.unit))))), (4, AObj.arr 3 (i64T) 0 false bd), (5, AObj.arr 2 (i64T) 0 false b)], nx := 6 } else lpH gCp cf_cpr [17] hl (cL (cL (cR (cL (cR (cR (cR (cR (cR (cR (cR (cR (cR (cR (cR (cR (cR C_cpr))))))))))))))))) n { fr := mkFr 8 [(5, AV.op 0 [] 0), (17, AV.op 3 [] 0), (19, I (IntKind.i64.wrap (i + 1)))], hp := [(0, AObj.box ((I t1).pr ((AV.os 1 0).pr ((AV.os 2 0).pr (AV.d Ty.unit PUnit.unit))))), (1, AObj.arr 3 (i64T) 0 false ad), (2, AObj.arr 2 (i64T) 0 false a), (3, AObj.box ((I t1).pr ((AV.os 4 0).pr ((AV.os 5 0).pr (AV.d Ty.unit PUnit.unit))))), (4, AObj.arr 3 (i64T) 0 false bd), (5, AObj.arr 2 (i64T) 0 false b)], nx := 6 } k else k (AEx.exit 0) { fr := mkFr 8 [(5, AV.op 0 [] 0), (17, AV.op 3 [] 0), (19, I i), (160, I i), (161, AV.op 0 [2] 2), (162, AV.os 2 0), (163, I (Int.ofNat a.length)), (164, B false)], hp := [(0, AObj.box ((I t1).pr ((AV.os 1 0).pr ((AV.os 2 0).pr (AV.d Ty.unit PUnit.unit))))), (1, AObj.arr 3 (i64T) 0 false ad), (2, AObj.arr 2 (i64T) 0 false a), (3, AObj.box ((I t1).pr ((AV.os 4 0).pr ((AV.os 5 0).pr (AV.d Ty.unit PUnit.unit))))), (4, AObj.arr 3 (i64T) 0 false bd), (5, AObj.arr 2 (i64T) 0 false b)], nx := 6 } := by kernel_rfl
theorem cpr_st (t1 : Int) (ad a bd b : List Int) (i : Int) (n : Nat) {R : Type} (k : AEx → LSt → Option R) : lp gCp cf_cpr (cL (cL (cR (cL (cR (cR (cR (cR (cR (cR (cR (cR (cR (cR (cR (cR (cR C_cpr))))))))))))))))) (n + 1) (stCp t1 ad a bd b i) k = bif decide (i < Int.ofNat a.length) then (idx a i).bind fun v1 => (a[i.toNat]?).bind fun v2 => (idx b i).bind fun v3 => (b[i.toNat]?).bind fun v4 => bif v2 != v4 then k AEx.ret { fr := mkFr 8 [(4, B false), (5, AV.op 0 [] 0), (17, AV.op 3 [] 0), (19, I i), (160, I i), (161, AV.op 0 [2] 2), (162, AV.os 2 0), (163, I (Int.ofNat a.length)), (164, B true), (167, AV.op 0 [2] 2), (168, AV.os 2 0), (169, I i), (170, AV.oe 2 0 i.toNat), (171, I v2), (172, AV.op 3 [2] 2), (173, AV.os 5 0), (174, I i), (175, AV.oe 5 0 i.toNat), (176, I v4), (177, B true)], hp := [(0, AObj.box ((I t1).pr ((AV.os 1 0).pr ((AV.os 2 0).pr (AV.d Ty.unit PUnit.unit))))), (1, AObj.arr 3 (i64T) 0 false ad), (2, AObj.arr 2 (i64T) 0 false a), (3, AObj.box ((I t1).pr ((AV.os 4 0).pr ((AV.os 5 0).pr (AV.d Ty.unit PUnit.unit))))), (4, AObj.arr 3 (i64T) 0 false bd), (5, AObj.arr 2 (i64T) 0 false b)], nx := 6 } else lp gCp cf_cpr (cL (cL (cR (cL (cR (cR (cR (cR (cR (cR (cR (cR (cR (cR (cR (cR (cR C_cpr))))))))))))))))) n { fr := mkFr 8 [(5, AV.op 0 [] 0), (17, AV.op 3 [] 0), (19, I (IntKind.i64.wrap (i + 1)))], hp := [(0, AObj.box ((I t1).pr ((AV.os 1 0).pr ((AV.os 2 0).pr (AV.d Ty.unit PUnit.unit))))), (1, AObj.arr 3 (i64T) 0 false ad), (2, AObj.arr 2 (i64T) 0 false a), (3, AObj.box ((I t1).pr ((AV.os 4 0).pr ((AV.os 5 0).pr (AV.d Ty.unit PUnit.unit))))), (4, AObj.arr 3 (i64T) 0 false bd), (5, AObj.arr 2 (i64T) 0 false b)], nx := 6 } k else k (AEx.exit 0) { fr := mkFr 8 [(5, AV.op 0 [] 0), (17, AV.op 3 [] 0), (19, I i), (160, I i), (161, AV.op 0 [2] 2), (162, AV.os 2 0), (163, I (Int.ofNat a.length)), (164, B false)], hp := [(0, AObj.box ((I t1).pr ((AV.os 1 0).pr ((AV.os 2 0).pr (AV.d Ty.unit PUnit.unit))))), (1, AObj.arr 3 (i64T) 0 false ad), (2, AObj.arr 2 (i64T) 0 false a), (3, AObj.box ((I t1).pr ((AV.os 4 0).pr ((AV.os 5 0).pr (AV.d Ty.unit PUnit.unit))))), (4, AObj.arr 3 (i64T) 0 false bd), (5, AObj.arr 2 (i64T) 0 false b)], nx := 6 } := by
  have h := cpr_stH (hlp gCp cf_cpr) t1 ad a bd b i n k
  simp only [lpH_lp] at h
  exact h
noncomputable def KCp : AEx → LSt → Option (AEnd × LHp) := (blkK 0 (seqH gCp cf_cpr [17] (hlp gCp cf_cpr) (cR (cR (cR (cR (cR (cR (cR (cR (cR (cR (cR (cR (cR (cR C_cpr)))))))))))))) (endC Tryz.prog 0 Tryz.f3.results.toList ah)))
def stCe (t1 : Int) (ad a bd b : List Int) (i : Int) : LSt := { fr := mkFr 8 [(5, AV.op 0 [] 0), (17, AV.op 3 [] 0), (19, I i), (160, I i), (161, AV.op 0 [2] 2), (162, AV.os 2 0), (163, I (Int.ofNat a.length)), (164, B false)], hp := (stCp t1 ad a bd b i).hp, nx := 6 }
theorem cpr_ex (t1 : Int) (ad a bd b : List Int) (i : Int) : KCp (.exit 0) (stCe t1 ad a bd b i) = some (AEnd.ret [B true], []) := by kernel_rfl
theorem cpr_join (t1 : Int) (ad a bd b : List Int) (i : Int) : hlp gCp cf_cpr (cL (cL (cR (cL (cR (cR (cR (cR (cR (cR (cR (cR (cR (cR (cR (cR (cR C_cpr))))))))))))))))) (AEnd × LHp) (stCp t1 ad a bd b i) KCp = lp gCp cf_cpr (cL (cL (cR (cL (cR (cR (cR (cR (cR (cR (cR (cR (cR (cR (cR (cR (cR C_cpr))))))))))))))))) fu (stCp t1 ad a bd b i) KCp := rfl
theorem cpr_lp {t1 : Int} {ad a bd : List Int} (ha : a.length ≤ 65536) : ∀ (r i nn : Nat), i + r = a.length → r < nn → lp gCp cf_cpr (cL (cL (cR (cL (cR (cR (cR (cR (cR (cR (cR (cR (cR (cR (cR (cR (cR C_cpr))))))))))))))))) nn (stCp t1 ad a bd a i) KCp = some (.ret [B true], []) := by
  intro r
  induction r with
  | zero =>
    intro i nn hi hn
    obtain ⟨nn, rfl⟩ : ∃ m', nn = m' + 1 := ⟨nn - 1, by omega⟩
    rw [cpr_st, decide_eq_false (show ¬ (((i : Nat) : Int) < Int.ofNat a.length) by simp only [Int.ofNat_eq_natCast]; omega), cond_false]
    exact cpr_ex t1 ad a bd a i
  | succ r ih =>
    intro i nn hi hn
    obtain ⟨nn, rfl⟩ : ∃ m', nn = m' + 1 := ⟨nn - 1, by omega⟩
    have key := ih (i + 1) nn (by omega) (by omega)
    have hlt : i < a.length := by omega
    have gI : idx a ((i : Nat) : Int) = some (a[i]) := by
      unfold idx
      rw [if_pos (by omega), Int.toNat_natCast, List.getElem?_eq_getElem hlt]
    have w5 : IntKind.i64.wrap (((i : Nat) : Int) + 1) = ((i + 1 : Nat) : Int) := by rw [wrap64 (by omega) (by omega)]; omega
    rw [cpr_st, decide_eq_true (show ((i : Nat) : Int) < Int.ofNat a.length by simp only [Int.ofNat_eq_natCast]; omega), cond_true, gI, Option.bind_some, Int.toNat_natCast, List.getElem?_eq_getElem hlt, Option.bind_some, Option.bind_some, Option.bind_some, bne_self_eq_false, cond_false, w5]
    exact key
end Go.Proofs.XPT
namespace Go.Proofs.XPT
open Go.Vm Go
set_option maxRecDepth 100000
set_option maxHeartbeats 1000000
theorem turnL_len (A B : Nat) (x : List Int) : (turnL A B x).length = B * A := by
  unfold turnL rd2
  rw [tab_length, Int.toNat_natCast, Int.toNat_natCast]
theorem turnL_get {A B : Nat} {x : List Int} {q : Nat} (h : q < B * A) : (turnL A B x).getD q 0 = x.getD (q / A + q % A * B) 0 := by
  unfold turnL rd2
  rw [Int.toNat_natCast, Int.toNat_natCast, List.getD_eq_getElem?_getD, tab_get h]
  show x.getD (0 + q / A * 1 + q % A * B) 0 = _
  rw [Nat.zero_add, Nat.mul_one]
theorem place_lt {A B q : Nat} (h : q < B * A) : q / A + q % A * B < A * B := by
  have hA : 0 < A := by
    rcases Nat.eq_zero_or_pos A with h0 | h0
    · subst h0; rw [Nat.mul_zero] at h; omega
    · exact h0
  have h1 : q / A < B := Nat.div_lt_of_lt_mul (by rw [Nat.mul_comm]; exact h)
  have h2 : q % A < A := Nat.mod_lt _ hA
  have h3 : (q % A + 1) * B ≤ A * B := Nat.mul_le_mul_right _ h2
  rw [Nat.add_mul, Nat.one_mul] at h3
  omega
theorem ten_turn {t a b : Int} {x : List Int} (h : tenE t [a, b] x = 0) : tenE t [b, a] (turnL a b x) = 0 ∧ (turnL a b x).length ≤ maxLen := by
  obtain ⟨A, B, rfl, rfl, hA, hB, hm, hl, n1, hc, n4⟩ := ten2_ok h
  have hc2 := count_turn hc
  obtain ⟨_, _, _, p4⟩ := count_ok hc2
  rw [prod2] at p4
  have hm2 : B * A ≤ 65536 := by rw [Nat.mul_comm]; exact hm
  have hmx : maxLen = 9223372036854775807 := by decide
  refine ⟨tenE_mk n1 hc2 (by rw [p4, turnL_len, Int.natCast_mul]) (fun v hv => ?_), by rw [turnL_len]; omega⟩
  obtain ⟨q, hq, rfl⟩ := List.mem_iff_getElem.1 hv
  rw [turnL_len] at hq
  have e : (turnL A B x)[q]'(by rw [turnL_len]; exact hq) = (turnL A B x).getD q 0 := by
    rw [List.getD_eq_getElem?_getD, List.getElem?_eq_getElem (by rw [turnL_len]; exact hq)]
    rfl
  have hp : q / A + q % A * B < x.length := by rw [hl]; exact place_lt hq
  rw [e, turnL_get hq, List.getD_eq_getElem?_getD, List.getElem?_eq_getElem hp]
  exact n4 _ (List.getElem_mem _)
theorem cell_gw {K C : Nat} {a b : List Int} {r c : Nat} (hK : 1 ≤ K) : gw (cellP 0 K C a b r c K) := by
  obtain ⟨k, rfl⟩ : ∃ k, K = k + 1 := ⟨K - 1, by omega⟩
  exact bin_gw (.inl rfl) _ _
theorem prodL_gw {M K C : Nat} {a b : List Int} (hK : 1 ≤ K) : ∀ v ∈ prodL M K C a b, gw v := by
  intro v hv
  unfold prodL mT tab at hv
  obtain ⟨p, _, rfl⟩ := List.mem_map.1 hv
  exact cell_gw hK
theorem xt_get {C P p n : Nat} {x : List Int} (hp : p < P) (hn : n < C) : (turnL C P x).getD (p * C + n) 0 = x.getD (n * P + p) 0 := by
  have hlt : p * C + n < P * C := by
    have := Nat.mul_le_mul_right C (show p + 1 ≤ P from hp)
    rw [Nat.add_mul, Nat.one_mul] at this
    omega
  have d1 : (p * C + n) / C = p := by rw [Nat.mul_comm, Nat.mul_add_div (Nat.lt_of_le_of_lt (Nat.zero_le _) hn), Nat.div_eq_of_lt hn, Nat.add_zero]
  have d2 : (p * C + n) % C = n := by rw [Nat.mul_comm, Nat.mul_add_mod, Nat.mod_eq_of_lt hn]
  rw [turnL_get hlt, d1, d2, Nat.add_comm]
theorem cell_cv {P C M p m : Nat} {x y : List Int} (hp : p < P) (hm : m < M) : ∀ n, n ≤ C → cellP 0 C M (turnL C P x) (turnL M C y) p m n = cvF P C x y p m n
  | 0, _ => rfl
  | n + 1, h => by
    unfold cellP cvF
    rw [cell_cv hp hm n (by omega), xt_get hp (show n < C by omega), xt_get (show n < C by omega) hm]
theorem prod_cv {P C M : Nat} {x y : List Int} : turnL P M (prodL P C M (turnL C P x) (turnL M C y)) = cvL M C P x y (M * P) := by
  apply List.ext_getElem?
  intro q
  by_cases hq : q < M * P
  · have hP : 0 < P := by
      rcases Nat.eq_zero_or_pos P with h0 | h0
      · subst h0; rw [Nat.mul_zero] at hq; omega
      · exact h0
    have h1 : q / P < M := Nat.div_lt_of_lt_mul (by rw [Nat.mul_comm]; exact hq)
    have h2 : q % P < P := Nat.mod_lt _ hP
    have hr : q / P + q % P * M < P * M := place_lt (A := P) (B := M) hq
    have e : ∀ L : List Int, q < L.length → L[q]? = some (L.getD q 0) := fun L hL => by
      rw [List.getD_eq_getElem?_getD, List.getElem?_eq_getElem hL]
      rfl
    have d1 : (q / P + q % P * M) / M = q % P := by
      rw [Nat.mul_comm (q % P) M, Nat.add_mul_div_left _ _ (Nat.lt_of_le_of_lt (Nat.zero_le _) h1), Nat.div_eq_of_lt h1, Nat.zero_add]
    have d2 : (q / P + q % P * M) % M = q / P := by
      rw [Nat.mul_comm (q % P) M, Nat.add_mul_mod_self_left, Nat.mod_eq_of_lt h1]
    rw [e _ (by rw [turnL_len]; exact hq), turnL_get hq]
    unfold prodL cvL
    rw [mT_getD hr, d1, d2, tab_get hq, if_pos hq, cell_cv h2 h1 C (Nat.le_refl _)]
  · refine (List.getElem?_eq_none ?_).trans (List.getElem?_eq_none ?_).symm
    · rw [turnL_len]; omega
    · unfold cvL; rw [tab_length]; omega
theorem count2 {A B : Nat} (ha : 1 ≤ A) (hb : 1 ≤ B) (h : A * B ≤ 65536) : countE [(A : Int), (B : Int)] = 0 ∧ countN [(A : Int), (B : Int)] = ((A * B : Nat) : Int) := by
  have := countE_mk (xs := [(A : Int), (B : Int)]) (fun v hv => by
    simp only [List.mem_cons, List.not_mem_nil, or_false] at hv
    rcases hv with rfl | rfl <;> omega) (by simp) (by rw [ep2, ← Int.natCast_mul]; exact Int.ofNat_le.2 h)
  rw [ep2, ← Int.natCast_mul] at this
  exact this
theorem ten2_mk {A B : Nat} {x : List Int} (ha : 1 ≤ A) (hb : 1 ≤ B) (h : A * B ≤ 65536) (hx : x.length = A * B) (hn : ∀ v ∈ x, numOk 1 v = true) : tenE 1 [(A : Int), (B : Int)] x = 0 :=
  tenE_mk (by decide) (count2 ha hb h).1 (by rw [(count2 ha hb h).2, hx]) hn
end Go.Proofs.XPT
namespace Go.Proofs.XPT
open Go.Vm Go
set_option maxRecDepth 100000
set_option maxHeartbeats 1000000
theorem len4 {xs : List Int} (h : xs.length = 4) : ∃ a b c d, xs = [a, b, c, d] := by
  match xs, h with
  | [a, b, c, d], _ => exact ⟨a, b, c, d, rfl⟩
theorem cpr_true {t1 c h w t2 m e : Int} {x y : List Int} (h1 : x.length ≤ maxLen) (h2 : y.length ≤ maxLen) : runC gCp Tryz.f3 8 [(17, [5, 17, 19])] [.d (Y0) (t1, [1, c, h, w], x, ()), .d (Y0) (t2, [m, e, 1, 1], y, ())] [] ah = some (.ret [B true], []) := by
  rw [cpr_eq, decide_eq_true (show x.length ≤ 9223372036854775807 ∧ y.length ≤ 9223372036854775807 from ⟨h1, h2⟩), decide_eq_true (show x.length ≤ 9223372036854775807 from h1), decide_eq_true (show y.length ≤ 9223372036854775807 from h2)]
  cases decide (Int.ofNat x.length > 600) with
  | true => rfl
  | false =>
    cases decide (Int.ofNat y.length > 600) with
    | true => rfl
    | false =>
      cases hb : cbE t1 c h w x t2 m e y != 0 with
      | true => rfl
      | false =>
        have hb0 : cbE t1 c h w x t2 m e y = 0 := by simpa using hb
        obtain ⟨C, H, W, M, rfl, rfl, rfl, rfl, rfl, k⟩ := cbE_nat hb0
        obtain ⟨rfl, rfl, _, _, _, _⟩ := cbE_ok hb0
        have kc := k.c1
        have kh := k.h1
        have kw := k.w1
        have km := k.m1
        have hPp : 1 ≤ H * W := Nat.mul_pos kh kw
        obtain ⟨P, hP⟩ : ∃ P, P = H * W := ⟨_, rfl⟩
        have kx := k.hx
        have ky := k.hy
        have bx := k.bx
        have by' := k.bY
        have bz := k.bz
        rw [← hP] at kx bx bz hPp
        have hPC : P ≤ C * P := Nat.le_mul_of_pos_left _ kc
        have w1 : IntKind.i64.wrap (((H : Nat) : Int) * ((W : Nat) : Int)) = ((P : Nat) : Int) := by rw [← Int.natCast_mul, ← hP]; exact wN (by omega)
        have f1 : tenE 1 [(C : Int), (P : Int)] x = 0 := ten2_mk kc hPp bx kx k.nx
        have f2 : tenE 1 [(M : Int), (C : Int)] y = 0 := ten2_mk km kc by' ky k.ny
        have g1 := ten_turn f1
        have g2 := ten_turn f2
        have hPM : P * M ≤ 65536 := by rw [Nat.mul_comm]; exact bz
        have hbg : bgnE 1 P C (turnL C P x) 1 C M (turnL M C y) = 0 := by
          unfold bgnE
          rw [g1.1, g2.1, (count2 hPp km hPM).1]
          simp
        have hlen : (fMM P C M (turnL C P x) (turnL M C y)).length = P * M := by
          unfold fMM prodL
          rw [mT_length, Int.toNat_natCast, Int.toNat_natCast]
        have f3 : tenE 1 [(P : Int), (M : Int)] (fMM P C M (turnL C P x) (turnL M C y)) = 0 := ten2_mk hPp km hPM hlen fun v hv => numOk_gw (prodL_gw (by rw [Int.toNat_natCast]; exact kc) v hv)
        have e1 : (mbgE 1 C P x != 0) = false := by unfold mbgE; rw [f1]; rfl
        have e2 : (mbgE 1 M C y != 0) = false := by unfold mbgE; rw [f2]; rfl
        have e3 : (mbgE 1 P M (fMM P C M (turnL C P x) (turnL M C y)) != 0) = false := by unfold mbgE; rw [f3]; rfl
        have eo : cvO C H W M x y = turnL P M (fMM P C M (turnL C P x) (turnL M C y)) := by
          unfold cvO fMM
          simp only [Int.toNat_natCast]
          rw [← hP]
          exact prod_cv.symm
        have hmx : maxLen = 9223372036854775807 := by decide
        have ol : (turnL P M (fMM P C M (turnL C P x) (turnL M C y))).length = M * P := turnL_len _ _ _
        rw [w1, e1, e2, hbg, e3, eo, decide_eq_true (show (turnL C P x).length ≤ 9223372036854775807 ∧ (turnL M C y).length ≤ 9223372036854775807 from ⟨g1.2, g2.2⟩), decide_eq_true (show (fMM P C M (turnL C P x) (turnL M C y)).length ≤ 9223372036854775807 by omega), bne_self_eq_false, bne_self_eq_false]
        repeat (first | rw [cond_false] | rw [cond_true] | rw [Bool.not_false])
        refine Eq.trans (cpr_join 1 _ _ _ _ 0) ?_
        exact cpr_lp (by omega) _ 0 fu (Nat.zero_add _) (by unfold fu; omega)
theorem cpr_call (t1 : Int) (xd x : List Int) (_ : xd.length ≤ maxLen) (h1 : x.length ≤ maxLen) (t2 : Int) (yd y : List Int) (_ : yd.length ≤ maxLen) (h2 : y.length ≤ maxLen) : FnH Tryz.prog (Env.gam e0) 3 [.d (Y0) (t1, xd, x, ()), .d (Y0) (t2, yd, y, ())] (hget []) (fun ae h1 => ae = .ret [B true] ∧ h1 = hget []) := by
  have out : ∀ (h : runC gCq Tryz.f3 8 [(17, [5, 17, 19])] [.d (Y0) (t1, xd, x, ()), .d (Y0) (t2, yd, y, ())] [] ah = some (.ret [B true], [])), FnH Tryz.prog (Env.gam e0) 3 [.d (Y0) (t1, xd, x, ()), .d (Y0) (t2, yd, y, ())] (hget []) (fun ae h1 => ae = .ret [B true] ∧ h1 = hget []) := fun h =>
    runC_call gCq_good hmix Tryz.func3 Tryz.call3 (by decide +kernel) rfl h
  by_cases hx : xd.length = 4
  · by_cases hy : yd.length = 4
    · obtain ⟨a, c, h, w, rfl⟩ : ∃ a b c d, xd = [a, b, c, d] := len4 hx
      obtain ⟨m, e, p, q, rfl⟩ : ∃ a b c d, yd = [a, b, c, d] := len4 hy
      by_cases hk : a = 1 ∧ p = 1 ∧ q = 1
      · obtain ⟨rfl, rfl, rfl⟩ := hk
        exact runC_call gCp_good hmix Tryz.func3 Tryz.call3 (by decide +kernel) rfl (cpr_true h1 h2)
      · refine out ?_
        have i1 : idx [a, c, h, w] 0 = some a := rfl
        have i2 : idx [m, e, p, q] 2 = some p := rfl
        have i3 : idx [m, e, p, q] 3 = some q := rfl
        have l1 : (Int.ofNat [a, c, h, w].length != 4) = false := rfl
        have l2 : (Int.ofNat [m, e, p, q].length != 4) = false := rfl
        rw [cpq_eq, l1, l2, i1, i2, i3]
        simp only [Option.bind_some]
        cases decide (Int.ofNat x.length > 600) with
        | true => rfl
        | false =>
          cases decide (Int.ofNat y.length > 600) with
          | true => rfl
          | false =>
            cases ha : a != 1 with
            | true => rfl
            | false =>
              cases hp : p != 1 with
              | true => rfl
              | false =>
                cases hq : q != 1 with
                | true => rfl
                | false => exact absurd ⟨by simpa using ha, by simpa using hp, by simpa using hq⟩ hk
    · refine out ?_
      have l1 : (Int.ofNat xd.length != 4) = false := by rw [hx]; rfl
      have l2 : (Int.ofNat yd.length != 4) = true := by rw [bne_iff_ne]; simp only [Int.ofNat_eq_natCast]; omega
      rw [cpq_eq, l1, l2]
      cases decide (Int.ofNat x.length > 600) <;> cases decide (Int.ofNat y.length > 600) <;> rfl
  · refine out ?_
    have l1 : (Int.ofNat xd.length != 4) = true := by rw [bne_iff_ne]; simp only [Int.ofNat_eq_natCast]; omega
    rw [cpq_eq, l1]
    cases decide (Int.ofNat x.length > 600) <;> cases decide (Int.ofNat y.length > 600) <;> rfl
end Go.Proofs.XPT
