/- A row of a product is the product of the row. -/
import Derived.Test.YtbijfcooljoogaaGreatDoorS38
import Derived.Test.YtbijfcooljoogaaGreatDoorS39
namespace Go.Proofs.XGT
open Go.Vm Go
set_option maxRecDepth 100000
set_option maxHeartbeats 1000000
theorem countE_mk {xs : List Int} (h1 : ∀ x ∈ xs, 1 ≤ x) (h2 : xs.length ≤ 6) (h3 : prodI xs ≤ 65536) : countE xs = 0 ∧ countN xs = prodI xs := by
  have e1 : decide (idxP (fun d => decide (d < 1)) xs ≥ 0) = false := by
    rw [idxP_ge, List.any_eq_false]
    intro x hx
    have := h1 x hx
    simp only [decide_eq_true_eq]
    omega
  have e2 : decide (Int.ofNat xs.length > 6) = false := decide_eq_false (by simp only [Int.ofNat_eq_natCast]; omega)
  have e3 : bigI xs = false := by
    unfold bigI
    exact decide_eq_false (by omega)
  unfold countE countN
  rw [e1, e2, e3]
  exact ⟨rfl, rfl⟩
theorem tenE_mk {t : Int} {xd dt : List Int} (h1 : numOk t 0 = true) (h2 : countE xd = 0) (h3 : (dt.length : Int) = countN xd) (h4 : ∀ x ∈ dt, numOk t x = true) : tenE t xd dt = 0 := by
  unfold tenE
  rw [h1, h2, show (Int.ofNat dt.length != countN xd) = false by rw [bne_eq_false_iff_eq]; exact h3, List.any_eq_false.2 (fun x hx => by rw [h4 x hx]; simp)]
  rfl
/-- what is known where a product is made -/
structure Ok2 (t1 t2 : Int) (M K N : Nat) (x y : List Int) : Prop where
  m1 : 1 ≤ M
  k1 : 1 ≤ K
  n1 : 1 ≤ N
  hmk : M * K ≤ 65536
  hkn : K * N ≤ 65536
  hmn : M * N ≤ 65536
  lx : x.length = M * K
  ly : y.length = K * N
  e1 : t1 = 1
  e2 : t2 = 1
  nx : ∀ v ∈ x, numOk 1 v = true
  tx : tenE t1 [(M : Int), K] x = 0
  ty : tenE t2 [(K : Int), N] y = 0
end Go.Proofs.XGT
namespace Go.Proofs.XGT
open Go.Vm Go
set_option maxRecDepth 100000
set_option maxHeartbeats 1000000
theorem tab_succ (n : Nat) (f : Nat → Int) : tab (n + 1) f = tab n f ++ [f n] := by
  unfold tab
  rw [List.range_succ, List.map_append]
  rfl
theorem getV {l : List Int} {p : Nat} (h : p < l.length) : idx l (p : Int) = some (l.getD p 0) ∧ l[p]? = some (l.getD p 0) := by
  have e : l[p]? = some (l.getD p 0) := by rw [List.getD_eq_getElem?_getD, List.getElem?_eq_getElem h]; rfl
  exact ⟨by unfold idx; rw [if_pos (by omega), Int.toNat_natCast, e], e⟩
theorem app_one {xs : List Int} {y : Int} (h : xs.length ≤ 65536) : app xs [y] = some (xs ++ [y]) := by
  unfold app
  rw [if_pos (by unfold lim; simp only [List.length_cons, List.length_nil]; omega)]
def f2V (l : List Int) (o v s u : Nat) (q : Nat) : Int := l.getD (o + q / v * s + q % v * u) 0
end Go.Proofs.XGT
namespace Go.Proofs.XGT
open Go.Vm Go
set_option maxRecDepth 100000
set_option maxHeartbeats 4000000
def hpTb (z : Bool) (t : Int) (d x : List Int) (ats : List (Y1).den) : LHp := [(0, .arr 25 (Y0) 0 false [(t, d, x, ())]), (1, .arr 37 (Y1) 0 z ats), (2, .arr 9 .str 0 false [[120]])]
end Go.Proofs.XGT
namespace Go.Proofs.XGT
open Go.Vm Go
set_option maxRecDepth 100000
set_option maxHeartbeats 4000000
theorem noE_ok (f : Nat) : FnE.OK e0.P e0.gam f (treeE fun _ _ => .no) := ⟨fun _ _ _ => Tq.eq _ _, fun _ _ _ _ h => by cases h⟩
end Go.Proofs.XGT
namespace Go.Proofs.XGT
open Go.Vm Go
set_option maxRecDepth 100000
set_option maxHeartbeats 4000000
noncomputable def C_reb : Code := codeOf Tryz.f79
noncomputable def cf_reb : Cfg := ⟨26, 5, 2, [(5, [0, 1, 2, 3, 4, 5, 6, 14, 15, 16, 17, 18, 19, 20, 21, 22, 23, 24])], true⟩
noncomputable def C_plb : Code := codeOf Tryz.f132
noncomputable def cf_plb : Cfg := ⟨63, 6, 9, [(2, [0, 1, 3, 4]), (4, [0, 1, 3, 4, 5])], true⟩
def vwB (off : Int) (a b : Nat) : AV := .pr (I off) (.pr (.os a 0) (.pr (.os b 0) (.d .unit ())))
def frVb (off : Int) (l : List Int) : Tr := mkFr 5 [(0, vwB off 1 0), (1, .d (.slice i64T) l), (2, .op 2 [] 0), (3, .op 3 [] 0), (4, .op 4 [] 0), (5, .op 5 [] 0), (6, .op 8 [] 0), (8, vwB off 1 0), (9, B true), (10, B false), (11, vwB off 1 0), (12, .fn (.func 132) [] [.op 9 [] 0])]
def hpVb (off : Int) (ds ss l : List Int) : LHp := [(0, .arr 3 i64T 0 false ss), (1, .arr 3 i64T 0 false ds), (9, .box (vwB off 1 0)), (8, .box .nils), (0, .arr 3 i64T 0 false ss), (1, .arr 3 i64T 0 false ds), (5, .box (I 0)), (4, .box .nils), (3, .box (.d (.slice i64T) l)), (2, .box (vwB off 1 0)), (0, .arr 3 i64T 0 false ss), (1, .arr 3 i64T 0 false ds)]
def rfLw (cf : Cfg) : Code → LoopC
  | .rangeFunc _ ps a b => ⟨cf.depth, ps, a, b, cf.n⟩
  | _ => ⟨0, #[], .skip, .skip, 0⟩
noncomputable def LC_reb : LoopC := rfLw cf_reb (cL (cR (cL (cR (cR (cR C_reb))))))
def frecVb (off : Int) (l : List Int) : List (Nat × AV) := [(0, vwB off 7 6), (1, .d (.slice i64T) l), (2, .op 5 [] 0), (3, .op 4 [] 0), (4, .op 3 [] 0), (5, .op 2 [] 0), (6, .op 1 [] 0)]
noncomputable def hpYb (off : Int) (ds ss l : List Int) (o : AV) : LHp := [(0, .box (vwB off 7 6)), (1, .box o), (2, .box (I 0)), (3, .box .nils), (4, .box (.d (.slice i64T) l)), (5, .box (vwB off 7 6)), (6, .arr 3 i64T 0 false ss), (7, .arr 3 i64T 0 false ds), (8, .rc (.loop LC_reb (frecVb off l) .ready))]
noncomputable def frecVbT (off : Int) (l : List Int) : List (Nat × AV) := slotsF ⟨frVb off l, [], 0⟩ (loopLive cf_reb LC_reb.assign)
noncomputable def hpVb2 (off : Int) (ds ss l : List Int) : LHp := (12, .rc (.loop LC_reb (frecVbT off l) .ready)) :: hpVb off ds ss l
noncomputable def hpYbW (off : Int) (ds ss l out : List Int) : LHp := [(0, .box (vwB off 7 6)), (7, .arr 3 i64T 0 false ds), (6, .arr 3 i64T 0 false ss), (1, .box (.os 9 0)), (9, .arr 2 i64T 0 false out), (2, .box (I 0)), (3, .box .nils), (4, .box (.d (.slice i64T) l)), (5, .box (vwB off 7 6)), (8, .rc (.loop LC_reb (frecVb off l) .ready))]
noncomputable def stVb (at_ : Nat) (off : Int) (ds ss l A : List Int) (p : Int) (nx : Nat) (o : AV) (oh : LHp) : LSt := ⟨mkFr 6 [(0, .ref 8), (1, .op 0 [] 0), (3, .os at_ 0), (4, I p)], [(0, .box (vwB off 7 6)), (7, .arr 3 i64T 0 false ds), (6, .arr 3 i64T 0 false ss), (1, .box o)] ++ oh ++ [(2, .box (I 0)), (3, .box .nils), (4, .box (.d (.slice i64T) l)), (5, .box (vwB off 7 6)), (8, .rc (.loop LC_reb (frecVb off l) .ready)), (at_, .arr 3 i64T 0 false A)], nx⟩
noncomputable def stVb0 (off : Int) (ds ss l A : List Int) (p : Int) : LSt := stVb 9 off ds ss l A p 19 .nils []
noncomputable def stVb1 (off : Int) (ds ss l A : List Int) (p : Int) (out : List Int) : LSt := stVb 10 off ds ss l A p 20 (.os 9 0) [(9, .arr 2 i64T 0 false out)]
noncomputable def WKb : AEx → LSt → Option (AEnd × LHp) := (blkK 0 (endC Tryz.prog 9 Tryz.f132.results.toList ah))
end Go.Proofs.XGT
namespace Go.Proofs.XGT
open Go.Vm Go
set_option maxRecDepth 100000
set_option maxHeartbeats 4000000
theorem plb_eqGH (hl : Hl) (off : Int) (ds ss l : List Int) : runH g163 Tryz.f132 6 [(2, [0, 1, 3, 4]), (4, [0, 1, 3, 4, 5])] [2, 4] hl [.ref 8, .op 0 [] 0] (hpYb off ds ss l .nils) ah =
  (if 0 ≤ Int.ofNat ds.length ∧ Int.ofNat ds.length ≤ 4294967296 then some (List.replicate (Int.ofNat ds.length).toNat 0) else none).bind fun v0 =>
    hl (cL (cL (cR (cR C_plb)))) _ { fr := mkFr 6 [(0, AV.ref 8), (1, AV.op 0 [] 0), (3, AV.os 9 0), (4, I off)], hp := [(0, AObj.box ((I off).pr ((AV.os 7 0).pr ((AV.os 6 0).pr (AV.d Ty.unit PUnit.unit))))), (7, AObj.arr 3 (i64T) 0 false ds), (6, AObj.arr 3 (i64T) 0 false ss), (1, AObj.box AV.nils), (2, AObj.box (I 0)), (3, AObj.box AV.nils), (4, AObj.box (AV.d (i64T).slice l)), (5, AObj.box ((I off).pr ((AV.os 7 0).pr ((AV.os 6 0).pr (AV.d Ty.unit PUnit.unit))))), (8, AObj.rc (ARec.loop LC_reb [(0, (I off).pr ((AV.os 7 0).pr ((AV.os 6 0).pr (AV.d Ty.unit PUnit.unit)))), (1, AV.d (i64T).slice l), (2, AV.op 5 [] 0), (3, AV.op 4 [] 0), (4, AV.op 3 [] 0), (5, AV.op 2 [] 0), (6, AV.op 1 [] 0)] LSta.ready)), (9, AObj.arr 3 (i64T) 0 false v0)], nx := 19 } (blkK 0 (endC Tryz.prog 9 Tryz.f132.results.toList ah)) := by kernel_rfl
theorem plb_eqG (off : Int) (ds ss l : List Int) : runC g163 Tryz.f132 6 [(2, [0, 1, 3, 4]), (4, [0, 1, 3, 4, 5])] [.ref 8, .op 0 [] 0] (hpYb off ds ss l .nils) ah =
  (if 0 ≤ Int.ofNat ds.length ∧ Int.ofNat ds.length ≤ 4294967296 then some (List.replicate (Int.ofNat ds.length).toNat 0) else none).bind fun v0 =>
    (hlp g163 cf_plb) (cL (cL (cR (cR C_plb)))) _ { fr := mkFr 6 [(0, AV.ref 8), (1, AV.op 0 [] 0), (3, AV.os 9 0), (4, I off)], hp := [(0, AObj.box ((I off).pr ((AV.os 7 0).pr ((AV.os 6 0).pr (AV.d Ty.unit PUnit.unit))))), (7, AObj.arr 3 (i64T) 0 false ds), (6, AObj.arr 3 (i64T) 0 false ss), (1, AObj.box AV.nils), (2, AObj.box (I 0)), (3, AObj.box AV.nils), (4, AObj.box (AV.d (i64T).slice l)), (5, AObj.box ((I off).pr ((AV.os 7 0).pr ((AV.os 6 0).pr (AV.d Ty.unit PUnit.unit))))), (8, AObj.rc (ARec.loop LC_reb [(0, (I off).pr ((AV.os 7 0).pr ((AV.os 6 0).pr (AV.d Ty.unit PUnit.unit)))), (1, AV.d (i64T).slice l), (2, AV.op 5 [] 0), (3, AV.op 4 [] 0), (4, AV.op 3 [] 0), (5, AV.op 2 [] 0), (6, AV.op 1 [] 0)] LSta.ready)), (9, AObj.arr 3 (i64T) 0 false v0)], nx := 19 } (blkK 0 (endC Tryz.prog 9 Tryz.f132.results.toList ah)) := runH_runC.trans (plb_eqGH (hlp g163 cf_plb) off ds ss l)
theorem bG_st0H (hl : Hl) (off : Int) (ds ss l A : List Int) (p : Int) (n : Nat) {R : Type} (k : AEx → LSt → Option R) : lpH g163 cf_plb [2, 4] hl (cL (cL (cR (cR C_plb)))) (n + 1) (stVb0 off ds ss l A p) k =
  bif decide (p ≥ Int.ofNat l.length) then k AEx.ret { fr := mkFr 6 [(0, AV.ref 8), (1, AV.op 0 [] 0), (3, AV.os 9 0), (4, I p), (12, AV.ref 8), (13, I p), (14, B false), (15, B true)], hp := [(1, AObj.box AV.nils), (2, AObj.box (I 1)), (3, AObj.box AV.nils), (4, AObj.box (AV.d (i64T).slice l)), (5, AObj.box ((I off).pr ((AV.os 7 0).pr ((AV.os 6 0).pr (AV.d Ty.unit PUnit.unit))))), (6, AObj.arr 3 (i64T) 0 false ss), (7, AObj.arr 3 (i64T) 0 false ds), (8, AObj.rc (ARec.loop LC_reb [(0, (I off).pr ((AV.os 7 0).pr ((AV.os 6 0).pr (AV.d Ty.unit PUnit.unit)))), (1, AV.d (i64T).slice l), (2, AV.op 5 [] 0), (3, AV.op 4 [] 0), (4, AV.op 3 [] 0), (5, AV.op 2 [] 0), (6, AV.op 1 [] 0)] (LSta.done Jmp.ret))), (0, AObj.box ((I off).pr ((AV.os 7 0).pr ((AV.os 6 0).pr (AV.d Ty.unit PUnit.unit))))), (7, AObj.arr 3 (i64T) 0 false ds), (6, AObj.arr 3 (i64T) 0 false ss), (1, AObj.box AV.nils), (2, AObj.box (I 0)), (3, AObj.box AV.nils), (4, AObj.box (AV.d (i64T).slice l)), (5, AObj.box ((I off).pr ((AV.os 7 0).pr ((AV.os 6 0).pr (AV.d Ty.unit PUnit.unit))))), (8, AObj.rc (ARec.loop LC_reb [(0, (I off).pr ((AV.os 7 0).pr ((AV.os 6 0).pr (AV.d Ty.unit PUnit.unit)))), (1, AV.d (i64T).slice l), (2, AV.op 5 [] 0), (3, AV.op 4 [] 0), (4, AV.op 3 [] 0), (5, AV.op 2 [] 0), (6, AV.op 1 [] 0)] LSta.ready)), (9, AObj.arr 3 (i64T) 0 false A)], nx := 27 }
  else (idx l p).bind fun v1 =>
      hl (cL (cL (cL (cR (cR (cL (cL (cL (cR (cR C_plb)))))))))) _ { fr := mkFr 6 [(0, AV.ref 8), (1, AV.op 0 [] 0), (3, AV.os 10 0), (4, I p), (5, I (IntKind.i64.wrap (Int.ofNat A.length - 1)))], hp := [(0, AObj.box ((I off).pr ((AV.os 7 0).pr ((AV.os 6 0).pr (AV.d Ty.unit PUnit.unit))))), (7, AObj.arr 3 (i64T) 0 false ds), (6, AObj.arr 3 (i64T) 0 false ss), (1, AObj.box (AV.os 9 0)), (9, AObj.arr 2 (i64T) 0 false [v1]), (2, AObj.box (I 0)), (3, AObj.box AV.nils), (4, AObj.box (AV.d (i64T).slice l)), (5, AObj.box ((I off).pr ((AV.os 7 0).pr ((AV.os 6 0).pr (AV.d Ty.unit PUnit.unit))))), (8, AObj.rc (ARec.loop LC_reb [(0, (I off).pr ((AV.os 7 0).pr ((AV.os 6 0).pr (AV.d Ty.unit PUnit.unit)))), (1, AV.d (i64T).slice l), (2, AV.op 5 [] 0), (3, AV.op 4 [] 0), (4, AV.op 3 [] 0), (5, AV.op 2 [] 0), (6, AV.op 1 [] 0)] LSta.ready)), (10, AObj.arr 3 (i64T) 0 false A)], nx := 20 } (blkK 2 (seqH g163 cf_plb [2, 4] hl (cR (cR (cR (cL (cL (cL (cR (cR C_plb)))))))) (blkK 1 (nxtH g163 cf_plb [2, 4] hl (cL (cL (cR (cR C_plb)))) n k)))) := by kernel_rfl
theorem bG_st0 (off : Int) (ds ss l A : List Int) (p : Int) (n : Nat) {R : Type} (k : AEx → LSt → Option R) : lp g163 cf_plb (cL (cL (cR (cR C_plb)))) (n + 1) (stVb0 off ds ss l A p) k =
  bif decide (p ≥ Int.ofNat l.length) then k AEx.ret { fr := mkFr 6 [(0, AV.ref 8), (1, AV.op 0 [] 0), (3, AV.os 9 0), (4, I p), (12, AV.ref 8), (13, I p), (14, B false), (15, B true)], hp := [(1, AObj.box AV.nils), (2, AObj.box (I 1)), (3, AObj.box AV.nils), (4, AObj.box (AV.d (i64T).slice l)), (5, AObj.box ((I off).pr ((AV.os 7 0).pr ((AV.os 6 0).pr (AV.d Ty.unit PUnit.unit))))), (6, AObj.arr 3 (i64T) 0 false ss), (7, AObj.arr 3 (i64T) 0 false ds), (8, AObj.rc (ARec.loop LC_reb [(0, (I off).pr ((AV.os 7 0).pr ((AV.os 6 0).pr (AV.d Ty.unit PUnit.unit)))), (1, AV.d (i64T).slice l), (2, AV.op 5 [] 0), (3, AV.op 4 [] 0), (4, AV.op 3 [] 0), (5, AV.op 2 [] 0), (6, AV.op 1 [] 0)] (LSta.done Jmp.ret))), (0, AObj.box ((I off).pr ((AV.os 7 0).pr ((AV.os 6 0).pr (AV.d Ty.unit PUnit.unit))))), (7, AObj.arr 3 (i64T) 0 false ds), (6, AObj.arr 3 (i64T) 0 false ss), (1, AObj.box AV.nils), (2, AObj.box (I 0)), (3, AObj.box AV.nils), (4, AObj.box (AV.d (i64T).slice l)), (5, AObj.box ((I off).pr ((AV.os 7 0).pr ((AV.os 6 0).pr (AV.d Ty.unit PUnit.unit))))), (8, AObj.rc (ARec.loop LC_reb [(0, (I off).pr ((AV.os 7 0).pr ((AV.os 6 0).pr (AV.d Ty.unit PUnit.unit)))), (1, AV.d (i64T).slice l), (2, AV.op 5 [] 0), (3, AV.op 4 [] 0), (4, AV.op 3 [] 0), (5, AV.op 2 [] 0), (6, AV.op 1 [] 0)] LSta.ready)), (9, AObj.arr 3 (i64T) 0 false A)], nx := 27 }
  else (idx l p).bind fun v1 =>
      (hlp g163 cf_plb) (cL (cL (cL (cR (cR (cL (cL (cL (cR (cR C_plb)))))))))) _ { fr := mkFr 6 [(0, AV.ref 8), (1, AV.op 0 [] 0), (3, AV.os 10 0), (4, I p), (5, I (IntKind.i64.wrap (Int.ofNat A.length - 1)))], hp := [(0, AObj.box ((I off).pr ((AV.os 7 0).pr ((AV.os 6 0).pr (AV.d Ty.unit PUnit.unit))))), (7, AObj.arr 3 (i64T) 0 false ds), (6, AObj.arr 3 (i64T) 0 false ss), (1, AObj.box (AV.os 9 0)), (9, AObj.arr 2 (i64T) 0 false [v1]), (2, AObj.box (I 0)), (3, AObj.box AV.nils), (4, AObj.box (AV.d (i64T).slice l)), (5, AObj.box ((I off).pr ((AV.os 7 0).pr ((AV.os 6 0).pr (AV.d Ty.unit PUnit.unit))))), (8, AObj.rc (ARec.loop LC_reb [(0, (I off).pr ((AV.os 7 0).pr ((AV.os 6 0).pr (AV.d Ty.unit PUnit.unit)))), (1, AV.d (i64T).slice l), (2, AV.op 5 [] 0), (3, AV.op 4 [] 0), (4, AV.op 3 [] 0), (5, AV.op 2 [] 0), (6, AV.op 1 [] 0)] LSta.ready)), (10, AObj.arr 3 (i64T) 0 false A)], nx := 20 } (blkK 2 (seqH g163 cf_plb [2, 4] (hlp g163 cf_plb) (cR (cR (cR (cL (cL (cL (cR (cR C_plb)))))))) (blkK 1 (nxtH g163 cf_plb [2, 4] (hlp g163 cf_plb) (cL (cL (cR (cR C_plb)))) n k)))) := by
  have h := bG_st0H (hlp g163 cf_plb) off ds ss l A p n k
  simp only [lpH_lp] at h
  exact h
theorem bG_st1H (hl : Hl) (off : Int) (ds ss l A : List Int) (p o : Int) (out : List Int) (n : Nat) {R : Type} (k : AEx → LSt → Option R) : lpH g163 cf_plb [2, 4] hl (cL (cL (cR (cR C_plb)))) (n + 1) (stVb1 off ds ss l A p (o :: out)) k =
  bif decide (p ≥ Int.ofNat l.length) then k AEx.ret { fr := mkFr 6 [(0, AV.ref 8), (1, AV.op 0 [] 0), (3, AV.os 10 0), (4, I p), (12, AV.ref 8), (13, I p), (14, B false), (15, B true)], hp := [(9, AObj.arr 2 (i64T) 0 false (o :: out)), (1, AObj.box (AV.os 9 0)), (2, AObj.box (I 1)), (3, AObj.box AV.nils), (4, AObj.box (AV.d (i64T).slice l)), (5, AObj.box ((I off).pr ((AV.os 7 0).pr ((AV.os 6 0).pr (AV.d Ty.unit PUnit.unit))))), (6, AObj.arr 3 (i64T) 0 false ss), (7, AObj.arr 3 (i64T) 0 false ds), (8, AObj.rc (ARec.loop LC_reb [(0, (I off).pr ((AV.os 7 0).pr ((AV.os 6 0).pr (AV.d Ty.unit PUnit.unit)))), (1, AV.d (i64T).slice l), (2, AV.op 5 [] 0), (3, AV.op 4 [] 0), (4, AV.op 3 [] 0), (5, AV.op 2 [] 0), (6, AV.op 1 [] 0)] (LSta.done Jmp.ret))), (0, AObj.box ((I off).pr ((AV.os 7 0).pr ((AV.os 6 0).pr (AV.d Ty.unit PUnit.unit))))), (7, AObj.arr 3 (i64T) 0 false ds), (6, AObj.arr 3 (i64T) 0 false ss), (1, AObj.box (AV.os 9 0)), (9, AObj.arr 2 (i64T) 0 false (o :: out)), (2, AObj.box (I 0)), (3, AObj.box AV.nils), (4, AObj.box (AV.d (i64T).slice l)), (5, AObj.box ((I off).pr ((AV.os 7 0).pr ((AV.os 6 0).pr (AV.d Ty.unit PUnit.unit))))), (8, AObj.rc (ARec.loop LC_reb [(0, (I off).pr ((AV.os 7 0).pr ((AV.os 6 0).pr (AV.d Ty.unit PUnit.unit)))), (1, AV.d (i64T).slice l), (2, AV.op 5 [] 0), (3, AV.op 4 [] 0), (4, AV.op 3 [] 0), (5, AV.op 2 [] 0), (6, AV.op 1 [] 0)] LSta.ready)), (10, AObj.arr 3 (i64T) 0 false A)], nx := 29 }
  else (idx l p).bind fun v1 =>
      (app (o :: out) [v1]).bind fun v2 =>
        hl (cL (cL (cL (cR (cR (cL (cL (cL (cR (cR C_plb)))))))))) _ { fr := mkFr 6 [(0, AV.ref 8), (1, AV.op 0 [] 0), (3, AV.os 10 0), (4, I p), (5, I (IntKind.i64.wrap (Int.ofNat A.length - 1)))], hp := [(0, AObj.box ((I off).pr ((AV.os 7 0).pr ((AV.os 6 0).pr (AV.d Ty.unit PUnit.unit))))), (7, AObj.arr 3 (i64T) 0 false ds), (6, AObj.arr 3 (i64T) 0 false ss), (1, AObj.box (AV.os 9 0)), (9, AObj.arr 2 (i64T) 0 false v2), (2, AObj.box (I 0)), (3, AObj.box AV.nils), (4, AObj.box (AV.d (i64T).slice l)), (5, AObj.box ((I off).pr ((AV.os 7 0).pr ((AV.os 6 0).pr (AV.d Ty.unit PUnit.unit))))), (8, AObj.rc (ARec.loop LC_reb [(0, (I off).pr ((AV.os 7 0).pr ((AV.os 6 0).pr (AV.d Ty.unit PUnit.unit)))), (1, AV.d (i64T).slice l), (2, AV.op 5 [] 0), (3, AV.op 4 [] 0), (4, AV.op 3 [] 0), (5, AV.op 2 [] 0), (6, AV.op 1 [] 0)] LSta.ready)), (10, AObj.arr 3 (i64T) 0 false A)], nx := 20 } (blkK 2 (seqH g163 cf_plb [2, 4] hl (cR (cR (cR (cL (cL (cL (cR (cR C_plb)))))))) (blkK 1 (nxtH g163 cf_plb [2, 4] hl (cL (cL (cR (cR C_plb)))) n k)))) := by kernel_rfl
theorem bG_st1 (off : Int) (ds ss l A : List Int) (p o : Int) (out : List Int) (n : Nat) {R : Type} (k : AEx → LSt → Option R) : lp g163 cf_plb (cL (cL (cR (cR C_plb)))) (n + 1) (stVb1 off ds ss l A p (o :: out)) k =
  bif decide (p ≥ Int.ofNat l.length) then k AEx.ret { fr := mkFr 6 [(0, AV.ref 8), (1, AV.op 0 [] 0), (3, AV.os 10 0), (4, I p), (12, AV.ref 8), (13, I p), (14, B false), (15, B true)], hp := [(9, AObj.arr 2 (i64T) 0 false (o :: out)), (1, AObj.box (AV.os 9 0)), (2, AObj.box (I 1)), (3, AObj.box AV.nils), (4, AObj.box (AV.d (i64T).slice l)), (5, AObj.box ((I off).pr ((AV.os 7 0).pr ((AV.os 6 0).pr (AV.d Ty.unit PUnit.unit))))), (6, AObj.arr 3 (i64T) 0 false ss), (7, AObj.arr 3 (i64T) 0 false ds), (8, AObj.rc (ARec.loop LC_reb [(0, (I off).pr ((AV.os 7 0).pr ((AV.os 6 0).pr (AV.d Ty.unit PUnit.unit)))), (1, AV.d (i64T).slice l), (2, AV.op 5 [] 0), (3, AV.op 4 [] 0), (4, AV.op 3 [] 0), (5, AV.op 2 [] 0), (6, AV.op 1 [] 0)] (LSta.done Jmp.ret))), (0, AObj.box ((I off).pr ((AV.os 7 0).pr ((AV.os 6 0).pr (AV.d Ty.unit PUnit.unit))))), (7, AObj.arr 3 (i64T) 0 false ds), (6, AObj.arr 3 (i64T) 0 false ss), (1, AObj.box (AV.os 9 0)), (9, AObj.arr 2 (i64T) 0 false (o :: out)), (2, AObj.box (I 0)), (3, AObj.box AV.nils), (4, AObj.box (AV.d (i64T).slice l)), (5, AObj.box ((I off).pr ((AV.os 7 0).pr ((AV.os 6 0).pr (AV.d Ty.unit PUnit.unit))))), (8, AObj.rc (ARec.loop LC_reb [(0, (I off).pr ((AV.os 7 0).pr ((AV.os 6 0).pr (AV.d Ty.unit PUnit.unit)))), (1, AV.d (i64T).slice l), (2, AV.op 5 [] 0), (3, AV.op 4 [] 0), (4, AV.op 3 [] 0), (5, AV.op 2 [] 0), (6, AV.op 1 [] 0)] LSta.ready)), (10, AObj.arr 3 (i64T) 0 false A)], nx := 29 }
  else (idx l p).bind fun v1 =>
      (app (o :: out) [v1]).bind fun v2 =>
        (hlp g163 cf_plb) (cL (cL (cL (cR (cR (cL (cL (cL (cR (cR C_plb)))))))))) _ { fr := mkFr 6 [(0, AV.ref 8), (1, AV.op 0 [] 0), (3, AV.os 10 0), (4, I p), (5, I (IntKind.i64.wrap (Int.ofNat A.length - 1)))], hp := [(0, AObj.box ((I off).pr ((AV.os 7 0).pr ((AV.os 6 0).pr (AV.d Ty.unit PUnit.unit))))), (7, AObj.arr 3 (i64T) 0 false ds), (6, AObj.arr 3 (i64T) 0 false ss), (1, AObj.box (AV.os 9 0)), (9, AObj.arr 2 (i64T) 0 false v2), (2, AObj.box (I 0)), (3, AObj.box AV.nils), (4, AObj.box (AV.d (i64T).slice l)), (5, AObj.box ((I off).pr ((AV.os 7 0).pr ((AV.os 6 0).pr (AV.d Ty.unit PUnit.unit))))), (8, AObj.rc (ARec.loop LC_reb [(0, (I off).pr ((AV.os 7 0).pr ((AV.os 6 0).pr (AV.d Ty.unit PUnit.unit)))), (1, AV.d (i64T).slice l), (2, AV.op 5 [] 0), (3, AV.op 4 [] 0), (4, AV.op 3 [] 0), (5, AV.op 2 [] 0), (6, AV.op 1 [] 0)] LSta.ready)), (10, AObj.arr 3 (i64T) 0 false A)], nx := 20 } (blkK 2 (seqH g163 cf_plb [2, 4] (hlp g163 cf_plb) (cR (cR (cR (cL (cL (cL (cR (cR C_plb)))))))) (blkK 1 (nxtH g163 cf_plb [2, 4] (hlp g163 cf_plb) (cL (cL (cR (cR C_plb)))) n k)))) := by
  have h := bG_st1H (hlp g163 cf_plb) off ds ss l A p o out n k
  simp only [lpH_lp] at h
  exact h
noncomputable def stVi (off : Int) (ds ss l A : List Int) (p : Int) (out : List Int) (i : Int) : LSt := ⟨mkFr 6 [(0, .ref 8), (1, .op 0 [] 0), (3, .os 10 0), (4, I p), (5, I i)], (stVb1 off ds ss l A p out).hp, 20⟩
theorem bI_stH (hl : Hl) (off : Int) (ds ss l A : List Int) (p : Int) (out : List Int) (i : Int) (n : Nat) {R : Type} (k : AEx → LSt → Option R) : lpH g163 cf_plb [2, 4] hl (cL (cL (cL (cR (cR (cL (cL (cL (cR (cR C_plb)))))))))) (n + 1) (stVi off ds ss l A p out i) k =
  bif decide (i ≥ 0) then (idx A i).bind fun v1 =>
      (A[i.toNat]?).bind fun v2 =>
        (idx A i).bind fun v3 =>
          (setN A i.toNat (IntKind.i64.wrap (v2 + 1))).bind fun v4 =>
            (idx ss i).bind fun v5 =>
              (ss[i.toNat]?).bind fun v6 =>
                (idx v4 i).bind fun v7 =>
                  (v4[i.toNat]?).bind fun v8 =>
                    (idx ds i).bind fun v9 =>
                      (ds[i.toNat]?).bind fun v10 =>
                        bif decide (v8 < v10) then k (AEx.exit 2) { fr := mkFr 6 [(0, AV.ref 8), (1, AV.op 0 [] 0), (3, AV.os 10 0), (4, I (IntKind.i64.wrap (p + v6))), (5, I i), (19, I i), (20, B true), (23, AV.os 10 0), (24, I i), (25, AV.oe 10 0 i.toNat), (26, I v2), (27, I (IntKind.i64.wrap (v2 + 1))), (28, AV.oe 10 0 i.toNat), (29, I p), (30, AV.op 0 [2] 2), (31, AV.os 6 0), (32, I i), (33, AV.oe 6 0 i.toNat), (34, I v6), (35, I (IntKind.i64.wrap (p + v6))), (36, AV.os 10 0), (37, I i), (38, AV.oe 10 0 i.toNat), (39, I v8), (40, AV.op 0 [1] 1), (41, AV.os 7 0), (42, I i), (43, AV.oe 7 0 i.toNat), (44, I v10), (45, B true)], hp := [(10, AObj.arr 3 (i64T) 0 false v4), (0, AObj.box ((I off).pr ((AV.os 7 0).pr ((AV.os 6 0).pr (AV.d Ty.unit PUnit.unit))))), (7, AObj.arr 3 (i64T) 0 false ds), (6, AObj.arr 3 (i64T) 0 false ss), (1, AObj.box (AV.os 9 0)), (9, AObj.arr 2 (i64T) 0 false out), (2, AObj.box (I 0)), (3, AObj.box AV.nils), (4, AObj.box (AV.d (i64T).slice l)), (5, AObj.box ((I off).pr ((AV.os 7 0).pr ((AV.os 6 0).pr (AV.d Ty.unit PUnit.unit))))), (8, AObj.rc (ARec.loop LC_reb [(0, (I off).pr ((AV.os 7 0).pr ((AV.os 6 0).pr (AV.d Ty.unit PUnit.unit)))), (1, AV.d (i64T).slice l), (2, AV.op 5 [] 0), (3, AV.op 4 [] 0), (4, AV.op 3 [] 0), (5, AV.op 2 [] 0), (6, AV.op 1 [] 0)] LSta.ready)), (10, AObj.arr 3 (i64T) 0 false A)], nx := 20 }
                        else (idx v4 i).bind fun v12 =>
                            (v4[i.toNat]?).bind fun v13 =>
                              (idx ss i).bind fun v14 =>
                                (ss[i.toNat]?).bind fun v15 =>
                                  (idx v4 i).bind fun v16 =>
                                    (setN v4 i.toNat 0).bind fun v17 =>
                                      lpH g163 cf_plb [2, 4] hl (cL (cL (cL (cR (cR (cL (cL (cL (cR (cR C_plb)))))))))) n { fr := mkFr 6 [(0, AV.ref 8), (1, AV.op 0 [] 0), (3, AV.os 10 0), (4, I (IntKind.i64.wrap (IntKind.i64.wrap (p + v6) - IntKind.i64.wrap (v13 * v15)))), (5, I (IntKind.i64.wrap (i - 1)))], hp := [(0, AObj.box ((I off).pr ((AV.os 7 0).pr ((AV.os 6 0).pr (AV.d Ty.unit PUnit.unit))))), (7, AObj.arr 3 (i64T) 0 false ds), (6, AObj.arr 3 (i64T) 0 false ss), (1, AObj.box (AV.os 9 0)), (9, AObj.arr 2 (i64T) 0 false out), (2, AObj.box (I 0)), (3, AObj.box AV.nils), (4, AObj.box (AV.d (i64T).slice l)), (5, AObj.box ((I off).pr ((AV.os 7 0).pr ((AV.os 6 0).pr (AV.d Ty.unit PUnit.unit))))), (8, AObj.rc (ARec.loop LC_reb [(0, (I off).pr ((AV.os 7 0).pr ((AV.os 6 0).pr (AV.d Ty.unit PUnit.unit)))), (1, AV.d (i64T).slice l), (2, AV.op 5 [] 0), (3, AV.op 4 [] 0), (4, AV.op 3 [] 0), (5, AV.op 2 [] 0), (6, AV.op 1 [] 0)] LSta.ready)), (10, AObj.arr 3 (i64T) 0 false v17)], nx := 20 } k
  else k (AEx.exit 2) { fr := mkFr 6 [(0, AV.ref 8), (1, AV.op 0 [] 0), (3, AV.os 10 0), (4, I p), (5, I i), (19, I i), (20, B false)], hp := [(0, AObj.box ((I off).pr ((AV.os 7 0).pr ((AV.os 6 0).pr (AV.d Ty.unit PUnit.unit))))), (7, AObj.arr 3 (i64T) 0 false ds), (6, AObj.arr 3 (i64T) 0 false ss), (1, AObj.box (AV.os 9 0)), (9, AObj.arr 2 (i64T) 0 false out), (2, AObj.box (I 0)), (3, AObj.box AV.nils), (4, AObj.box (AV.d (i64T).slice l)), (5, AObj.box ((I off).pr ((AV.os 7 0).pr ((AV.os 6 0).pr (AV.d Ty.unit PUnit.unit))))), (8, AObj.rc (ARec.loop LC_reb [(0, (I off).pr ((AV.os 7 0).pr ((AV.os 6 0).pr (AV.d Ty.unit PUnit.unit)))), (1, AV.d (i64T).slice l), (2, AV.op 5 [] 0), (3, AV.op 4 [] 0), (4, AV.op 3 [] 0), (5, AV.op 2 [] 0), (6, AV.op 1 [] 0)] LSta.ready)), (10, AObj.arr 3 (i64T) 0 false A)], nx := 20 } := by kernel_rfl
theorem bI_st (off : Int) (ds ss l A : List Int) (p : Int) (out : List Int) (i : Int) (n : Nat) {R : Type} (k : AEx → LSt → Option R) : lp g163 cf_plb (cL (cL (cL (cR (cR (cL (cL (cL (cR (cR C_plb)))))))))) (n + 1) (stVi off ds ss l A p out i) k =
  bif decide (i ≥ 0) then (idx A i).bind fun v1 =>
      (A[i.toNat]?).bind fun v2 =>
        (idx A i).bind fun v3 =>
          (setN A i.toNat (IntKind.i64.wrap (v2 + 1))).bind fun v4 =>
            (idx ss i).bind fun v5 =>
              (ss[i.toNat]?).bind fun v6 =>
                (idx v4 i).bind fun v7 =>
                  (v4[i.toNat]?).bind fun v8 =>
                    (idx ds i).bind fun v9 =>
                      (ds[i.toNat]?).bind fun v10 =>
                        bif decide (v8 < v10) then k (AEx.exit 2) { fr := mkFr 6 [(0, AV.ref 8), (1, AV.op 0 [] 0), (3, AV.os 10 0), (4, I (IntKind.i64.wrap (p + v6))), (5, I i), (19, I i), (20, B true), (23, AV.os 10 0), (24, I i), (25, AV.oe 10 0 i.toNat), (26, I v2), (27, I (IntKind.i64.wrap (v2 + 1))), (28, AV.oe 10 0 i.toNat), (29, I p), (30, AV.op 0 [2] 2), (31, AV.os 6 0), (32, I i), (33, AV.oe 6 0 i.toNat), (34, I v6), (35, I (IntKind.i64.wrap (p + v6))), (36, AV.os 10 0), (37, I i), (38, AV.oe 10 0 i.toNat), (39, I v8), (40, AV.op 0 [1] 1), (41, AV.os 7 0), (42, I i), (43, AV.oe 7 0 i.toNat), (44, I v10), (45, B true)], hp := [(10, AObj.arr 3 (i64T) 0 false v4), (0, AObj.box ((I off).pr ((AV.os 7 0).pr ((AV.os 6 0).pr (AV.d Ty.unit PUnit.unit))))), (7, AObj.arr 3 (i64T) 0 false ds), (6, AObj.arr 3 (i64T) 0 false ss), (1, AObj.box (AV.os 9 0)), (9, AObj.arr 2 (i64T) 0 false out), (2, AObj.box (I 0)), (3, AObj.box AV.nils), (4, AObj.box (AV.d (i64T).slice l)), (5, AObj.box ((I off).pr ((AV.os 7 0).pr ((AV.os 6 0).pr (AV.d Ty.unit PUnit.unit))))), (8, AObj.rc (ARec.loop LC_reb [(0, (I off).pr ((AV.os 7 0).pr ((AV.os 6 0).pr (AV.d Ty.unit PUnit.unit)))), (1, AV.d (i64T).slice l), (2, AV.op 5 [] 0), (3, AV.op 4 [] 0), (4, AV.op 3 [] 0), (5, AV.op 2 [] 0), (6, AV.op 1 [] 0)] LSta.ready)), (10, AObj.arr 3 (i64T) 0 false A)], nx := 20 }
                        else (idx v4 i).bind fun v12 =>
                            (v4[i.toNat]?).bind fun v13 =>
                              (idx ss i).bind fun v14 =>
                                (ss[i.toNat]?).bind fun v15 =>
                                  (idx v4 i).bind fun v16 =>
                                    (setN v4 i.toNat 0).bind fun v17 =>
                                      lp g163 cf_plb (cL (cL (cL (cR (cR (cL (cL (cL (cR (cR C_plb)))))))))) n { fr := mkFr 6 [(0, AV.ref 8), (1, AV.op 0 [] 0), (3, AV.os 10 0), (4, I (IntKind.i64.wrap (IntKind.i64.wrap (p + v6) - IntKind.i64.wrap (v13 * v15)))), (5, I (IntKind.i64.wrap (i - 1)))], hp := [(0, AObj.box ((I off).pr ((AV.os 7 0).pr ((AV.os 6 0).pr (AV.d Ty.unit PUnit.unit))))), (7, AObj.arr 3 (i64T) 0 false ds), (6, AObj.arr 3 (i64T) 0 false ss), (1, AObj.box (AV.os 9 0)), (9, AObj.arr 2 (i64T) 0 false out), (2, AObj.box (I 0)), (3, AObj.box AV.nils), (4, AObj.box (AV.d (i64T).slice l)), (5, AObj.box ((I off).pr ((AV.os 7 0).pr ((AV.os 6 0).pr (AV.d Ty.unit PUnit.unit))))), (8, AObj.rc (ARec.loop LC_reb [(0, (I off).pr ((AV.os 7 0).pr ((AV.os 6 0).pr (AV.d Ty.unit PUnit.unit)))), (1, AV.d (i64T).slice l), (2, AV.op 5 [] 0), (3, AV.op 4 [] 0), (4, AV.op 3 [] 0), (5, AV.op 2 [] 0), (6, AV.op 1 [] 0)] LSta.ready)), (10, AObj.arr 3 (i64T) 0 false v17)], nx := 20 } k
  else k (AEx.exit 2) { fr := mkFr 6 [(0, AV.ref 8), (1, AV.op 0 [] 0), (3, AV.os 10 0), (4, I p), (5, I i), (19, I i), (20, B false)], hp := [(0, AObj.box ((I off).pr ((AV.os 7 0).pr ((AV.os 6 0).pr (AV.d Ty.unit PUnit.unit))))), (7, AObj.arr 3 (i64T) 0 false ds), (6, AObj.arr 3 (i64T) 0 false ss), (1, AObj.box (AV.os 9 0)), (9, AObj.arr 2 (i64T) 0 false out), (2, AObj.box (I 0)), (3, AObj.box AV.nils), (4, AObj.box (AV.d (i64T).slice l)), (5, AObj.box ((I off).pr ((AV.os 7 0).pr ((AV.os 6 0).pr (AV.d Ty.unit PUnit.unit))))), (8, AObj.rc (ARec.loop LC_reb [(0, (I off).pr ((AV.os 7 0).pr ((AV.os 6 0).pr (AV.d Ty.unit PUnit.unit)))), (1, AV.d (i64T).slice l), (2, AV.op 5 [] 0), (3, AV.op 4 [] 0), (4, AV.op 3 [] 0), (5, AV.op 2 [] 0), (6, AV.op 1 [] 0)] LSta.ready)), (10, AObj.arr 3 (i64T) 0 false A)], nx := 20 } := by
  have h := bI_stH (hlp g163 cf_plb) off ds ss l A p out i n k
  simp only [lpH_lp] at h
  exact h
noncomputable def KIv {R : Type} (n : Nat) (k : AEx → LSt → Option R) : AEx → LSt → Option R := (blkK 2 (seqH g163 cf_plb [2, 4] (hlp g163 cf_plb) (cR (cR (cR (cL (cL (cL (cR (cR C_plb)))))))) (blkK 1 (nxtH g163 cf_plb [2, 4] (hlp g163 cf_plb) (cL (cL (cR (cR C_plb)))) n k))))
noncomputable def stBrk (off : Int) (ds ss l A A2 : List Int) (p p2 : Int) (out : List Int) (i a b s c d : Int) : LSt := ⟨mkFr 6 [(0, AV.ref 8), (1, AV.op 0 [] 0), (3, AV.os 10 0), (4, I p2), (5, I i), (19, I i), (20, B true), (23, AV.os 10 0), (24, I i), (25, AV.oe 10 0 i.toNat), (26, I a), (27, I b), (28, AV.oe 10 0 i.toNat), (29, I p), (30, AV.op 0 [2] 2), (31, AV.os 6 0), (32, I i), (33, AV.oe 6 0 i.toNat), (34, I s), (35, I p2), (36, AV.os 10 0), (37, I i), (38, AV.oe 10 0 i.toNat), (39, I c), (40, AV.op 0 [1] 1), (41, AV.os 7 0), (42, I i), (43, AV.oe 7 0 i.toNat), (44, I d), (45, B true)], (10, AObj.arr 3 i64T 0 false A2) :: (stVb1 off ds ss l A p out).hp, 20⟩
noncomputable def stFin (off : Int) (ds ss l A : List Int) (p : Int) (out : List Int) (i : Int) : LSt := ⟨mkFr 6 [(0, AV.ref 8), (1, AV.op 0 [] 0), (3, AV.os 10 0), (4, I p), (5, I i), (19, I i), (20, B false)], (stVb1 off ds ss l A p out).hp, 20⟩
theorem KI_brk (off : Int) (ds ss l A A2 : List Int) (p p2 : Int) (out : List Int) (j : Nat) (a b s c d : Int) (n : Nat) {R : Type} (k : AEx → LSt → Option R) : KIv n k (.exit 2) (stBrk off ds ss l A A2 p p2 out (Int.ofNat j) a b s c d) = lp g163 cf_plb (cL (cL (cR (cR C_plb)))) n (stVb1 off ds ss l A2 p2 out) k :=
  Eq.trans (b := lpH g163 cf_plb [2, 4] (hlp g163 cf_plb) (cL (cL (cR (cR C_plb)))) n (stVb1 off ds ss l A2 p2 out) k) (by kernel_rfl) lpH_lp
noncomputable def stRet (off : Int) (ds ss l A : List Int) (p : Int) (out : List Int) : LSt := ⟨mkFr 6 [(0, .ref 8), (1, .op 0 [] 0), (3, .os 10 0), (4, I p), (5, I (-1)), (19, I (-1)), (20, B false), (61, I (-1)), (62, B true)], (stVb1 off ds ss l A p out).hp, 20⟩
theorem KI_fin (off : Int) (ds ss l A : List Int) (p : Int) (out : List Int) (n : Nat) {R : Type} (k : AEx → LSt → Option R) : KIv n k (.exit 2) (stFin off ds ss l A p out (-1)) = k .ret (stRet off ds ss l A p out) := by kernel_rfl
theorem WKb_ret (off : Int) (ds ss l A : List Int) (p : Int) (out : List Int) : WKb .ret (stRet off ds ss l A p out) = some (.ret [], hpYbW off ds ss l out) := by kernel_rfl
end Go.Proofs.XGT
namespace Go.Proofs.XGT
open Go.Vm Go
set_option maxRecDepth 100000
set_option maxHeartbeats 1000000
def prodN : List Nat → Nat
  | [] => 1
  | d :: r => d * prodN r
def dig : List Nat → Nat → List Nat
  | [], _ => []
  | _ :: r, q => q / prodN r :: dig r (q % prodN r)
def dot : List Nat → List Nat → Nat
  | a :: r, s :: t => a * s + dot r t
  | _, _ => 0
def ints (l : List Nat) : List Int := l.map (fun n : Nat => (n : Int))
theorem ints_cons (a : Nat) (l : List Nat) : ints (a :: l) = (a : Int) :: ints l := rfl
theorem ints_len (l : List Nat) : (ints l).length = l.length := by simp [ints]
theorem dig_len : ∀ (ds : List Nat) (q : Nat), (dig ds q).length = ds.length
  | [], _ => rfl
  | _ :: r, q => by simp only [dig, List.length_cons, dig_len r]
theorem dot_zero : ∀ (ds t : List Nat), dot (dig ds 0) t = 0
  | [], t => by cases t <;> rfl
  | _ :: r, [] => rfl
  | _ :: r, s :: t => by
    show 0 / prodN r * s + dot (dig r (0 % prodN r)) t = 0
    rw [Nat.zero_div, Nat.zero_mod, Nat.zero_mul, dot_zero r t]
theorem mid_get {xs zs : List Int} {y : Int} : (xs ++ y :: zs)[xs.length]? = some y := by
  rw [List.getElem?_append_right (Nat.le_refl _), Nat.sub_self]
  rfl
theorem mid_idx {xs zs : List Int} {y : Int} : idx (xs ++ y :: zs) (Int.ofNat xs.length) = some y := by
  unfold idx
  rw [if_pos (show (0 : Int) ≤ Int.ofNat xs.length from Int.natCast_nonneg _), show (Int.ofNat xs.length).toNat = xs.length from rfl, mid_get]
theorem mid_set {xs zs : List Int} {y v : Int} : setN (xs ++ y :: zs) xs.length v = some (xs ++ v :: zs) := by
  unfold setN
  rw [show Nat.blt xs.length (xs ++ y :: zs).length = true from Nat.ble_eq_true_of_le (by rw [List.length_append, List.length_cons]; omega), cond_true, List.set_append_right _ _ (Nat.le_refl _), Nat.sub_self]
  rfl
section
variable {off : Int} {l out : List Int} {m : Nat} {R : Type} {k : AEx → LSt → Option R}
/-- one digit goes on: it stays below its bound, or falls to 0 -/
theorem od_one {Ap dp sp : List Int} {Ar dr sr : List Int} {c d s base n : Nat} (h1 : dp.length = Ap.length) (h2 : sp.length = Ap.length) (hc : c < d) (hd : d ≤ 65536) (hs : s ≤ 65536) (hb : base + 4295032832 ≤ 4611686018427387904) (hA : Ap.length ≤ 65536) :
    lp g163 cf_plb (cL (cL (cL (cR (cR (cL (cL (cL (cR (cR C_plb)))))))))) (n + 1) (stVi off (dp ++ (d : Int) :: dr) (sp ++ (s : Int) :: sr) l (Ap ++ (c : Int) :: Ar) ((base + c * s : Nat) : Int) out (Int.ofNat Ap.length)) (KIv m k) =
      if c + 1 < d then lp g163 cf_plb (cL (cL (cR (cR C_plb)))) m (stVb1 off (dp ++ (d : Int) :: dr) (sp ++ (s : Int) :: sr) l (Ap ++ ((c + 1 : Nat) : Int) :: Ar) ((base + (c + 1) * s : Nat) : Int) out) k
      else lp g163 cf_plb (cL (cL (cL (cR (cR (cL (cL (cL (cR (cR C_plb)))))))))) n (stVi off (dp ++ (d : Int) :: dr) (sp ++ (s : Int) :: sr) l (Ap ++ (0 : Int) :: Ar) (base : Int) out ((Ap.length : Int) - 1)) (KIv m k) := by
  have c1 : c * s ≤ 65536 * 65536 := Nat.mul_le_mul (by omega) hs
  have c2 : (c + 1) * s = c * s + s := by rw [Nat.add_mul, Nat.one_mul]
  have w1 : IntKind.i64.wrap ((c : Int) + 1) = ((c + 1 : Nat) : Int) := by rw [wrap64 (by omega) (by omega)]; omega
  have w2 : IntKind.i64.wrap (((base + c * s : Nat) : Int) + s) = ((base + (c + 1) * s : Nat) : Int) := by rw [c2, wrap64 (by omega) (by omega)]; omega
  have gA : idx (Ap ++ (c : Int) :: Ar) (Int.ofNat Ap.length) = some (c : Int) := mid_idx
  have gA' : (Ap ++ (c : Int) :: Ar)[(Int.ofNat Ap.length).toNat]? = some (c : Int) := mid_get
  have gS : setN (Ap ++ (c : Int) :: Ar) (Int.ofNat Ap.length).toNat ((c + 1 : Nat) : Int) = some (Ap ++ ((c + 1 : Nat) : Int) :: Ar) := mid_set
  have gs : idx (sp ++ (s : Int) :: sr) (Int.ofNat Ap.length) = some (s : Int) := by rw [← h2]; exact mid_idx
  have gs' : (sp ++ (s : Int) :: sr)[(Int.ofNat Ap.length).toNat]? = some (s : Int) := by rw [← h2]; exact mid_get
  have gB : idx (Ap ++ ((c + 1 : Nat) : Int) :: Ar) (Int.ofNat Ap.length) = some ((c + 1 : Nat) : Int) := mid_idx
  have gB' : (Ap ++ ((c + 1 : Nat) : Int) :: Ar)[(Int.ofNat Ap.length).toNat]? = some ((c + 1 : Nat) : Int) := mid_get
  have gd : idx (dp ++ (d : Int) :: dr) (Int.ofNat Ap.length) = some (d : Int) := by rw [← h1]; exact mid_idx
  have gd' : (dp ++ (d : Int) :: dr)[(Int.ofNat Ap.length).toNat]? = some (d : Int) := by rw [← h1]; exact mid_get
  have gZ : setN (Ap ++ ((c + 1 : Nat) : Int) :: Ar) (Int.ofNat Ap.length).toNat (0 : Int) = some (Ap ++ (0 : Int) :: Ar) := mid_set
  rw [bI_st, decide_eq_true (show Int.ofNat Ap.length ≥ 0 from Int.natCast_nonneg _), cond_true, gA, Option.bind_some, gA', Option.bind_some, Option.bind_some, w1, gS, Option.bind_some, gs, Option.bind_some, gs', Option.bind_some, gB, Option.bind_some, gB', Option.bind_some, gd, Option.bind_some, gd', Option.bind_some, w2]
  by_cases h : c + 1 < d
  · rw [if_pos h, decide_eq_true (show ((c + 1 : Nat) : Int) < (d : Int) by omega), cond_true]
    exact KI_brk off _ _ l (Ap ++ (c : Int) :: Ar) _ _ _ out Ap.length _ _ _ _ _ m k
  · have w3 : IntKind.i64.wrap (((c + 1 : Nat) : Int) * s) = (((c + 1) * s : Nat) : Int) := by rw [← Int.natCast_mul]; exact wrap64 (by omega) (by omega)
    have w4 : IntKind.i64.wrap (((base + (c + 1) * s : Nat) : Int) - (((c + 1) * s : Nat) : Int)) = (base : Int) := by rw [wrap64 (by omega) (by omega)]; omega
    have w5 : IntKind.i64.wrap (Int.ofNat Ap.length - 1) = (Ap.length : Int) - 1 := wrap64 (by simp only [Int.ofNat_eq_natCast]; omega) (by simp only [Int.ofNat_eq_natCast]; omega)
    rw [if_neg h, decide_eq_false (show ¬ (((c + 1 : Nat) : Int) < (d : Int)) by omega), cond_false]
    simp only [Option.bind_some, gZ, w3, w4, w5]
    rfl
theorem prodN_pos {ds : List Nat} (h : ∀ d ∈ ds, 1 ≤ d) : 1 ≤ prodN ds := by
  induction ds with
  | nil => exact Nat.le_refl _
  | cons d r ih =>
    have h1 := h d (by simp)
    have h2 := ih fun x hx => h x (by simp [hx])
    exact Nat.mul_pos h1 h2
theorem od_in : ∀ (suf ssuf : List Nat) (Ap dp sp : List Int) (q base n : Nat), dp.length = Ap.length → sp.length = Ap.length → ssuf.length = suf.length → (∀ d ∈ suf, d ≤ 65536) → (∀ s ∈ ssuf, s ≤ 65536) → q < prodN suf → base + suf.length * 4295032832 ≤ 4611686018427387904 → Ap.length + suf.length ≤ 65536 → suf.length < n →
    lp g163 cf_plb (cL (cL (cL (cR (cR (cL (cL (cL (cR (cR C_plb)))))))))) n (stVi off (dp ++ ints suf) (sp ++ ints ssuf) l (Ap ++ ints (dig suf q)) ((base + dot (dig suf q) ssuf : Nat) : Int) out (((Ap.length + suf.length : Nat) : Int) - 1)) (KIv m k) =
      if q + 1 < prodN suf then lp g163 cf_plb (cL (cL (cR (cR C_plb)))) m (stVb1 off (dp ++ ints suf) (sp ++ ints ssuf) l (Ap ++ ints (dig suf (q + 1))) ((base + dot (dig suf (q + 1)) ssuf : Nat) : Int) out) k
      else lp g163 cf_plb (cL (cL (cL (cR (cR (cL (cL (cL (cR (cR C_plb)))))))))) (n - suf.length) (stVi off (dp ++ ints suf) (sp ++ ints ssuf) l (Ap ++ ints (dig suf 0)) (base : Int) out ((Ap.length : Int) - 1)) (KIv m k) := by
  intro suf
  induction suf with
  | nil =>
    intro ssuf Ap dp sp q base n _ _ _ _ _ hq _ _ _
    have hq : q < 1 := hq
    have : q = 0 := by omega
    subst this
    rw [if_neg (show ¬ (0 + 1 < prodN []) from by show ¬ (0 + 1 < 1); omega)]
    rfl
  | cons d r ih =>
    intro ssuf Ap dp sp q base n h1 h2 h3 h4 h5 hq hb hA hn
    match ssuf, h3, h5 with
    | s :: t, h3, h5 =>
      have hd := h4 d (by simp)
      have hs := h5 s (by simp)
      have hq : q < d * prodN r := hq
      have hN : 0 < prodN r := by
        rcases Nat.eq_zero_or_pos (prodN r) with h0 | h0
        · rw [h0, Nat.mul_zero] at hq; omega
        · exact h0
      have hc : q / prodN r < d := Nat.div_lt_of_lt_mul (by rw [Nat.mul_comm]; exact hq)
      have hq' : q % prodN r < prodN r := Nat.mod_lt _ hN
      have hqe : q = q / prodN r * prodN r + q % prodN r := by rw [Nat.mul_comm]; exact (Nat.div_add_mod _ _).symm
      generalize hcd : q / prodN r = c at *
      generalize hqd : q % prodN r = q' at *
      have hcs : c * s ≤ 65536 * 65536 := Nat.mul_le_mul (by omega) hs
      simp only [List.length_cons] at hb hA hn h3
      have key := ih t (Ap ++ [(c : Int)]) (dp ++ [(d : Int)]) (sp ++ [(s : Int)]) q' (base + c * s) n (by simp [h1]) (by simp [h2]) (by omega) (fun x hx => h4 x (by simp [hx])) (fun x hx => h5 x (by simp [hx])) hq' (by omega) (by simp; omega) (by omega)
      simp only [List.append_assoc, List.singleton_append, List.length_append, List.length_cons, List.length_nil] at key
      have eI : (((Ap.length + (d :: r).length : Nat) : Int) - 1) = (((Ap.length + (0 + 1) + r.length : Nat) : Int) - 1) := by simp only [List.length_cons]; omega
      have eP : ∀ z, base + dot (c :: dig r z) (s :: t) = base + c * s + dot (dig r z) t := fun z => by show base + (c * s + _) = _; omega
      have eD : dig (d :: r) q = c :: dig r q' := by show q / prodN r :: dig r (q % prodN r) = _; rw [hcd, hqd]
      rw [eI, eD, eP, ints_cons, ints_cons, ints_cons]
      refine key.trans ?_
      show _ = if q + 1 < d * prodN r then _ else _
      by_cases hlt : q' + 1 < prodN r
      · have hrow : (c + 1) * prodN r ≤ d * prodN r := Nat.mul_le_mul_right _ hc
        rw [Nat.add_mul, Nat.one_mul] at hrow
        have hp := (place_iff (i := c) (p := q + 1) (j := q' + 1) hlt).mp (by omega)
        have eD2 : dig (d :: r) (q + 1) = c :: dig r (q' + 1) := by show (q + 1) / prodN r :: dig r ((q + 1) % prodN r) = _; rw [hp.1, hp.2]
        rw [if_pos hlt, if_pos (by omega), eD2, eP, ints_cons]
      · have hrow : (c + 1) * prodN r = c * prodN r + prodN r := by rw [Nat.add_mul, Nat.one_mul]
        rw [if_neg hlt]
        obtain ⟨n', hn'⟩ : ∃ n', n - r.length = n' + 1 := ⟨n - r.length - 1, by omega⟩
        have e1 : (((Ap.length + (0 + 1) : Nat) : Int) - 1) = Int.ofNat Ap.length := by simp only [Int.ofNat_eq_natCast]; omega
        rw [hn', e1, od_one h1 h2 hc hd hs (by omega) (by omega)]
        by_cases hlt2 : c + 1 < d
        · have hrow2 : (c + 1 + 1) * prodN r ≤ d * prodN r := Nat.mul_le_mul_right _ hlt2
          rw [Nat.add_mul _ 1, Nat.one_mul] at hrow2
          have hp := (place_iff (i := c + 1) (p := q + 1) (j := 0) hN).mp (by omega)
          have eD2 : dig (d :: r) (q + 1) = (c + 1) :: dig r 0 := by show (q + 1) / prodN r :: dig r ((q + 1) % prodN r) = _; rw [hp.1, hp.2]
          have e0 : dot (dig r 0) t = 0 := dot_zero r t
          rw [if_pos hlt2, if_pos (by omega), eD2, ints_cons]
          show _ = lp g163 cf_plb (cL (cL (cR (cR C_plb)))) m (stVb1 off _ _ l _ ((base + ((c + 1) * s + dot (dig r 0) t) : Nat) : Int) out) k
          rw [e0]
          rfl
        · have hce : c + 1 = d := by omega
          have eD0 : dig (d :: r) 0 = 0 :: dig r 0 := by show 0 / prodN r :: dig r (0 % prodN r) = _; rw [Nat.zero_div, Nat.zero_mod]
          rw [if_neg hlt2, if_neg (by rw [← hce, hrow]; omega), eD0, ints_cons]
          have en : n - (d :: r).length = n' := by simp only [List.length_cons]; omega
          rw [en]
          rfl
end
/-- the numbers that a view shows -/
def vwL (off : Nat) (ds ss : List Nat) (l : List Int) : List Int := tab (prodN ds) (fun q => l.getD (off + dot (dig ds q) ss) 0)
noncomputable def stVm2 (off : Int) (ds ss l A : List Int) (p : Int) (out : List Int) : LSt := match out with
  | [] => stVb0 off ds ss l A p
  | o :: r => stVb1 off ds ss l A p (o :: r)
section
variable {off : Nat} {l : List Int} {ds ss : List Nat}
theorem od_end (out : List Int) (A : List Int) (p : Int) (n m : Nat) : lp g163 cf_plb (cL (cL (cL (cR (cR (cL (cL (cL (cR (cR C_plb)))))))))) (n + 1) (stVi off (ints ds) (ints ss) l A p out (-1)) (KIv m WKb) = some (.ret [], hpYbW off (ints ds) (ints ss) l out) := by
  rw [bI_st, decide_eq_false (show ¬ ((-1 : Int) ≥ 0) by decide), cond_false]
  exact (KI_fin off (ints ds) (ints ss) l A p out m WKb).trans (WKb_ret off (ints ds) (ints ss) l A p out)
theorem od_step (h3 : ss.length = ds.length) (h1 : ∀ d ∈ ds, d ≤ 65536) (h5 : ∀ s ∈ ss, s ≤ 65536) (hr : ds.length ≤ 6) (ho : off ≤ 65536) (hN : prodN ds ≤ 65536) {q : Nat} (hq : q < prodN ds) (hp : off + dot (dig ds q) ss < l.length) (n : Nat) :
    lp g163 cf_plb (cL (cL (cR (cR C_plb)))) (n + 1) (stVm2 off (ints ds) (ints ss) l (ints (dig ds q)) ((off + dot (dig ds q) ss : Nat) : Int) (tab q (fun q => l.getD (off + dot (dig ds q) ss) 0))) WKb =
      if q + 1 < prodN ds then lp g163 cf_plb (cL (cL (cR (cR C_plb)))) n (stVm2 off (ints ds) (ints ss) l (ints (dig ds (q + 1))) ((off + dot (dig ds (q + 1)) ss : Nat) : Int) (tab (q + 1) (fun q => l.getD (off + dot (dig ds q) ss) 0))) WKb
      else some (.ret [], hpYbW off (ints ds) (ints ss) l (tab (q + 1) (fun q => l.getD (off + dot (dig ds q) ss) 0))) := by
  have hf : fu = 18446744073709551616 := rfl
  obtain ⟨g1, _⟩ := getV hp
  have hge : decide (((off + dot (dig ds q) ss : Nat) : Int) ≥ Int.ofNat l.length) = false := decide_eq_false (by simp only [Int.ofNat_eq_natCast]; omega)
  have hw : IntKind.i64.wrap (Int.ofNat (ints (dig ds q)).length - 1) = ((0 + ds.length : Nat) : Int) - 1 := by
    rw [ints_len, dig_len, wrap64 (by simp only [Int.ofNat_eq_natCast]; omega) (by simp only [Int.ofNat_eq_natCast]; omega), Nat.zero_add]
    rfl
  have hlen : (tab q (fun q => l.getD (off + dot (dig ds q) ss) 0)).length = q := tab_length _ _
  have key : ∀ out : List Int, out ≠ [] → lp g163 cf_plb (cL (cL (cL (cR (cR (cL (cL (cL (cR (cR C_plb)))))))))) fu (stVi off (ints ds) (ints ss) l (ints (dig ds q)) ((off + dot (dig ds q) ss : Nat) : Int) out (((0 + ds.length : Nat) : Int) - 1)) (KIv n WKb) =
      if q + 1 < prodN ds then lp g163 cf_plb (cL (cL (cR (cR C_plb)))) n (stVm2 off (ints ds) (ints ss) l (ints (dig ds (q + 1))) ((off + dot (dig ds (q + 1)) ss : Nat) : Int) out) WKb
      else some (.ret [], hpYbW off (ints ds) (ints ss) l out) := by
    intro out hne
    refine (od_in (off := off) (l := l) (out := out) (m := n) (k := WKb) ds ss [] [] [] q off fu rfl rfl h3 h1 h5 hq (by omega) (by simp only [List.length_nil]; omega) (by omega)).trans ?_
    by_cases h : q + 1 < prodN ds
    · rw [if_pos h, if_pos h]
      cases out with
      | nil => exact absurd rfl hne
      | cons o r => rfl
    · rw [if_neg h, if_neg h]
      obtain ⟨n', hn'⟩ : ∃ n', fu - ds.length = n' + 1 := ⟨fu - ds.length - 1, by omega⟩
      rw [hn']
      exact od_end out _ _ n' n
  rw [tab_succ]
  cases htab : tab q (fun q => l.getD (off + dot (dig ds q) ss) 0) with
  | nil =>
    refine Eq.trans ?_ (key ([] ++ [l.getD (off + dot (dig ds q) ss) 0]) (by simp))
    show lp g163 cf_plb (cL (cL (cR (cR C_plb)))) (n + 1) (stVb0 off (ints ds) (ints ss) l (ints (dig ds q)) ((off + dot (dig ds q) ss : Nat) : Int)) WKb = _
    rw [bG_st0, hge, cond_false, g1, Option.bind_some, hw]
    kernel_rfl
  | cons o r =>
    have hl2 : (o :: r).length ≤ 65536 := by rw [← htab, hlen]; omega
    refine Eq.trans ?_ (key ((o :: r) ++ [l.getD (off + dot (dig ds q) ss) 0]) (by simp))
    show lp g163 cf_plb (cL (cL (cR (cR C_plb)))) (n + 1) (stVb1 off (ints ds) (ints ss) l (ints (dig ds q)) ((off + dot (dig ds q) ss : Nat) : Int) (o :: r)) WKb = _
    rw [bG_st1, hge, cond_false, g1, Option.bind_some, app_one hl2, Option.bind_some, hw]
    kernel_rfl
theorem od_out (h3 : ss.length = ds.length) (h1 : ∀ d ∈ ds, d ≤ 65536) (h5 : ∀ s ∈ ss, s ≤ 65536) (hr : ds.length ≤ 6) (ho : off ≤ 65536) (hN : prodN ds ≤ 65536) (hp : ∀ q, q < prodN ds → off + dot (dig ds q) ss < l.length) : ∀ (r q n : Nat), q + r + 1 = prodN ds → r < n →
    lp g163 cf_plb (cL (cL (cR (cR C_plb)))) n (stVm2 off (ints ds) (ints ss) l (ints (dig ds q)) ((off + dot (dig ds q) ss : Nat) : Int) (tab q (fun q => l.getD (off + dot (dig ds q) ss) 0))) WKb = some (.ret [], hpYbW off (ints ds) (ints ss) l (vwL off ds ss l)) := by
  intro r
  induction r with
  | zero =>
    intro q n hq hn
    obtain ⟨n, rfl⟩ : ∃ m', n = m' + 1 := ⟨n - 1, by omega⟩
    rw [od_step h3 h1 h5 hr ho hN (show q < prodN ds by omega) (hp q (by omega)) n, if_neg (by omega)]
    unfold vwL
    rw [show q + 1 = prodN ds by omega]
  | succ r ih =>
    intro q n hq hn
    obtain ⟨n, rfl⟩ : ∃ m', n = m' + 1 := ⟨n - 1, by omega⟩
    rw [od_step h3 h1 h5 hr ho hN (show q < prodN ds by omega) (hp q (by omega)) n, if_pos (by omega)]
    exact ih (q + 1) n (by omega) (by omega)
theorem ints_rep (n : Nat) : List.replicate n (0 : Int) = ints (List.replicate n 0) := by simp [ints]
theorem dig_zero : ∀ ds : List Nat, dig ds 0 = List.replicate ds.length 0
  | [] => rfl
  | _ :: r => by
    show 0 / prodN r :: dig r (0 % prodN r) = _
    rw [Nat.zero_div, Nat.zero_mod, dig_zero r]
    rfl
theorem plbG_run (h3 : ss.length = ds.length) (h0 : ∀ d ∈ ds, 1 ≤ d) (h1 : ∀ d ∈ ds, d ≤ 65536) (h5 : ∀ s ∈ ss, s ≤ 65536) (hr : ds.length ≤ 6) (ho : off ≤ 65536) (hN : prodN ds ≤ 65536) (hp : ∀ q, q < prodN ds → off + dot (dig ds q) ss < l.length) :
    runC g163 Tryz.f132 6 [(2, [0, 1, 3, 4]), (4, [0, 1, 3, 4, 5])] [.ref 8, .op 0 [] 0] (hpYb off (ints ds) (ints ss) l .nils) ah = some (.ret [], hpYbW off (ints ds) (ints ss) l (vwL off ds ss l)) := by
  have hf : fu = 18446744073709551616 := rfl
  have hpos := prodN_pos h0
  have key := od_out (off := off) (l := l) h3 h1 h5 hr ho hN hp (prodN ds - 1) 0 fu (by omega) (by omega)
  rw [dot_zero, Nat.add_zero, dig_zero, ← ints_rep] at key
  refine (plb_eqG off (ints ds) (ints ss) l).trans ?_
  rw [if_pos ⟨Int.natCast_nonneg _, by rw [ints_len]; simp only [Int.ofNat_eq_natCast]; omega⟩, Option.bind_some, show (Int.ofNat (ints ds).length).toNat = ds.length from by rw [ints_len]; rfl]
  refine Eq.trans ?_ key
  kernel_rfl
end
end Go.Proofs.XGT
namespace Go.Proofs.XGT
open Go.Vm Go
set_option maxRecDepth 100000
set_option maxHeartbeats 4000000
def farB (s : Int) : Bool := bif decide (s < 0) then true else decide (s > 65536)
theorem far_eq (s : Int) : runC g4 Tryz.f106 4 [] [I s] [] ah =
  bif decide (s < 0) then some (AEnd.ret [B true], [])
  else some (AEnd.ret [B (decide (s > 65536))], []) := by kernel_rfl
def farF : List AV → LHp → Option (AEnd × LHp)
  | [.d (.int .i64) s], [] => some (.ret [B (farB s)], [])
  | _, _ => none
theorem far_run (s : Int) : runC g4 Tryz.f106 4 [] [I s] [] ah = some (.ret [B (farB s)], []) := by
  rw [far_eq]
  unfold farB
  cases decide (s < 0) <;> rfl
theorem farE_ok : FnE.OK e0.P e0.gam 106 (fnE farF) := by
  refine fnC_ok g4_good hmix Tryz.func106 Tryz.call106 (depth := 4) (live := []) (by decide +kernel) rfl fun args hs p h => ?_
  unfold farF at h
  split at h
  · cases h
    exact far_run _
  · cases h
noncomputable def C_ixf : Code := codeOf Tryz.f128
noncomputable def cf_ixf : Cfg := ⟨19, 5, 1, [(2, [0, 1, 7, 8])], true⟩
noncomputable def gIx : Env := g7.add 106 (fnE farF)
theorem gIx_good : gIx.Good := g7_good.add farE_ok
def hpSs (xs : List Int) : LHp := [(0, .arr 3 i64T 0 false xs)]
theorem ixf_eqH (hl : Hl) (xs : List Int) : runH gIx Tryz.f128 5 [(2, [0, 1, 7, 8])] [2] hl [.os 0 0, .fn (.func 106) [] []] (hpSs xs) ah =
  hl (cL (cL (cR (cL (cR C_ixf))))) _ { fr := mkFr 5 [(0, AV.os 0 0), (1, AV.fn (Fn.func 106) [] []), (7, I (Int.ofNat xs.length)), (8, I 0)], hp := [(0, AObj.arr 3 (i64T) 0 false xs)], nx := 2 } (blkK 0 (seqH gIx cf_ixf [2] hl (cR (cR C_ixf)) (endC Tryz.prog 1 Tryz.f128.results.toList ah))) := by kernel_rfl
theorem ixf_eq (xs : List Int) : runC gIx Tryz.f128 5 [(2, [0, 1, 7, 8])] [.os 0 0, .fn (.func 106) [] []] (hpSs xs) ah =
  (hlp gIx cf_ixf) (cL (cL (cR (cL (cR C_ixf))))) _ { fr := mkFr 5 [(0, AV.os 0 0), (1, AV.fn (Fn.func 106) [] []), (7, I (Int.ofNat xs.length)), (8, I 0)], hp := [(0, AObj.arr 3 (i64T) 0 false xs)], nx := 2 } (blkK 0 (seqH gIx cf_ixf [2] (hlp gIx cf_ixf) (cR (cR C_ixf)) (endC Tryz.prog 1 Tryz.f128.results.toList ah))) := runH_runC.trans (ixf_eqH (hlp gIx cf_ixf) xs)
def stIx (xs : List Int) (i : Int) : LSt := ⟨mkFr 5 [(0, .os 0 0), (1, .fn (.func 106) [] []), (7, I (Int.ofNat xs.length)), (8, I i)], hpSs xs, 2⟩
theorem ixf_stepH (hl : Hl) (xs : List Int) (i : Int) (n : Nat) {R : Type} (k : AEx → LSt → Option R) : lpH gIx cf_ixf [2] hl (cL (cL (cR (cL (cR C_ixf))))) (n + 1) (stIx xs i) k =
  bif decide (i < Int.ofNat xs.length) then (idx xs i).bind fun v1 =>
      (xs[i.toNat]?).bind fun v2 =>
        bif farB v2 then k AEx.ret { fr := mkFr 5 [(0, AV.os 0 0), (1, AV.fn (Fn.func 106) [] []), (4, I i), (5, I i), (7, I (Int.ofNat xs.length)), (8, I i), (9, B true), (10, I i), (11, AV.fn (Fn.func 106) [] []), (12, AV.os 0 0), (13, I i), (14, AV.oe 0 0 i.toNat), (15, I v2), (16, B true), (17, I i)], hp := [(0, AObj.arr 3 (i64T) 0 false xs)], nx := 2 }
        else lpH gIx cf_ixf [2] hl (cL (cL (cR (cL (cR C_ixf))))) n { fr := mkFr 5 [(0, AV.os 0 0), (1, AV.fn (Fn.func 106) [] []), (7, I (Int.ofNat xs.length)), (8, I (IntKind.i64.wrap (i + 1)))], hp := [(0, AObj.arr 3 (i64T) 0 false xs)], nx := 2 } k
  else k (AEx.exit 0) { fr := mkFr 5 [(0, AV.os 0 0), (1, AV.fn (Fn.func 106) [] []), (7, I (Int.ofNat xs.length)), (8, I i), (9, B false)], hp := [(0, AObj.arr 3 (i64T) 0 false xs)], nx := 2 } := by kernel_rfl
theorem ixf_step (xs : List Int) (i : Int) (n : Nat) {R : Type} (k : AEx → LSt → Option R) : lp gIx cf_ixf (cL (cL (cR (cL (cR C_ixf))))) (n + 1) (stIx xs i) k =
  bif decide (i < Int.ofNat xs.length) then (idx xs i).bind fun v1 =>
      (xs[i.toNat]?).bind fun v2 =>
        bif farB v2 then k AEx.ret { fr := mkFr 5 [(0, AV.os 0 0), (1, AV.fn (Fn.func 106) [] []), (4, I i), (5, I i), (7, I (Int.ofNat xs.length)), (8, I i), (9, B true), (10, I i), (11, AV.fn (Fn.func 106) [] []), (12, AV.os 0 0), (13, I i), (14, AV.oe 0 0 i.toNat), (15, I v2), (16, B true), (17, I i)], hp := [(0, AObj.arr 3 (i64T) 0 false xs)], nx := 2 }
        else lp gIx cf_ixf (cL (cL (cR (cL (cR C_ixf))))) n { fr := mkFr 5 [(0, AV.os 0 0), (1, AV.fn (Fn.func 106) [] []), (7, I (Int.ofNat xs.length)), (8, I (IntKind.i64.wrap (i + 1)))], hp := [(0, AObj.arr 3 (i64T) 0 false xs)], nx := 2 } k
  else k (AEx.exit 0) { fr := mkFr 5 [(0, AV.os 0 0), (1, AV.fn (Fn.func 106) [] []), (7, I (Int.ofNat xs.length)), (8, I i), (9, B false)], hp := [(0, AObj.arr 3 (i64T) 0 false xs)], nx := 2 } := by
  have h := ixf_stepH (hlp gIx cf_ixf) xs i n k
  simp only [lpH_lp] at h
  exact h
noncomputable def IxK : AEx → LSt → Option (AEnd × LHp) := (blkK 0 (seqH gIx cf_ixf [2] (hlp gIx cf_ixf) (cR (cR C_ixf)) (endC Tryz.prog 1 Tryz.f128.results.toList ah)))
theorem ixK_exit (xs : List Int) (i : Int) : IxK (.exit 0) ⟨mkFr 5 [(0, AV.os 0 0), (1, AV.fn (Fn.func 106) [] []), (7, I (Int.ofNat xs.length)), (8, I i), (9, B false)], hpSs xs, 2⟩ = some (.ret [I (-1)], hpSs xs) := by kernel_rfl
theorem ixf_run (xs : List Int) (hl : xs.length ≤ maxLen) (h : ∀ x ∈ xs, farB x = false) : runC gIx Tryz.f128 5 [(2, [0, 1, 7, 8])] [.os 0 0, .fn (.func 106) [] []] (hpSs xs) ah = some (.ret [I (-1)], hpSs xs) := by
  refine Eq.trans (b := lp gIx cf_ixf (cL (cL (cR (cL (cR C_ixf))))) fu (stIx xs 0) IxK) ((ixf_eq xs).trans (by kernel_rfl)) ?_
  exact allP_lp (T := fun n s => lp gIx cf_ixf (cL (cL (cR (cL (cR C_ixf))))) n s IxK) (xs := xs) (st := stIx xs) (r := some (.ret [I (-1)], hpSs xs)) hl (fun i x hx hi hlt n => by
    rw [ixf_step, decide_eq_true (show (i : Int) < Int.ofNat xs.length from Int.ofNat_lt.2 hlt), hi, show xs[(i : Int).toNat]? = some x from hx]
    simp only [cond_true, Option.bind_some, h x (List.mem_of_getElem? hx), cond_false]
    rfl) (fun n => by
    rw [ixf_step, decide_eq_false (show ¬ (Int.ofNat xs.length < Int.ofNat xs.length) from Int.lt_irrefl _)]
    exact ixK_exit _ _)
def ixfT : List AV → LHp → Tq
  | [.os 0 0, .fn (.func 106) [] []], [(0, .arr 3 (.int .i64) 0 false xs)] => .br (decide (xs.length ≤ maxLen ∧ ∀ x ∈ xs, farB x = false)) (.leaf (.ret [I (-1)]) (hpSs xs)) .no
  | _, _ => .no
theorem ixfT_ok : FnE.OK e0.P e0.gam 128 (treeE ixfT) := by
  have h1 : FnE.OK e0.P e0.gam 128 (execFnC gIx Tryz.f128 5 [(2, [0, 1, 7, 8])]) := execFnC_ok gIx_good hmix Tryz.func128 Tryz.call128 (by decide +kernel) rfl
  refine ⟨fun _ _ _ => Tq.eq _ _, fun args hs ae hs' h => ?_⟩
  have h' : (ixfT args hs).run ah = some (ae, hs') := h
  clear h
  unfold ixfT at h'
  split at h'
  · obtain ⟨hb, h2⟩ := Tq.br_no h'
    obtain ⟨c1, c2⟩ := of_decide_eq_true hb
    cases h2
    exact h1.okC (ixf_run _ c1 c2)
  · cases h'
noncomputable def gCt : Env := g8.add 128 (treeE ixfT)
theorem gCt_good : gCt.Good := g8_good.add ixfT_ok
noncomputable def ctE : FnE := execFnC gCt Tryz.f97 4 []
theorem ctE_ok : FnE.OK e0.P e0.gam 97 ctE := execFnC_ok gCt_good hmix Tryz.func97 Tryz.call97 (by decide +kernel) rfl
noncomputable def gVf : Env := g180.add 97 ctE
theorem gVf_good : gVf.Good := g180_good.add ctE_ok
def hpDs (ds ss : List Int) : LHp := [(0, .arr 3 i64T 0 false ss), (1, .arr 3 i64T 0 false ds)]
theorem vfi_eq (off : Int) (ds ss : List Int) : runC gVf Tryz.f75 6 [] [vwB off 1 0] (hpDs ds ss) ah =
  bif decide (ds.length ≤ 9223372036854775807) then 
    bif countE ds == 0 then 
      bif Int.ofNat ss.length == Int.ofNat ds.length then 
        bif decide (off ≥ 0) then 
          bif decide (off < 65536) then 
            bif decide (ss.length ≤ 9223372036854775807 ∧ ∀ (x : (i64T).den), x ∈ ss → farB x = false) then some (AEnd.ret [B true], [(0, AObj.arr 3 (i64T) 0 false ss), (1, AObj.arr 3 (i64T) 0 false ds)])
            else none
          else some (AEnd.ret [B false], [(0, AObj.arr 3 (i64T) 0 false ss), (1, AObj.arr 3 (i64T) 0 false ds)])
        else some (AEnd.ret [B false], [(0, AObj.arr 3 (i64T) 0 false ss), (1, AObj.arr 3 (i64T) 0 false ds)])
      else some (AEnd.ret [B false], [(0, AObj.arr 3 (i64T) 0 false ss), (1, AObj.arr 3 (i64T) 0 false ds)])
    else some (AEnd.ret [B false], [(0, AObj.arr 3 (i64T) 0 false ss), (1, AObj.arr 3 (i64T) 0 false ds)])
  else none := by kernel_rfl
end Go.Proofs.XGT
namespace Go.Proofs.XGT
open Go.Vm Go
set_option maxRecDepth 100000
set_option maxHeartbeats 1000000
theorem runC_kw {E : Env} (hE : E.Good) {fn : Func} {depth : Nat} {live : List (Nat × List Nat)} {args : List AV} {hs hs' : LHp} {ae : AEnd} (h : runC E fn depth live args hs ah = some (ae, hs')) {R : Type} (k : AEnd → LHp → Option R) : runC E fn depth live args hs k = k ae hs' := by
  rw [runC_eq hE] at h ⊢
  cases hx : execB E fn depth live args hs with
  | none => rw [hx] at h; cases h
  | some p => rw [hx] at h; cases h; rfl
theorem plbE_eqv (args : List AV) (hs : LHp) {R : Type} (k : AEnd → LHp → Option R) : y132.run args hs k = runC g163 Tryz.f132 6 [(2, [0, 1, 3, 4]), (4, [0, 1, 3, 4, 5])] args hs k := rfl
def rd2 (off s u w v : Int) (l : List Int) : List Int := tab (w.toNat * v.toNat) (f2V l off.toNat v.toNat s.toNat u.toNat)
end Go.Proofs.XGT
namespace Go.Proofs.XGT
open Go.Vm Go
set_option maxRecDepth 100000
set_option maxHeartbeats 4000000
def okFine (off : Int) (ds ss : List Int) : Bool := decide (countE ds = 0 ∧ ss.length = ds.length ∧ 0 ≤ off ∧ off < 65536 ∧ ∀ x ∈ ss, farB x = false)
theorem vfi_run {off : Int} {ds ss : List Int} (h : okFine off ds ss = true) : runC gVf Tryz.f75 6 [] [vwB off 1 0] (hpDs ds ss) ah = some (.ret [B true], hpDs ds ss) := by
  obtain ⟨c1, c2, c3, c4, c5⟩ := of_decide_eq_true h
  obtain ⟨_, hr, _⟩ := count_ok c1
  rw [vfi_eq, decide_eq_true (show ds.length ≤ 9223372036854775807 by omega), c1, c2, decide_eq_true (show off ≥ 0 from c3), decide_eq_true c4, decide_eq_true (show ds.length ≤ 9223372036854775807 ∧ ∀ (x : (i64T).den), x ∈ ss → farB x = false from ⟨by omega, c5⟩)]
  simp only [beq_self_eq_true, cond_true]
  rfl
def vfiT : List AV → LHp → Tq
  | [.pr (.d (.int .i64) off) (.pr (.os 1 0) (.pr (.os 0 0) (.d .unit ())))], [(0, .arr 3 (.int .i64) 0 false ss), (1, .arr 3 (.int .i64) 0 false ds)] => .br (okFine off ds ss) (.leaf (.ret [B true]) (hpDs ds ss)) .no
  | _, _ => .no
theorem vfiT_ok : FnE.OK e0.P e0.gam 75 (treeE vfiT) := by
  have h1 : FnE.OK e0.P e0.gam 75 (execFnC gVf Tryz.f75 6 []) := execFnC_ok gVf_good hmix Tryz.func75 Tryz.call75 (by decide +kernel) rfl
  refine ⟨fun _ _ _ => Tq.eq _ _, fun args hs ae hs' h => ?_⟩
  have h' : (vfiT args hs).run ah = some (ae, hs') := h
  clear h
  unfold vfiT at h'
  split at h'
  · obtain ⟨hb, h2⟩ := Tq.br_no h'
    cases h2
    exact h1.okC (vfi_run hb)
  · cases h'
noncomputable def gVr (F : FnE) : Env := (g184.add 132 F).add 75 (treeE vfiT)
theorem gVr_good : (gVr y132).Good := (g184_good.add y132_ok).add vfiT_ok
theorem rbr_eqH (hl : Hl) (F : FnE) (off : Int) (ds ss l : List Int) : runQ (gVr F) Tryz.f79 5 [(5, [0, 1, 2, 3, 4, 5, 6, 14, 15, 16, 17, 18, 19, 20, 21, 22, 23, 24])] hl [vwB off 1 0, .d (.slice i64T) l] (hpDs ds ss) ah =
  bif okFine off ds ss then hl (cL (cR (cL (cR (cR (cR C_reb)))))) _ { fr := mkFr 5 [(0, (I off).pr ((AV.os 1 0).pr ((AV.os 0 0).pr (AV.d Ty.unit PUnit.unit)))), (1, AV.d (i64T).slice l), (2, AV.op 2 [] 0), (3, AV.op 3 [] 0), (4, AV.op 4 [] 0), (5, AV.op 5 [] 0), (6, AV.op 8 [] 0), (8, (I off).pr ((AV.os 1 0).pr ((AV.os 0 0).pr (AV.d Ty.unit PUnit.unit)))), (9, B true), (10, B false), (11, (I off).pr ((AV.os 1 0).pr ((AV.os 0 0).pr (AV.d Ty.unit PUnit.unit)))), (12, AV.fn (Fn.func 132) [] [AV.op 9 [] 0])], hp := [(0, AObj.arr 3 (i64T) 0 false ss), (1, AObj.arr 3 (i64T) 0 false ds), (9, AObj.box ((I off).pr ((AV.os 1 0).pr ((AV.os 0 0).pr (AV.d Ty.unit PUnit.unit))))), (8, AObj.box AV.nils), (0, AObj.arr 3 (i64T) 0 false ss), (1, AObj.arr 3 (i64T) 0 false ds), (5, AObj.box (I 0)), (4, AObj.box AV.nils), (3, AObj.box (AV.d (i64T).slice l)), (2, AObj.box ((I off).pr ((AV.os 1 0).pr ((AV.os 0 0).pr (AV.d Ty.unit PUnit.unit))))), (0, AObj.arr 3 (i64T) 0 false ss), (1, AObj.arr 3 (i64T) 0 false ds)], nx := 12 } (blkK 0 (seqQ (gVr F) cf_reb hl (cR (cR (cR (cR C_reb)))) (endC Tryz.prog 2 Tryz.f79.results.toList ah)))
  else none := by kernel_rfl
theorem rbr_eq (F : FnE) (off : Int) (ds ss l : List Int) : runC (gVr F) Tryz.f79 5 [(5, [0, 1, 2, 3, 4, 5, 6, 14, 15, 16, 17, 18, 19, 20, 21, 22, 23, 24])] [vwB off 1 0, .d (.slice i64T) l] (hpDs ds ss) ah =
  bif okFine off ds ss then (rfp (gVr F) cf_reb) (cL (cR (cL (cR (cR (cR C_reb)))))) _ { fr := mkFr 5 [(0, (I off).pr ((AV.os 1 0).pr ((AV.os 0 0).pr (AV.d Ty.unit PUnit.unit)))), (1, AV.d (i64T).slice l), (2, AV.op 2 [] 0), (3, AV.op 3 [] 0), (4, AV.op 4 [] 0), (5, AV.op 5 [] 0), (6, AV.op 8 [] 0), (8, (I off).pr ((AV.os 1 0).pr ((AV.os 0 0).pr (AV.d Ty.unit PUnit.unit)))), (9, B true), (10, B false), (11, (I off).pr ((AV.os 1 0).pr ((AV.os 0 0).pr (AV.d Ty.unit PUnit.unit)))), (12, AV.fn (Fn.func 132) [] [AV.op 9 [] 0])], hp := [(0, AObj.arr 3 (i64T) 0 false ss), (1, AObj.arr 3 (i64T) 0 false ds), (9, AObj.box ((I off).pr ((AV.os 1 0).pr ((AV.os 0 0).pr (AV.d Ty.unit PUnit.unit))))), (8, AObj.box AV.nils), (0, AObj.arr 3 (i64T) 0 false ss), (1, AObj.arr 3 (i64T) 0 false ds), (5, AObj.box (I 0)), (4, AObj.box AV.nils), (3, AObj.box (AV.d (i64T).slice l)), (2, AObj.box ((I off).pr ((AV.os 1 0).pr ((AV.os 0 0).pr (AV.d Ty.unit PUnit.unit))))), (0, AObj.arr 3 (i64T) 0 false ss), (1, AObj.arr 3 (i64T) 0 false ds)], nx := 12 } (blkK 0 (seqQ (gVr F) cf_reb (rfp (gVr F) cf_reb) (cR (cR (cR (cR C_reb)))) (endC Tryz.prog 2 Tryz.f79.results.toList ah)))
  else none := runQ_runC.trans (rbr_eqH (rfp (gVr F) cf_reb) F off ds ss l)
theorem rbr_rf (F : FnE) (off : Int) (ds ss l : List Int) (k : AEx → LSt → Option (AEnd × LHp)) : exC (gVr F) cf_reb (cL (cR (cL (cR (cR (cR C_reb)))))) ⟨frVb off l, hpVb off ds ss l, 12⟩ k =
    F.run [.ref 8, .op 0 [] 0] (hpYb off ds ss l .nils) (callK [9, 8, 5, 4, 3, 2, 0, 1, 12] (hpVb2 off ds ss l) 13 (rfK (frVb off l) (hpVb2 off ds ss l) 12 k) (rfP (frVb off l) (hpVb2 off ds ss l) 12 k)) := by kernel_rfl
noncomputable def RKr (F : FnE) : AEx → LSt → Option (AEnd × LHp) := blkK 0 (seqQ (gVr F) cf_reb (rfp (gVr F) cf_reb) (cR (cR (cR (cR C_reb)))) (endC Tryz.prog 2 Tryz.f79.results.toList ah))
theorem rbr_fin (F : FnE) (off : Int) (ds ss l out : List Int) : callK [9, 8, 5, 4, 3, 2, 0, 1, 12] (hpVb2 off ds ss l) 13 (rfK (frVb off l) (hpVb2 off ds ss l) 12 (RKr F)) (rfP (frVb off l) (hpVb2 off ds ss l) 12 (RKr F)) (.ret []) (hpYbW off ds ss l out) =
  some (AEnd.ret [AV.os 2 0, I 0], [(0, AObj.arr 3 (i64T) 0 false ss), (1, AObj.arr 3 (i64T) 0 false ds), (2, AObj.arr 2 (i64T) 0 false out)]) := by kernel_rfl
end Go.Proofs.XGT
namespace Go.Proofs.XGT
open Go.Vm Go
set_option maxRecDepth 100000
set_option maxHeartbeats 1000000
theorem rbr_go (F : FnE) (off : Int) (ds ss l out : List Int) (h : ∀ (k : AEnd → LHp → Option (AEnd × LHp)), F.run [.ref 8, .op 0 [] 0] (hpYb off ds ss l .nils) k = k (.ret []) (hpYbW off ds ss l out)) :
    exC (gVr F) cf_reb (cL (cR (cL (cR (cR (cR C_reb)))))) ⟨frVb off l, hpVb off ds ss l, 12⟩ (RKr F) = some (.ret [.os 2 0, I 0], [(0, .arr 3 i64T 0 false ss), (1, .arr 3 i64T 0 false ds), (2, .arr 2 i64T 0 false out)]) := by
  rw [rbr_rf, h, rbr_fin]
theorem foldl_ints : ∀ (ds : List Nat) (a : Int), (ints ds).foldl (· * ·) a = a * (prodN ds : Nat)
  | [], a => by show a = a * ((1 : Nat) : Int); rw [Int.natCast_one, Int.mul_one]
  | d :: r, a => by
    show (ints r).foldl (· * ·) (a * (d : Int)) = a * ((d * prodN r : Nat) : Int)
    rw [foldl_ints r, Int.mul_assoc, Int.natCast_mul]
theorem prodI_ints (ds : List Nat) : prodI (ints ds) = (prodN ds : Nat) := by
  unfold prodI
  rw [foldl_ints, Int.one_mul]
theorem ints_nat : ∀ {xs : List Int}, (∀ x ∈ xs, 0 ≤ x) → ints (xs.map Int.toNat) = xs
  | [], _ => rfl
  | x :: r, h => by
    show ((x.toNat : Nat) : Int) :: ints (r.map Int.toNat) = x :: r
    rw [ints_nat fun y hy => h y (by simp [hy]), Int.toNat_of_nonneg (h x (by simp))]
theorem far_ok {s : Int} (h : farB s = false) : 0 ≤ s ∧ s ≤ 65536 := by
  unfold farB at h
  by_cases h1 : s < 0
  · rw [decide_eq_true h1] at h; cases h
  · rw [decide_eq_false h1] at h
    have := of_decide_eq_false h
    omega
/-- every number that the view shows is there -/
def inL (off : Int) (ds ss : List Int) (l : List Int) : Bool := decide (∀ q, q < prodN (ds.map Int.toNat) → off.toNat + dot (dig (ds.map Int.toNat) q) (ss.map Int.toNat) < l.length)
def okRG (off : Int) (ds ss l : List Int) : Bool := okFine off ds ss && inL off ds ss l
def rdG (off : Int) (ds ss l : List Int) : List Int := vwL off.toNat (ds.map Int.toNat) (ss.map Int.toNat) l
theorem le_prodN {ds : List Nat} (h : ∀ d ∈ ds, 1 ≤ d) : ∀ d ∈ ds, d ≤ prodN ds := by
  induction ds with
  | nil => intro d hd; cases hd
  | cons a r ih =>
    intro d hd
    have h1 := h a (by simp)
    have h2 : ∀ x ∈ r, 1 ≤ x := fun x hx => h x (by simp [hx])
    have h3 := prodN_pos h2
    rcases List.mem_cons.1 hd with rfl | hd
    · exact Nat.le_mul_of_pos_right _ h3
    · exact Nat.le_trans (ih h2 d hd) (Nat.le_mul_of_pos_left _ h1)
theorem rbr_run {off : Int} {ds ss l : List Int} (h : okRG off ds ss l = true) : runC (gVr y132) Tryz.f79 5 [(5, [0, 1, 2, 3, 4, 5, 6, 14, 15, 16, 17, 18, 19, 20, 21, 22, 23, 24])] [vwB off 1 0, .d (.slice i64T) l] (hpDs ds ss) ah = some (.ret [.os 2 0, I 0], [(0, .arr 3 i64T 0 false ss), (1, .arr 3 i64T 0 false ds), (2, .arr 2 i64T 0 false (rdG off ds ss l))]) := by
  unfold okRG at h
  simp only [Bool.and_eq_true] at h
  obtain ⟨hf, hi⟩ := h
  obtain ⟨c1, c2, c3, c4, c5⟩ := of_decide_eq_true hf
  have hi := of_decide_eq_true hi
  obtain ⟨p1, p2, p3, _⟩ := count_ok c1
  have ed : ints (ds.map Int.toNat) = ds := ints_nat fun x hx => by have := p1 x hx; omega
  have es : ints (ss.map Int.toNat) = ss := ints_nat fun x hx => (far_ok (c5 x hx)).1
  have eo : ((off.toNat : Nat) : Int) = off := Int.toNat_of_nonneg c3
  have d1 : ∀ d ∈ ds.map Int.toNat, 1 ≤ d := fun d hd => by
    obtain ⟨x, hx, rfl⟩ := List.mem_map.1 hd
    have := p1 x hx
    omega
  have hN : prodN (ds.map Int.toNat) ≤ 65536 := by
    have e := prodI_ints (ds.map Int.toNat)
    rw [ed] at e
    omega
  have s1 : ∀ s ∈ ss.map Int.toNat, s ≤ 65536 := fun s hs => by
    obtain ⟨x, hx, rfl⟩ := List.mem_map.1 hs
    have := far_ok (c5 x hx)
    omega
  have key := plbG_run (off := off.toNat) (l := l) (ds := ds.map Int.toNat) (ss := ss.map Int.toNat) (by rw [List.length_map, List.length_map]; exact c2) d1 (fun d hd => Nat.le_trans (le_prodN d1 d hd) hN) s1 (by rw [List.length_map]; exact p2) (by omega) hN hi
  rw [ed, es, eo] at key
  refine Eq.trans (b := exC (gVr y132) cf_reb (cL (cR (cL (cR (cR (cR C_reb)))))) ⟨frVb off l, hpVb off ds ss l, 12⟩ (RKr y132)) ((rbr_eq y132 off ds ss l).trans (by rw [hf, cond_true]; kernel_rfl)) ?_
  exact rbr_go _ _ _ _ _ _ fun k => (plbE_eqv _ _ k).trans (runC_kw g163_good key k)
def reaG : List AV → LHp → Tq
  | [.pr (.d (.int .i64) off) (.pr (.os 1 0) (.pr (.os 0 0) (.d .unit ()))), .d (.slice (.int .i64)) l], [(0, .arr 3 (.int .i64) 0 false ss), (1, .arr 3 (.int .i64) 0 false ds)] =>
    .br (okRG off ds ss l) (.leaf (.ret [.os 2 0, I 0]) [(0, .arr 3 i64T 0 false ss), (1, .arr 3 i64T 0 false ds), (2, .arr 2 i64T 0 false (rdG off ds ss l))]) .no
  | _, _ => .no
theorem reaG_ok : FnE.OK e0.P e0.gam 79 (treeE reaG) := by
  have h1 : FnE.OK e0.P e0.gam 79 (execFnC (gVr y132) Tryz.f79 5 [(5, [0, 1, 2, 3, 4, 5, 6, 14, 15, 16, 17, 18, 19, 20, 21, 22, 23, 24])]) := execFnC_ok gVr_good hmix Tryz.func79 Tryz.call79 (by decide +kernel) rfl
  refine ⟨fun _ _ _ => Tq.eq _ _, fun args hs ae hs' h => ?_⟩
  have h' : (reaG args hs).run ah = some (ae, hs') := h
  clear h
  unfold reaG at h'
  split at h'
  · obtain ⟨hb, h2⟩ := Tq.br_no h'
    cases h2
    exact h1.okC (rbr_run hb)
  · cases h'
end Go.Proofs.XGT
namespace Go.Proofs.XGT
open Go.Vm Go
set_option maxRecDepth 100000
set_option maxHeartbeats 1000000
/-- the strides of dims, row by row -/
def strN : List Nat → List Nat
  | [] => []
  | _ :: r => prodN r :: strN r
theorem strN_len : ∀ (ds : List Nat), (strN ds).length = ds.length
  | [] => rfl
  | _ :: r => by simp only [strN, List.length_cons, strN_len r]
theorem prodN_app : ∀ (a b : List Nat), prodN (a ++ b) = prodN a * prodN b
  | [], b => by show prodN b = 1 * prodN b; rw [Nat.one_mul]
  | x :: r, b => by show x * prodN (r ++ b) = x * prodN r * prodN b; rw [prodN_app r b, Nat.mul_assoc]
theorem prodN_last {a b : List Nat} (h : ∀ x ∈ a, 1 ≤ x) : prodN b ≤ prodN (a ++ b) := by
  rw [prodN_app]
  exact Nat.le_mul_of_pos_left _ (prodN_pos h)
def strI (d : List Int) : List Int := ints (strN (d.map Int.toNat))
theorem sst_lp {D : List Nat} (hD : ∀ x ∈ D, 1 ≤ x) (hP : prodN D ≤ 65536) (hl : D.length ≤ 6) : ∀ (r : Nat) (Dp Dr : List Nat) (n : Nat), Dp.length = r → D = Dp ++ Dr → r < n →
    lp g156 cf_sst (cL (cL (cR (cL (cR (cR (cR (cR C_sst)))))))) n (stSs (ints D) (List.replicate r (0 : Int) ++ ints (strN Dr)) (prodN Dr : Nat) (Dr.length : Nat)) KSs = some (.ret [.os 0 0, I 0], [(0, .arr 3 i64T 0 false (ints (strN D)))]) := by
  intro r
  induction r with
  | zero =>
    intro Dp Dr n h1 h2 hn
    obtain ⟨n, rfl⟩ : ∃ m', n = m' + 1 := ⟨n - 1, by omega⟩
    cases Dp with
    | cons _ _ => cases h1
    | nil =>
      simp only [List.nil_append] at h2
      subst h2
      rw [sst_st, decide_eq_false (show ¬ (((D.length : Nat) : Int) < Int.ofNat (ints D).length) by rw [ints_len]; exact Int.lt_irrefl _), cond_false]
      exact sst_ex _ _ _ _
  | succ r ih =>
    intro Dp Dr n h1 h2 hn
    obtain ⟨n, rfl⟩ : ∃ m', n = m' + 1 := ⟨n - 1, by omega⟩
    rcases List.eq_nil_or_concat Dp with h0 | ⟨Dq, d, h0⟩
    · subst h0; cases h1
    · subst h0
      have hq : Dq.length = r := by simp at h1; exact h1
      have hDl : D.length = r + 1 + Dr.length := by rw [h2]; simp [hq]; omega
      have e2 : D = Dq ++ d :: Dr := by rw [h2]; simp
      have w0 : IntKind.i64.wrap (Int.ofNat (ints D).length - 1) = (r : Int) + Dr.length := by
        rw [ints_len, wrap64 (by simp only [Int.ofNat_eq_natCast]; omega) (by simp only [Int.ofNat_eq_natCast]; omega)]
        simp only [Int.ofNat_eq_natCast]
        omega
      have w1 : IntKind.i64.wrap (IntKind.i64.wrap (Int.ofNat (ints D).length - 1) - (Dr.length : Int)) = Int.ofNat r := by
        rw [w0, wrap64 (by omega) (by omega)]
        simp only [Int.ofNat_eq_natCast]
        omega
      have hlt : ((Dr.length : Nat) : Int) < Int.ofNat (ints D).length := by rw [ints_len]; simp only [Int.ofNat_eq_natCast]; omega
      have er : List.replicate (r + 1) (0 : Int) ++ ints (strN Dr) = List.replicate r (0 : Int) ++ (0 : Int) :: ints (strN Dr) := by
        rw [List.replicate_succ', List.append_assoc]
        rfl
      have g1 : idx (List.replicate r (0 : Int) ++ (0 : Int) :: ints (strN Dr)) (Int.ofNat r) = some 0 := by
        have := mid_idx (xs := List.replicate r (0 : Int)) (zs := ints (strN Dr)) (y := 0)
        rw [List.length_replicate] at this
        exact this
      have g2 : setN (List.replicate r (0 : Int) ++ (0 : Int) :: ints (strN Dr)) (Int.ofNat r).toNat (prodN Dr : Nat) = some (List.replicate r (0 : Int) ++ ints (strN (d :: Dr))) := by
        have := mid_set (xs := List.replicate r (0 : Int)) (zs := ints (strN Dr)) (y := 0) (v := ((prodN Dr : Nat) : Int))
        rw [List.length_replicate] at this
        exact this
      have g3 : idx (ints D) (Int.ofNat r) = some (d : Int) := by
        have := mid_idx (xs := ints Dq) (zs := ints Dr) (y := (d : Int))
        rw [ints_len, hq] at this
        rw [e2, show ints (Dq ++ d :: Dr) = ints Dq ++ (d : Int) :: ints Dr by unfold ints; rw [List.map_append, List.map_cons]]
        exact this
      have hpd : prodN (d :: Dr) ≤ 65536 := by
        refine Nat.le_trans ?_ hP
        rw [e2]
        exact prodN_last fun x hx => hD x (by rw [e2]; simp [hx])
      have hpd' : d * prodN Dr ≤ 65536 := hpd
      have w2 : IntKind.i64.wrap (((prodN Dr : Nat) : Int) * (d : Int)) = ((prodN (d :: Dr) : Nat) : Int) := by
        rw [← Int.natCast_mul, show prodN (d :: Dr) = d * prodN Dr from rfl, Nat.mul_comm, wrap64 (by omega) (by omega)]
      have w3 : IntKind.i64.wrap ((Dr.length : Int) + 1) = (((d :: Dr).length : Nat) : Int) := by
        rw [wrap64 (by omega) (by omega), List.length_cons]
        omega
      rw [sst_st, decide_eq_true hlt, cond_true, w1, er, g1, Option.bind_some, g2, Option.bind_some, g3, Option.bind_some, w2, w3]
      exact ih Dq (d :: Dr) n hq e2 (by omega)
theorem nat_dims {d : List Int} (h : countE d = 0) : ∃ D : List Nat, d = ints D ∧ D = d.map Int.toNat ∧ (∀ x ∈ D, 1 ≤ x) ∧ prodN D ≤ 65536 ∧ D.length ≤ 6 := by
  obtain ⟨p1, p2, p3, _⟩ := count_ok h
  have ed : ints (d.map Int.toNat) = d := ints_nat fun x hx => by have := p1 x hx; omega
  refine ⟨d.map Int.toNat, ed.symm, rfl, fun x hx => ?_, ?_, by rw [List.length_map]; exact p2⟩
  · obtain ⟨y, hy, rfl⟩ := List.mem_map.1 hx
    have := p1 y hy
    omega
  · have e := prodI_ints (d.map Int.toNat)
    rw [ed] at e
    omega
theorem sst_run {d : List Int} (hl : d.length ≤ maxLen) : runC g156 Tryz.f85 6 [(7, [0, 6, 7, 22, 23])] [.d (.slice i64T) d] [] ah =
    bif countE d != 0 then some (.ret [.nils, I (countE d)], []) else some (.ret [.os 0 0, I 0], [(0, .arr 3 i64T 0 false (strI d))]) := by
  refine (sst_eq d).trans ?_
  rw [decide_eq_true (show d.length ≤ 9223372036854775807 from hl), cond_true]
  cases hc : countE d != 0 with
  | true => rfl
  | false =>
    have h0 : countE d = 0 := by simpa using hc
    obtain ⟨D, rfl, eD, h1, h2, h3⟩ := nat_dims h0
    have hf : fu = 18446744073709551616 := rfl
    rw [cond_false, cond_false, if_pos (show 0 ≤ Int.ofNat (ints D).length ∧ Int.ofNat (ints D).length ≤ 4294967296 by rw [ints_len]; simp only [Int.ofNat_eq_natCast]; omega), Option.bind_some]
    have key := sst_lp h1 h2 h3 D.length D [] fu rfl (by simp) (by omega)
    rw [show (strN ([] : List Nat)) = [] from rfl, show ints [] = [] from rfl, List.append_nil] at key
    unfold strI
    rw [← eD, show (Int.ofNat (ints D).length).toNat = D.length by rw [ints_len]; rfl]
    exact key
def sstT : List AV → LHp → Tq
  | [.d (.slice (.int .i64)) d], [] => .br (decide (d.length ≤ maxLen)) (.br (countE d != 0) (.leaf (.ret [.nils, I (countE d)]) []) (.leaf (.ret [.os 0 0, I 0]) [(0, .arr 3 i64T 0 false (strI d))])) .no
  | _, _ => .no
theorem sstT_ok : FnE.OK e0.P e0.gam 85 (treeE sstT) := by
  have h1 : FnE.OK e0.P e0.gam 85 (execFnC g156 Tryz.f85 6 [(7, [0, 6, 7, 22, 23])]) := y85_ok
  refine ⟨fun _ _ _ => Tq.eq _ _, fun args hs ae hs' h => ?_⟩
  have h' : (sstT args hs).run ah = some (ae, hs') := h
  clear h
  unfold sstT at h'
  split at h'
  · obtain ⟨hl, h2⟩ := Tq.br_no h'
    exact h1.okC ((sst_run (of_decide_eq_true hl)).trans h2)
  · cases h'
end Go.Proofs.XGT
namespace Go.Proofs.XGT
open Go.Vm Go
set_option maxRecDepth 100000
set_option maxHeartbeats 4000000
theorem cln_eq (a : Int) (d : List Int) : runC g92 Tryz.f96 4 [] [.d (.slice i64T) (a :: d)] [] ah =
  (app [] (a :: d)).bind fun v0 =>
    some (AEnd.ret [AV.os 0 0], [(0, AObj.arr 3 (i64T) 0 false v0)]) := by kernel_rfl
theorem clo_eq (a : Int) (d : List Int) (z : Bool) : runC g92 Tryz.f96 4 [] [.os 0 0] [(0, .arr 3 i64T 0 z (a :: d))] ah =
  (app [] (a :: d)).bind fun v0 =>
    some (AEnd.ret [AV.os 1 0], [(0, AObj.arr 3 (i64T) 0 z (a :: d)), (1, AObj.arr 3 (i64T) 0 false v0)]) := by kernel_rfl
def clnT : List AV → LHp → Tq
  | [.d (.slice (.int .i64)) xs], [] => .br (decide (xs ≠ [] ∧ xs.length ≤ 65536)) (.leaf (.ret [.os 0 0]) [(0, .arr 3 i64T 0 false xs)]) .no
  | [.os 0 0], [(0, .arr 3 (.int .i64) 0 z xs)] => .br (decide (xs ≠ [] ∧ xs.length ≤ 65536)) (.leaf (.ret [.os 1 0]) [(0, .arr 3 i64T 0 z xs), (1, .arr 3 i64T 0 false xs)]) .no
  | _, _ => .no
theorem app_ok {xs : List Int} (h : xs.length ≤ 65536) : app [] xs = some xs := app_eq (by simp only [List.length_nil, lim]; omega)
theorem clnT_ok : FnE.OK e0.P e0.gam 96 (treeE clnT) := by
  have h2 : FnE.OK e0.P e0.gam 96 (execFnC g92 Tryz.f96 4 []) := execFnC_ok g92_good hmix Tryz.func96 Tryz.call96 (by decide +kernel) rfl
  refine ⟨fun _ _ _ => Tq.eq _ _, fun args hs ae hs' h => ?_⟩
  have h' : (clnT args hs).run ah = some (ae, hs') := h
  clear h
  unfold clnT at h'
  split at h'
  · rename_i xs
    obtain ⟨hb, h3⟩ := Tq.br_no h'
    obtain ⟨c1, c2⟩ := of_decide_eq_true hb
    cases xs with
    | nil => exact absurd rfl c1
    | cons a d => exact h2.okC ((cln_eq a d).trans (Eq.trans (by rw [app_ok c2]; rfl) h3))
  · rename_i z xs
    obtain ⟨hb, h3⟩ := Tq.br_no h'
    obtain ⟨c1, c2⟩ := of_decide_eq_true hb
    cases xs with
    | nil => exact absurd rfl c1
    | cons a d => exact h2.okC ((clo_eq a d z).trans (Eq.trans (by rw [app_ok c2]; rfl) h3))
  · cases h'
noncomputable def clE : FnE := treeElse clnT y96
theorem clE_ok : FnE.OK e0.P e0.gam 96 clE := treeElse_ok clnT_ok y96_ok
/-- a start or an end as a place in a dimension -/
def bndI (k r : Int) : Int := bif decide (k < 0) then (if (if r < IntKind.i64.wrap (k + r) then r else IntKind.i64.wrap (k + r)) > 0 then if r < IntKind.i64.wrap (k + r) then r else IntKind.i64.wrap (k + r) else 0) else (if (if r < k then r else k) > 0 then if r < k then r else k else 0)
theorem bnd_eq (k r : Int) : runC g115 Tryz.f187 4 [] [I k, I r] [] ah =
  bif decide (k < 0) then some (AEnd.ret [I (if (if r < IntKind.i64.wrap (k + r) then r else IntKind.i64.wrap (k + r)) > 0 then if r < IntKind.i64.wrap (k + r) then r else IntKind.i64.wrap (k + r) else 0)], [])
  else some (AEnd.ret [I (if (if r < k then r else k) > 0 then if r < k then r else k else 0)], []) := by kernel_rfl
def bndT : List AV → LHp → Tq
  | [.d (.int .i64) k, .d (.int .i64) r], [] => .leaf (.ret [I (bndI k r)]) []
  | _, _ => .no
theorem bndT_ok : FnE.OK e0.P e0.gam 187 (treeE bndT) := by
  have h2 : FnE.OK e0.P e0.gam 187 (execFnC g115 Tryz.f187 4 []) := execFnC_ok g115_good hmix Tryz.func187 Tryz.call187 (by decide +kernel) rfl
  refine ⟨fun _ _ _ => Tq.eq _ _, fun args hs ae hs' h => ?_⟩
  have h' : (bndT args hs).run ah = some (ae, hs') := h
  clear h
  unfold bndT at h'
  split at h'
  · rename_i k r
    refine h2.okC ((bnd_eq k r).trans (Eq.trans ?_ h'))
    unfold bndI
    cases decide (k < 0) <;> rfl
  · cases h'
def axB (k r : Int) : Bool := decide (IntKind.i64.wrap (0 - r) ≤ k) && decide (k < r)
def axV (k r : Int) : Int := bif decide (k < 0) then IntKind.i64.wrap (k + r) else k
theorem axi_eq (k r : Int) : runC g95 Tryz.f121 5 [] [I k, I r] [] ah =
  bif decide (IntKind.i64.wrap (0 - r) ≤ k) then 
    bif !decide (k < r) then some (AEnd.panic 123 4, [])
    else 
      bif decide (k < 0) then some (AEnd.ret [I (IntKind.i64.wrap (k + r))], [])
      else some (AEnd.ret [I k], [])
  else some (AEnd.panic 123 4, []) := by kernel_rfl
def axiT : List AV → LHp → Tq
  | [.d (.int .i64) k, .d (.int .i64) r], [] => .br (axB k r) (.leaf (.ret [I (axV k r)]) []) (.leaf (.panic 123 4) [])
  | _, _ => .no
theorem axiT_ok : FnE.OK e0.P e0.gam 121 (treeE axiT) := by
  have h2 : FnE.OK e0.P e0.gam 121 (execFnC g95 Tryz.f121 5 []) := execFnC_ok g95_good hmix Tryz.func121 Tryz.call121 (by decide +kernel) rfl
  refine ⟨fun _ _ _ => Tq.eq _ _, fun args hs ae hs' h => ?_⟩
  have h' : (axiT args hs).run ah = some (ae, hs') := h
  clear h
  unfold axiT at h'
  split at h'
  · rename_i k r
    refine h2.okC ((axi_eq k r).trans (Eq.trans ?_ h'))
    unfold axB axV
    simp only [Tq.run]
    cases decide (IntKind.i64.wrap (0 - r) ≤ k) with
    | false => rfl
    | true =>
      cases decide (k < r) with
      | false => rfl
      | true => cases decide (k < 0) <;> rfl
  · cases h'
noncomputable def axE : FnE := execFnC (g101.add 121 (treeE axiT)) Tryz.f156 5 [(3, [1, 5, 9, 10, 11])]
theorem axE_ok : FnE.OK e0.P e0.gam 156 axE := execFnC_ok (g101_good.add axiT_ok) hmix Tryz.func156 Tryz.call156 (by decide +kernel) rfl
noncomputable def mkS : FnE := execFnC (((g116.add 96 clE).add 156 axE).add 187 (treeE bndT)) Tryz.f164 7 [(6, [1, 5, 6, 8, 41, 42, 43])]
theorem mkS_ok : FnE.OK e0.P e0.gam 164 mkS := execFnC_ok (((g116_good.add clE_ok).add axE_ok).add bndT_ok) hmix Tryz.func164 Tryz.call164 (by decide +kernel) rfl
noncomputable def mvS : FnE := execFnC (g149.add 164 mkS) Tryz.f127 7 []
theorem mvS_ok : FnE.OK e0.P e0.gam 127 mvS := execFnC_ok (g149_good.add mkS_ok) hmix Tryz.func127 Tryz.call127 (by decide +kernel) rfl
noncomputable def dmS : FnE := execFnC (g150.add 127 mvS) Tryz.f94 8 [(56, [3, 132, 133, 134])]
theorem dmS_ok : FnE.OK e0.P e0.gam 94 dmS := execFnC_ok (g150_good.add mvS_ok) hmix Tryz.func94 Tryz.call94 (by decide +kernel) rfl
noncomputable def ouS : FnE := execFnDC ((g152.add 94 dmS).add 96 clE) Tryz.f55 7 [(5, [1, 2, 4, 5, 26, 27, 28])] dd55
theorem ouS_ok : FnE.OK e0.P e0.gam 55 ouS := execFnDC_ok ((g152_good.add dmS_ok).add clE_ok) (execFnD_ok (D := dd55) ((g152_good.add dmS_ok).add clE_ok) hmix Tryz.func55 Tryz.call55 rfl rfl (by decide +kernel) rfl Tryz.func89 Tryz.call89 rfl rfl (by decide +kernel))
def at3 (s e k : Int) : List (Y1).den := [lattr strStarts [s], lattr strEnds [e], lattr strAxes [k]]
noncomputable def gSb : Env := g212.add 55 ouS
theorem gSb_good : gSb.Good := g212_good.add ouS_ok
theorem sb_eq (t s e k : Int) (d x : List Int) : runC gSb Tryz.f42 6 [(3, [2, 4, 6, 9, 10, 11])] [nodeA strSL [] [121] (.os 2 0) (.os 1 0), .os 0 0] (hpTb false t d x (at3 s e k)) ah =
  bif decide (d.length ≤ 9223372036854775807 ∧ x.length ≤ 9223372036854775807) then 
    bif tenE t d x != 0 then some (AEnd.ret [(AV.d Ty.str []).pr ((I 0).pr (AV.nils.pr (AV.d Ty.unit PUnit.unit))), I 1], [(0, AObj.arr 25 ((i64T).pair ((i64T).slice.pair ((i64T).slice.pair Ty.unit))) 0 false [(t, d, x, PUnit.unit)]), (1, AObj.arr 37 (Ty.str.pair ((i64T).pair ((i64T).pair ((i64T).pair (Ty.str.pair (((i64T).pair ((i64T).slice.pair ((i64T).slice.pair Ty.unit))).pair ((i64T).slice.pair Ty.unit))))))) 0 false [([115, 116, 97, 114, 116, 115], 7, 0, 0, [], (0, [], [], PUnit.unit), [s], PUnit.unit), ([101, 110, 100, 115], 7, 0, 0, [], (0, [], [], PUnit.unit), [e], PUnit.unit), ([97, 120, 101, 115], 7, 0, 0, [], (0, [], [], PUnit.unit), [k], PUnit.unit)]), (2, AObj.arr 9 Ty.str 0 false [[120]])])
    else 
      bif !numOk t 0 then some (AEnd.ret [(AV.d Ty.str []).pr ((I 0).pr (AV.nils.pr (AV.d Ty.unit PUnit.unit))), I 5], [(0, AObj.arr 25 ((i64T).pair ((i64T).slice.pair ((i64T).slice.pair Ty.unit))) 0 false [(t, d, x, PUnit.unit)]), (1, AObj.arr 37 (Ty.str.pair ((i64T).pair ((i64T).pair ((i64T).pair (Ty.str.pair (((i64T).pair ((i64T).slice.pair ((i64T).slice.pair Ty.unit))).pair ((i64T).slice.pair Ty.unit))))))) 0 true [([115, 116, 97, 114, 116, 115], 7, 0, 0, [], (0, [], [], PUnit.unit), [s], PUnit.unit), ([101, 110, 100, 115], 7, 0, 0, [], (0, [], [], PUnit.unit), [e], PUnit.unit), ([97, 120, 101, 115], 7, 0, 0, [], (0, [], [], PUnit.unit), [k], PUnit.unit)]), (2, AObj.arr 9 Ty.str 0 false [[120]])])
      else 
        bif decide (d.length ≤ 9223372036854775807) then 
          bif countE d != 0 then some (AEnd.ret [(AV.d Ty.str []).pr ((I 0).pr (AV.nils.pr (AV.d Ty.unit PUnit.unit))), I (countE d)], [(0, AObj.arr 25 ((i64T).pair ((i64T).slice.pair ((i64T).slice.pair Ty.unit))) 0 false [(t, d, x, PUnit.unit)]), (1, AObj.arr 37 (Ty.str.pair ((i64T).pair ((i64T).pair ((i64T).pair (Ty.str.pair (((i64T).pair ((i64T).slice.pair ((i64T).slice.pair Ty.unit))).pair ((i64T).slice.pair Ty.unit))))))) 0 true [([115, 116, 97, 114, 116, 115], 7, 0, 0, [], (0, [], [], PUnit.unit), [s], PUnit.unit), ([101, 110, 100, 115], 7, 0, 0, [], (0, [], [], PUnit.unit), [e], PUnit.unit), ([97, 120, 101, 115], 7, 0, 0, [], (0, [], [], PUnit.unit), [k], PUnit.unit)]), (2, AObj.arr 9 Ty.str 0 false [[120]])])
          else 
            bif t == 6 then 
              bif axB k (Int.ofNat d.length) then 
                bif decide (d ≠ [] ∧ d.length ≤ 65536) then (idx d (axV k (Int.ofNat d.length))).bind fun v8 =>
                    (idx d (axV k (Int.ofNat d.length))).bind fun v9 =>
                      (idx d (axV k (Int.ofNat d.length))).bind fun v10 =>
                        (setN d (axV k (Int.ofNat d.length)).toNat (IntKind.i64.wrap (bndI e v8 - bndI s v9))).bind fun v11 =>
                          (idx v11 (axV k (Int.ofNat d.length))).bind fun v12 =>
                            (v11[(axV k (Int.ofNat d.length)).toNat]?).bind fun v13 =>
                              bif !decide (v13 > 0) then some (AEnd.ret [(AV.d Ty.str []).pr ((I 0).pr (AV.nils.pr (AV.d Ty.unit PUnit.unit))), I 4], [(0, AObj.arr 25 ((i64T).pair ((i64T).slice.pair ((i64T).slice.pair Ty.unit))) 0 false [(t, d, x, PUnit.unit)]), (1, AObj.arr 37 (Ty.str.pair ((i64T).pair ((i64T).pair ((i64T).pair (Ty.str.pair (((i64T).pair ((i64T).slice.pair ((i64T).slice.pair Ty.unit))).pair ((i64T).slice.pair Ty.unit))))))) 0 true [([115, 116, 97, 114, 116, 115], 7, 0, 0, [], (0, [], [], PUnit.unit), [s], PUnit.unit), ([101, 110, 100, 115], 7, 0, 0, [], (0, [], [], PUnit.unit), [e], PUnit.unit), ([97, 120, 101, 115], 7, 0, 0, [], (0, [], [], PUnit.unit), [k], PUnit.unit)]), (2, AObj.arr 9 Ty.str 0 false [[120]])])
                              else 
                                bif decide (v11.length ≤ 9223372036854775807) then 
                                  bif countE v11 != 0 then some (AEnd.ret [(AV.d Ty.str []).pr ((I 0).pr (AV.nils.pr (AV.d Ty.unit PUnit.unit))), I (countE v11)], [(0, AObj.arr 25 ((i64T).pair ((i64T).slice.pair ((i64T).slice.pair Ty.unit))) 0 false [(t, d, x, PUnit.unit)]), (1, AObj.arr 37 (Ty.str.pair ((i64T).pair ((i64T).pair ((i64T).pair (Ty.str.pair (((i64T).pair ((i64T).slice.pair ((i64T).slice.pair Ty.unit))).pair ((i64T).slice.pair Ty.unit))))))) 0 true [([115, 116, 97, 114, 116, 115], 7, 0, 0, [], (0, [], [], PUnit.unit), [s], PUnit.unit), ([101, 110, 100, 115], 7, 0, 0, [], (0, [], [], PUnit.unit), [e], PUnit.unit), ([97, 120, 101, 115], 7, 0, 0, [], (0, [], [], PUnit.unit), [k], PUnit.unit)]), (2, AObj.arr 9 Ty.str 0 false [[120]])])
                                  else 
                                    bif decide (v11 ≠ [] ∧ v11.length ≤ 65536) then some (AEnd.ret [(AV.d Ty.str [121]).pr ((I t).pr ((AV.os 3 0).pr (AV.d Ty.unit PUnit.unit))), I 0], [(0, AObj.arr 25 ((i64T).pair ((i64T).slice.pair ((i64T).slice.pair Ty.unit))) 0 false [(t, d, x, PUnit.unit)]), (1, AObj.arr 37 (Ty.str.pair ((i64T).pair ((i64T).pair ((i64T).pair (Ty.str.pair (((i64T).pair ((i64T).slice.pair ((i64T).slice.pair Ty.unit))).pair ((i64T).slice.pair Ty.unit))))))) 0 true [([115, 116, 97, 114, 116, 115], 7, 0, 0, [], (0, [], [], PUnit.unit), [s], PUnit.unit), ([101, 110, 100, 115], 7, 0, 0, [], (0, [], [], PUnit.unit), [e], PUnit.unit), ([97, 120, 101, 115], 7, 0, 0, [], (0, [], [], PUnit.unit), [k], PUnit.unit)]), (2, AObj.arr 9 Ty.str 0 false [[120]]), (3, AObj.arr 3 (i64T) 0 false v11)])
                                    else none
                                else none
                else none
              else some (AEnd.ret [(AV.d Ty.str []).pr ((I 0).pr (AV.nils.pr (AV.d Ty.unit PUnit.unit))), I 4], [(0, AObj.arr 25 ((i64T).pair ((i64T).slice.pair ((i64T).slice.pair Ty.unit))) 0 false [(t, d, x, PUnit.unit)]), (1, AObj.arr 37 (Ty.str.pair ((i64T).pair ((i64T).pair ((i64T).pair (Ty.str.pair (((i64T).pair ((i64T).slice.pair ((i64T).slice.pair Ty.unit))).pair ((i64T).slice.pair Ty.unit))))))) 0 true [([115, 116, 97, 114, 116, 115], 7, 0, 0, [], (0, [], [], PUnit.unit), [s], PUnit.unit), ([101, 110, 100, 115], 7, 0, 0, [], (0, [], [], PUnit.unit), [e], PUnit.unit), ([97, 120, 101, 115], 7, 0, 0, [], (0, [], [], PUnit.unit), [k], PUnit.unit)]), (2, AObj.arr 9 Ty.str 0 false [[120]])])
            else 
              bif axB k (Int.ofNat d.length) then 
                bif decide (d ≠ [] ∧ d.length ≤ 65536) then (idx d (axV k (Int.ofNat d.length))).bind fun v8 =>
                    (idx d (axV k (Int.ofNat d.length))).bind fun v9 =>
                      (idx d (axV k (Int.ofNat d.length))).bind fun v10 =>
                        (setN d (axV k (Int.ofNat d.length)).toNat (IntKind.i64.wrap (bndI e v8 - bndI s v9))).bind fun v11 =>
                          (idx v11 (axV k (Int.ofNat d.length))).bind fun v12 =>
                            (v11[(axV k (Int.ofNat d.length)).toNat]?).bind fun v13 =>
                              bif !decide (v13 > 0) then some (AEnd.ret [(AV.d Ty.str []).pr ((I 0).pr (AV.nils.pr (AV.d Ty.unit PUnit.unit))), I 4], [(0, AObj.arr 25 ((i64T).pair ((i64T).slice.pair ((i64T).slice.pair Ty.unit))) 0 false [(t, d, x, PUnit.unit)]), (1, AObj.arr 37 (Ty.str.pair ((i64T).pair ((i64T).pair ((i64T).pair (Ty.str.pair (((i64T).pair ((i64T).slice.pair ((i64T).slice.pair Ty.unit))).pair ((i64T).slice.pair Ty.unit))))))) 0 true [([115, 116, 97, 114, 116, 115], 7, 0, 0, [], (0, [], [], PUnit.unit), [s], PUnit.unit), ([101, 110, 100, 115], 7, 0, 0, [], (0, [], [], PUnit.unit), [e], PUnit.unit), ([97, 120, 101, 115], 7, 0, 0, [], (0, [], [], PUnit.unit), [k], PUnit.unit)]), (2, AObj.arr 9 Ty.str 0 false [[120]])])
                              else 
                                bif decide (v11.length ≤ 9223372036854775807) then 
                                  bif countE v11 != 0 then some (AEnd.ret [(AV.d Ty.str []).pr ((I 0).pr (AV.nils.pr (AV.d Ty.unit PUnit.unit))), I (countE v11)], [(0, AObj.arr 25 ((i64T).pair ((i64T).slice.pair ((i64T).slice.pair Ty.unit))) 0 false [(t, d, x, PUnit.unit)]), (1, AObj.arr 37 (Ty.str.pair ((i64T).pair ((i64T).pair ((i64T).pair (Ty.str.pair (((i64T).pair ((i64T).slice.pair ((i64T).slice.pair Ty.unit))).pair ((i64T).slice.pair Ty.unit))))))) 0 true [([115, 116, 97, 114, 116, 115], 7, 0, 0, [], (0, [], [], PUnit.unit), [s], PUnit.unit), ([101, 110, 100, 115], 7, 0, 0, [], (0, [], [], PUnit.unit), [e], PUnit.unit), ([97, 120, 101, 115], 7, 0, 0, [], (0, [], [], PUnit.unit), [k], PUnit.unit)]), (2, AObj.arr 9 Ty.str 0 false [[120]])])
                                  else 
                                    bif decide (v11 ≠ [] ∧ v11.length ≤ 65536) then some (AEnd.ret [(AV.d Ty.str [121]).pr ((I t).pr ((AV.os 3 0).pr (AV.d Ty.unit PUnit.unit))), I 0], [(0, AObj.arr 25 ((i64T).pair ((i64T).slice.pair ((i64T).slice.pair Ty.unit))) 0 false [(t, d, x, PUnit.unit)]), (1, AObj.arr 37 (Ty.str.pair ((i64T).pair ((i64T).pair ((i64T).pair (Ty.str.pair (((i64T).pair ((i64T).slice.pair ((i64T).slice.pair Ty.unit))).pair ((i64T).slice.pair Ty.unit))))))) 0 true [([115, 116, 97, 114, 116, 115], 7, 0, 0, [], (0, [], [], PUnit.unit), [s], PUnit.unit), ([101, 110, 100, 115], 7, 0, 0, [], (0, [], [], PUnit.unit), [e], PUnit.unit), ([97, 120, 101, 115], 7, 0, 0, [], (0, [], [], PUnit.unit), [k], PUnit.unit)]), (2, AObj.arr 9 Ty.str 0 false [[120]]), (3, AObj.arr 3 (i64T) 0 false v11)])
                                    else none
                                else none
                else none
              else some (AEnd.ret [(AV.d Ty.str []).pr ((I 0).pr (AV.nils.pr (AV.d Ty.unit PUnit.unit))), I 4], [(0, AObj.arr 25 ((i64T).pair ((i64T).slice.pair ((i64T).slice.pair Ty.unit))) 0 false [(t, d, x, PUnit.unit)]), (1, AObj.arr 37 (Ty.str.pair ((i64T).pair ((i64T).pair ((i64T).pair (Ty.str.pair (((i64T).pair ((i64T).slice.pair ((i64T).slice.pair Ty.unit))).pair ((i64T).slice.pair Ty.unit))))))) 0 true [([115, 116, 97, 114, 116, 115], 7, 0, 0, [], (0, [], [], PUnit.unit), [s], PUnit.unit), ([101, 110, 100, 115], 7, 0, 0, [], (0, [], [], PUnit.unit), [e], PUnit.unit), ([97, 120, 101, 115], 7, 0, 0, [], (0, [], [], PUnit.unit), [k], PUnit.unit)]), (2, AObj.arr 9 Ty.str 0 false [[120]])])
        else none
  else none := by kernel_rfl
end Go.Proofs.XGT
namespace Go.Proofs.XGT
open Go.Vm Go
set_option maxRecDepth 100000
set_option maxHeartbeats 4000000
noncomputable def rgE : FnE := execFnC (g214.add 79 (treeE reaG)) Tryz.f46 4 []
theorem rgE_ok : FnE.OK e0.P e0.gam 46 rgE := execFnC_ok (g214_good.add reaG_ok) hmix Tryz.func46 Tryz.call46 (by decide +kernel) rfl
end Go.Proofs.XGT
namespace Go.Proofs.XGT
open Go.Vm Go
set_option maxRecDepth 100000
set_option maxHeartbeats 4000000
theorem mxi_eq (k r : Int) : runC g216 Tryz.f81 4 [] [I k, I r] [] ah =
  bif decide (k < 0) then some (AEnd.ret [I (IntKind.i64.wrap (k + r))], [])
  else some (AEnd.ret [I k], []) := by kernel_rfl
def mxiT : List AV → LHp → Tq
  | [.d (.int .i64) k, .d (.int .i64) r], [] => .leaf (.ret [I (axV k r)]) []
  | _, _ => .no
theorem mxiT_ok : FnE.OK e0.P e0.gam 81 (treeE mxiT) := by
  have h2 : FnE.OK e0.P e0.gam 81 (execFnC g216 Tryz.f81 4 []) := execFnC_ok g216_good hmix Tryz.func81 Tryz.call81 (by decide +kernel) rfl
  refine ⟨fun _ _ _ => Tq.eq _ _, fun args hs ae hs' h => ?_⟩
  have h' : (mxiT args hs).run ah = some (ae, hs') := h
  clear h
  unfold mxiT at h'
  split at h'
  · rename_i k r
    refine h2.okC ((mxi_eq k r).trans (Eq.trans ?_ h'))
    unfold axV
    cases decide (k < 0) <;> rfl
  · cases h'
noncomputable def whE : FnE := execFnC ((g182.add 85 (treeE sstT)).add 96 clE) Tryz.f78 5 []
theorem whE_ok : FnE.OK e0.P e0.gam 78 whE := execFnC_ok ((g182_good.add sstT_ok).add clE_ok) hmix Tryz.func78 Tryz.call78 (by decide +kernel) rfl
noncomputable def gWh : Env := g213.add 78 whE
theorem gWh_good : gWh.Good := g213_good.add whE_ok
theorem mwh_eq (t : Int) (d x : List Int) : runC gWh Tryz.f45 4 [] [.d (Y0) (t, d, x, ())] [] ah =
  bif decide (d.length ≤ 9223372036854775807) then 
    bif countE d != 0 then 
      bif countE d != 0 then some (AEnd.ret [(I 0).pr (AV.nils.pr (AV.nils.pr (AV.d Ty.unit PUnit.unit)))], [])
      else 
        bif decide (d ≠ [] ∧ d.length ≤ 65536) then some (AEnd.ret [(I 0).pr ((AV.os 0 0).pr (AV.nils.pr (AV.d Ty.unit PUnit.unit)))], [(0, AObj.arr 3 (i64T) 0 false d)])
        else none
    else 
      bif decide (d ≠ [] ∧ d.length ≤ 65536) then some (AEnd.ret [(I 0).pr ((AV.os 0 0).pr ((AV.os 1 0).pr (AV.d Ty.unit PUnit.unit)))], [(0, AObj.arr 3 (i64T) 0 false d), (1, AObj.arr 3 (i64T) 0 false (strI d))])
      else none
  else none := by kernel_rfl
def mwhT : List AV → LHp → Tq
  | [.d ((.pair (.int .i64) (.pair (.slice (.int .i64)) (.pair (.slice (.int .i64)) .unit)))) (_, d, _, ())], [] => .br (decide (countE d = 0 ∧ d ≠ [])) (.leaf (.ret [vwB 0 0 1]) [(0, .arr 3 i64T 0 false d), (1, .arr 3 i64T 0 false (strI d))]) .no
  | _, _ => .no
theorem mwhT_ok : FnE.OK e0.P e0.gam 45 (treeE mwhT) := by
  have h2 : FnE.OK e0.P e0.gam 45 (execFnC gWh Tryz.f45 4 []) := execFnC_ok gWh_good hmix Tryz.func45 Tryz.call45 (by decide +kernel) rfl
  refine ⟨fun _ _ _ => Tq.eq _ _, fun args hs ae hs' h => ?_⟩
  have h' : (mwhT args hs).run ah = some (ae, hs') := h
  clear h
  unfold mwhT at h'
  split at h'
  · rename_i t d x
    obtain ⟨hb, h3⟩ := Tq.br_no h'
    obtain ⟨c1, c2⟩ := of_decide_eq_true hb
    obtain ⟨_, c3, _⟩ := count_ok c1
    refine h2.okC ((mwh_eq t d x).trans (Eq.trans ?_ h3))
    rw [decide_eq_true (show d.length ≤ 9223372036854775807 by omega), decide_eq_true (show d ≠ [] ∧ d.length ≤ 65536 from ⟨c2, by omega⟩), c1]
    rfl
  · cases h'
noncomputable def owE : FnE := execFnC (g197.add 96 clE) Tryz.f110 4 []
theorem owE_ok : FnE.OK e0.P e0.gam 110 owE := execFnC_ok (g197_good.add clE_ok) hmix Tryz.func110 Tryz.call110 (by decide +kernel) rfl
noncomputable def vsE : FnE := execFnC ((g217.add 75 (treeE vfiT)).add 110 owE) Tryz.f82 7 []
theorem vsE_ok : FnE.OK e0.P e0.gam 82 vsE := execFnC_ok ((g217_good.add vfiT_ok).add owE_ok) hmix Tryz.func82 Tryz.call82 (by decide +kernel) rfl
noncomputable def gSv : Env := (((g218.add 45 (treeE mwhT)).add 82 vsE).add 46 rgE).add 81 (treeE mxiT)
theorem gSv_good : gSv.Good := (((g218_good.add mwhT_ok).add vsE_ok).add rgE_ok).add mxiT_ok
def hpSv (s e k : Int) (n : List Int) : LHp := [(0, .arr 3 i64T 0 false n), (1, .arr 37 (Y1) 0 true (at3 s e k)), (2, .arr 9 .str 0 false [[120]])]
theorem sv_eq (t s e k : Int) (d n x : List Int) : runC gSv Tryz.f48 7 [(4, [2, 3, 4, 7, 8, 19, 20]), (10, [2, 4, 7, 10, 32, 33, 34])] [nodeA strSL [] [121] (.os 2 0) (.os 1 0), .d (Y0) (t, d, x, ()), .os 0 0] (hpSv s e k n) ah =
  bif decide (countE d = 0 ∧ d ≠ []) then 
    bif decide (s < 0) then (idx d (axV k (Int.ofNat d.length))).bind fun v2 =>
        (idx n (axV k (Int.ofNat d.length))).bind fun v3 =>
          (n[(axV k (Int.ofNat d.length)).toNat]?).bind fun v4 =>
            bif okFine 0 d (strI d) then 
              bif decide (axV k (Int.ofNat d.length) < 0) then none
              else 
                bif decide (axV k (Int.ofNat d.length) ≥ Int.ofNat d.length) then none
                else 
                  bif decide ((if IntKind.i64.wrap (s + v2) > 0 then IntKind.i64.wrap (s + v2) else 0) < 0) then none
                  else (idx d (axV k (Int.ofNat d.length))).bind fun v9 =>
                      (d[(axV k (Int.ofNat d.length)).toNat]?).bind fun v10 =>
                        bif decide (IntKind.i64.wrap ((if IntKind.i64.wrap (s + v2) > 0 then IntKind.i64.wrap (s + v2) else 0) + v4) > v10) then none
                        else 
                          bif decide ((if IntKind.i64.wrap (s + v2) > 0 then IntKind.i64.wrap (s + v2) else 0) ≥ IntKind.i64.wrap ((if IntKind.i64.wrap (s + v2) > 0 then IntKind.i64.wrap (s + v2) else 0) + v4)) then none
                          else (idx (strI d) (axV k (Int.ofNat d.length))).bind fun v13 =>
                              ((strI d)[(axV k (Int.ofNat d.length)).toNat]?).bind fun v14 =>
                                bif decide (IntKind.i64.wrap (0 + IntKind.i64.wrap ((if IntKind.i64.wrap (s + v2) > 0 then IntKind.i64.wrap (s + v2) else 0) * v14)) ≥ 65536) then none
                                else 
                                  bif decide (d ≠ [] ∧ d.length ≤ 65536) then 
                                    bif decide (strI d ≠ [] ∧ (strI d).length ≤ 65536) then (idx (strI d) (axV k (Int.ofNat d.length))).bind fun v18 =>
                                        ((strI d)[(axV k (Int.ofNat d.length)).toNat]?).bind fun v19 =>
                                          (idx d (axV k (Int.ofNat d.length))).bind fun v20 =>
                                            (setN d (axV k (Int.ofNat d.length)).toNat (IntKind.i64.wrap (IntKind.i64.wrap ((if IntKind.i64.wrap (s + v2) > 0 then IntKind.i64.wrap (s + v2) else 0) + v4) - if IntKind.i64.wrap (s + v2) > 0 then IntKind.i64.wrap (s + v2) else 0))).bind fun v21 =>
                                              bif okRG (IntKind.i64.wrap (0 + IntKind.i64.wrap ((if IntKind.i64.wrap (s + v2) > 0 then IntKind.i64.wrap (s + v2) else 0) * v19))) v21 (strI d) x then some (AEnd.ret [AV.os 3 0], [(0, AObj.arr 3 (i64T) 0 false n), (1, AObj.arr 37 (Ty.str.pair ((i64T).pair ((i64T).pair ((i64T).pair (Ty.str.pair (((i64T).pair ((i64T).slice.pair ((i64T).slice.pair Ty.unit))).pair ((i64T).slice.pair Ty.unit))))))) 0 true [([115, 116, 97, 114, 116, 115], 7, 0, 0, [], (0, [], [], PUnit.unit), [s], PUnit.unit), ([101, 110, 100, 115], 7, 0, 0, [], (0, [], [], PUnit.unit), [e], PUnit.unit), ([97, 120, 101, 115], 7, 0, 0, [], (0, [], [], PUnit.unit), [k], PUnit.unit)]), (2, AObj.arr 9 Ty.str 0 false [[120]]), (3, AObj.arr 2 (i64T) 0 false (rdG (IntKind.i64.wrap (0 + IntKind.i64.wrap ((if IntKind.i64.wrap (s + v2) > 0 then IntKind.i64.wrap (s + v2) else 0) * v19))) v21 (strI d) x))])
                                              else none
                                    else none
                                  else none
            else none
    else (idx n (axV k (Int.ofNat d.length))).bind fun v2 =>
        (n[(axV k (Int.ofNat d.length)).toNat]?).bind fun v3 =>
          bif okFine 0 d (strI d) then 
            bif decide (axV k (Int.ofNat d.length) < 0) then none
            else 
              bif decide (axV k (Int.ofNat d.length) ≥ Int.ofNat d.length) then none
              else 
                bif decide ((if s > 0 then s else 0) < 0) then none
                else (idx d (axV k (Int.ofNat d.length))).bind fun v8 =>
                    (d[(axV k (Int.ofNat d.length)).toNat]?).bind fun v9 =>
                      bif decide (IntKind.i64.wrap ((if s > 0 then s else 0) + v3) > v9) then none
                      else 
                        bif decide ((if s > 0 then s else 0) ≥ IntKind.i64.wrap ((if s > 0 then s else 0) + v3)) then none
                        else (idx (strI d) (axV k (Int.ofNat d.length))).bind fun v12 =>
                            ((strI d)[(axV k (Int.ofNat d.length)).toNat]?).bind fun v13 =>
                              bif decide (IntKind.i64.wrap (0 + IntKind.i64.wrap ((if s > 0 then s else 0) * v13)) ≥ 65536) then none
                              else 
                                bif decide (d ≠ [] ∧ d.length ≤ 65536) then 
                                  bif decide (strI d ≠ [] ∧ (strI d).length ≤ 65536) then (idx (strI d) (axV k (Int.ofNat d.length))).bind fun v17 =>
                                      ((strI d)[(axV k (Int.ofNat d.length)).toNat]?).bind fun v18 =>
                                        (idx d (axV k (Int.ofNat d.length))).bind fun v19 =>
                                          (setN d (axV k (Int.ofNat d.length)).toNat (IntKind.i64.wrap (IntKind.i64.wrap ((if s > 0 then s else 0) + v3) - if s > 0 then s else 0))).bind fun v20 =>
                                            bif okRG (IntKind.i64.wrap (0 + IntKind.i64.wrap ((if s > 0 then s else 0) * v18))) v20 (strI d) x then some (AEnd.ret [AV.os 3 0], [(0, AObj.arr 3 (i64T) 0 false n), (1, AObj.arr 37 (Ty.str.pair ((i64T).pair ((i64T).pair ((i64T).pair (Ty.str.pair (((i64T).pair ((i64T).slice.pair ((i64T).slice.pair Ty.unit))).pair ((i64T).slice.pair Ty.unit))))))) 0 true [([115, 116, 97, 114, 116, 115], 7, 0, 0, [], (0, [], [], PUnit.unit), [s], PUnit.unit), ([101, 110, 100, 115], 7, 0, 0, [], (0, [], [], PUnit.unit), [e], PUnit.unit), ([97, 120, 101, 115], 7, 0, 0, [], (0, [], [], PUnit.unit), [k], PUnit.unit)]), (2, AObj.arr 9 Ty.str 0 false [[120]]), (3, AObj.arr 2 (i64T) 0 false (rdG (IntKind.i64.wrap (0 + IntKind.i64.wrap ((if s > 0 then s else 0) * v18))) v20 (strI d) x))])
                                            else none
                                  else none
                                else none
          else none
  else none := by kernel_rfl
end Go.Proofs.XGT
namespace Go.Proofs.XGT
open Go.Vm Go
set_option maxRecDepth 100000
set_option maxHeartbeats 4000000
noncomputable def C_con : Code := codeOf Tryz.f49
noncomputable def cf_con : Cfg := ⟨73, 7, 4, [(6, [7, 8, 9, 10, 11, 32, 33, 34]), (10, [7, 8, 9, 10, 11, 13, 15, 32, 33, 34, 45, 46])], true⟩
noncomputable def gCc : Env := g220.add 81 (treeE mxiT)
theorem gCc_good : gCc.Good := g220_good.add mxiT_ok
def hpCc (y z : Bool) (v t1 t2 : Int) (d1 x1 d2 x2 nd : List Int) : LHp := [(0, .arr 3 i64T 0 y nd), (1, .arr 25 (Y0) 0 z [(t1, d1, x1, ()), (t2, d2, x2, ())]), (2, .arr 37 (Y1) 0 true [iattr strAxis v]), (3, .arr 9 .str 0 false [[120], [121]])]
theorem con_eqH (hl : Hl) (v t1 t2 : Int) (d1 x1 d2 x2 nd : List Int) : runH gCc Tryz.f49 7 [(6, [7, 8, 9, 10, 11, 32, 33, 34]), (10, [7, 8, 9, 10, 11, 13, 15, 32, 33, 34, 45, 46])] [6, 10] hl [nodeA strCC [] [122] (.os 3 0) (.os 2 0), .os 1 0, .os 0 0] (hpCc false false v t1 t2 d1 x1 d2 x2 nd) ah =
  (if (0 : Int) ≤ 0 ∧ 0 ≤ axV v (Int.ofNat nd.length) ∧ axV v (Int.ofNat nd.length) ≤ Int.ofNat nd.length then some (List.drop 0 (List.take (axV v (Int.ofNat nd.length)).toNat nd)) else none).bind fun v0 =>
    bif decide (v0.length ≤ 9223372036854775807) then (if 0 ≤ axV v (Int.ofNat nd.length) ∧ axV v (Int.ofNat nd.length) ≤ Int.ofNat nd.length ∧ Int.ofNat nd.length ≤ Int.ofNat nd.length then some (List.drop (axV v (Int.ofNat nd.length)).toNat (List.take (Int.ofNat nd.length).toNat nd)) else none).bind fun v2 =>
        bif decide (v2.length ≤ 9223372036854775807) then (if 0 ≤ IntKind.i64.wrap (countN v0 * countN v2) ∧ IntKind.i64.wrap (countN v0 * countN v2) ≤ 4294967296 then some (List.replicate (IntKind.i64.wrap (countN v0 * countN v2)).toNat 0) else none).bind fun v4 =>
            hl (cL (cL (cR (cL (cR (cR (cR (cR (cR C_con))))))))) _ { fr := mkFr 7 [(7, I (axV v (Int.ofNat nd.length))), (8, I (countN v0)), (9, I (countN v2)), (10, AV.os 4 0), (11, I 0), (32, AV.os 1 0), (33, I 2), (34, I 0)], hp := [(0, AObj.arr 3 (i64T) 0 true nd), (1, AObj.arr 25 ((i64T).pair ((i64T).slice.pair ((i64T).slice.pair Ty.unit))) 0 false [(t1, d1, x1, PUnit.unit), (t2, d2, x2, PUnit.unit)]), (2, AObj.arr 37 (Ty.str.pair ((i64T).pair ((i64T).pair ((i64T).pair (Ty.str.pair (((i64T).pair ((i64T).slice.pair ((i64T).slice.pair Ty.unit))).pair ((i64T).slice.pair Ty.unit))))))) 0 true [([97, 120, 105, 115], 2, 0, v, [], (0, [], [], PUnit.unit), [], PUnit.unit)]), (3, AObj.arr 9 Ty.str 0 false [[120], [121]]), (4, AObj.arr 2 (i64T) 0 false v4)], nx := 9 } (blkK 0 (seqH gCc cf_con [6, 10] hl (cR (cR (cR (cR (cR (cR C_con)))))) (endC Tryz.prog 4 Tryz.f49.results.toList ah)))
        else none
    else none := by kernel_rfl
theorem con_eq (v t1 t2 : Int) (d1 x1 d2 x2 nd : List Int) : runC gCc Tryz.f49 7 [(6, [7, 8, 9, 10, 11, 32, 33, 34]), (10, [7, 8, 9, 10, 11, 13, 15, 32, 33, 34, 45, 46])] [nodeA strCC [] [122] (.os 3 0) (.os 2 0), .os 1 0, .os 0 0] (hpCc false false v t1 t2 d1 x1 d2 x2 nd) ah =
  (if (0 : Int) ≤ 0 ∧ 0 ≤ axV v (Int.ofNat nd.length) ∧ axV v (Int.ofNat nd.length) ≤ Int.ofNat nd.length then some (List.drop 0 (List.take (axV v (Int.ofNat nd.length)).toNat nd)) else none).bind fun v0 =>
    bif decide (v0.length ≤ 9223372036854775807) then (if 0 ≤ axV v (Int.ofNat nd.length) ∧ axV v (Int.ofNat nd.length) ≤ Int.ofNat nd.length ∧ Int.ofNat nd.length ≤ Int.ofNat nd.length then some (List.drop (axV v (Int.ofNat nd.length)).toNat (List.take (Int.ofNat nd.length).toNat nd)) else none).bind fun v2 =>
        bif decide (v2.length ≤ 9223372036854775807) then (if 0 ≤ IntKind.i64.wrap (countN v0 * countN v2) ∧ IntKind.i64.wrap (countN v0 * countN v2) ≤ 4294967296 then some (List.replicate (IntKind.i64.wrap (countN v0 * countN v2)).toNat 0) else none).bind fun v4 =>
            (hlp gCc cf_con) (cL (cL (cR (cL (cR (cR (cR (cR (cR C_con))))))))) _ { fr := mkFr 7 [(7, I (axV v (Int.ofNat nd.length))), (8, I (countN v0)), (9, I (countN v2)), (10, AV.os 4 0), (11, I 0), (32, AV.os 1 0), (33, I 2), (34, I 0)], hp := [(0, AObj.arr 3 (i64T) 0 true nd), (1, AObj.arr 25 ((i64T).pair ((i64T).slice.pair ((i64T).slice.pair Ty.unit))) 0 false [(t1, d1, x1, PUnit.unit), (t2, d2, x2, PUnit.unit)]), (2, AObj.arr 37 (Ty.str.pair ((i64T).pair ((i64T).pair ((i64T).pair (Ty.str.pair (((i64T).pair ((i64T).slice.pair ((i64T).slice.pair Ty.unit))).pair ((i64T).slice.pair Ty.unit))))))) 0 true [([97, 120, 105, 115], 2, 0, v, [], (0, [], [], PUnit.unit), [], PUnit.unit)]), (3, AObj.arr 9 Ty.str 0 false [[120], [121]]), (4, AObj.arr 2 (i64T) 0 false v4)], nx := 9 } (blkK 0 (seqH gCc cf_con [6, 10] (hlp gCc cf_con) (cR (cR (cR (cR (cR (cR C_con)))))) (endC Tryz.prog 4 Tryz.f49.results.toList ah)))
        else none
    else none := runH_runC.trans (con_eqH (hlp gCc cf_con) v t1 t2 d1 x1 d2 x2 nd)
def stC0 (a times size at0 j : Int) (out : List Int) (v t1 t2 : Int) (d1 x1 d2 x2 nd : List Int) : LSt := { fr := mkFr 7 [(7, I a), (8, I times), (9, I size), (10, AV.os 4 0), (11, I at0), (32, AV.os 1 0), (33, I 2), (34, I j)], hp := hpCc true false v t1 t2 d1 x1 d2 x2 nd ++ [(4, .arr 2 i64T 0 false out)], nx := 9 }
theorem c0_aH (hl : Hl) (a times size : Int) (out : List Int) (v t1 t2 : Int) (d1 x1 d2 x2 nd : List Int) (n : Nat) {R : Type} (k : AEx → LSt → Option R) : lpH gCc cf_con [6, 10] hl (cL (cL (cR (cL (cR (cR (cR (cR (cR C_con))))))))) (n + 1) (stC0 a times size 0 0 out v t1 t2 d1 x1 d2 x2 nd) k =
  (if (0 : Int) ≤ 0 ∧ 0 ≤ a ∧ a ≤ Int.ofNat d1.length then some (List.drop 0 (List.take a.toNat d1)) else none).bind fun v0 =>
    bif decide (v0.length ≤ 9223372036854775807) then (if 0 ≤ a ∧ a ≤ Int.ofNat d1.length ∧ Int.ofNat d1.length ≤ Int.ofNat d1.length then some (List.drop a.toNat (List.take (Int.ofNat d1.length).toNat d1)) else none).bind fun v2 =>
        bif decide (v2.length ≤ 9223372036854775807) then hl (cL (cL (cR (cL (cR (cR (cL (cL (cR (cR (cL (cL (cR (cL (cR (cR (cR (cR (cR C_con))))))))))))))))))) _ { fr := mkFr 7 [(7, I a), (8, I times), (9, I size), (10, AV.os 4 0), (11, I 0), (13, AV.op 5 [] 0), (15, I (countN v2)), (32, AV.os 1 0), (33, I 2), (34, I 0), (45, I times), (46, I 0)], hp := [(0, AObj.arr 3 (i64T) 0 true nd), (1, AObj.arr 25 ((i64T).pair ((i64T).slice.pair ((i64T).slice.pair Ty.unit))) 0 false [(t1, d1, x1, PUnit.unit), (t2, d2, x2, PUnit.unit)]), (2, AObj.arr 37 (Ty.str.pair ((i64T).pair ((i64T).pair ((i64T).pair (Ty.str.pair (((i64T).pair ((i64T).slice.pair ((i64T).slice.pair Ty.unit))).pair ((i64T).slice.pair Ty.unit))))))) 0 true [([97, 120, 105, 115], 2, 0, v, [], (0, [], [], PUnit.unit), [], PUnit.unit)]), (3, AObj.arr 9 Ty.str 0 false [[120], [121]]), (4, AObj.arr 2 (i64T) 0 false out), (5, AObj.box (AV.d ((i64T).pair ((i64T).slice.pair ((i64T).slice.pair Ty.unit))) (t1, d1, x1, PUnit.unit)))], nx := 10 } (blkK 2 (seqH gCc cf_con [6, 10] hl (cR (cR (cR (cL (cL (cR (cR (cL (cL (cR (cL (cR (cR (cR (cR (cR C_con)))))))))))))))) (blkK 1 (seqH gCc cf_con [6, 10] hl (cR (cR (cR (cL (cL (cR (cL (cR (cR (cR (cR (cR C_con)))))))))))) (nxtH gCc cf_con [6, 10] hl (cL (cL (cR (cL (cR (cR (cR (cR (cR C_con))))))))) n k)))))
        else none
    else none := by kernel_rfl
theorem c0_a (a times size : Int) (out : List Int) (v t1 t2 : Int) (d1 x1 d2 x2 nd : List Int) (n : Nat) {R : Type} (k : AEx → LSt → Option R) : lp gCc cf_con (cL (cL (cR (cL (cR (cR (cR (cR (cR C_con))))))))) (n + 1) (stC0 a times size 0 0 out v t1 t2 d1 x1 d2 x2 nd) k =
  (if (0 : Int) ≤ 0 ∧ 0 ≤ a ∧ a ≤ Int.ofNat d1.length then some (List.drop 0 (List.take a.toNat d1)) else none).bind fun v0 =>
    bif decide (v0.length ≤ 9223372036854775807) then (if 0 ≤ a ∧ a ≤ Int.ofNat d1.length ∧ Int.ofNat d1.length ≤ Int.ofNat d1.length then some (List.drop a.toNat (List.take (Int.ofNat d1.length).toNat d1)) else none).bind fun v2 =>
        bif decide (v2.length ≤ 9223372036854775807) then (hlp gCc cf_con) (cL (cL (cR (cL (cR (cR (cL (cL (cR (cR (cL (cL (cR (cL (cR (cR (cR (cR (cR C_con))))))))))))))))))) _ { fr := mkFr 7 [(7, I a), (8, I times), (9, I size), (10, AV.os 4 0), (11, I 0), (13, AV.op 5 [] 0), (15, I (countN v2)), (32, AV.os 1 0), (33, I 2), (34, I 0), (45, I times), (46, I 0)], hp := [(0, AObj.arr 3 (i64T) 0 true nd), (1, AObj.arr 25 ((i64T).pair ((i64T).slice.pair ((i64T).slice.pair Ty.unit))) 0 false [(t1, d1, x1, PUnit.unit), (t2, d2, x2, PUnit.unit)]), (2, AObj.arr 37 (Ty.str.pair ((i64T).pair ((i64T).pair ((i64T).pair (Ty.str.pair (((i64T).pair ((i64T).slice.pair ((i64T).slice.pair Ty.unit))).pair ((i64T).slice.pair Ty.unit))))))) 0 true [([97, 120, 105, 115], 2, 0, v, [], (0, [], [], PUnit.unit), [], PUnit.unit)]), (3, AObj.arr 9 Ty.str 0 false [[120], [121]]), (4, AObj.arr 2 (i64T) 0 false out), (5, AObj.box (AV.d ((i64T).pair ((i64T).slice.pair ((i64T).slice.pair Ty.unit))) (t1, d1, x1, PUnit.unit)))], nx := 10 } (blkK 2 (seqH gCc cf_con [6, 10] (hlp gCc cf_con) (cR (cR (cR (cL (cL (cR (cR (cL (cL (cR (cL (cR (cR (cR (cR (cR C_con)))))))))))))))) (blkK 1 (seqH gCc cf_con [6, 10] (hlp gCc cf_con) (cR (cR (cR (cL (cL (cR (cL (cR (cR (cR (cR (cR C_con)))))))))))) (nxtH gCc cf_con [6, 10] (hlp gCc cf_con) (cL (cL (cR (cL (cR (cR (cR (cR (cR C_con))))))))) n k)))))
        else none
    else none := by
  have h := c0_aH (hlp gCc cf_con) a times size out v t1 t2 d1 x1 d2 x2 nd n k
  simp only [lpH_lp] at h
  exact h
theorem c0_bH (hl : Hl) (a times size at0 : Int) (out : List Int) (v t1 t2 : Int) (d1 x1 d2 x2 nd : List Int) (n : Nat) {R : Type} (k : AEx → LSt → Option R) : lpH gCc cf_con [6, 10] hl (cL (cL (cR (cL (cR (cR (cR (cR (cR C_con))))))))) (n + 1) (stC0 a times size at0 1 out v t1 t2 d1 x1 d2 x2 nd) k =
  (if (0 : Int) ≤ 0 ∧ 0 ≤ a ∧ a ≤ Int.ofNat d2.length then some (List.drop 0 (List.take a.toNat d2)) else none).bind fun v0 =>
    bif decide (v0.length ≤ 9223372036854775807) then (if 0 ≤ a ∧ a ≤ Int.ofNat d2.length ∧ Int.ofNat d2.length ≤ Int.ofNat d2.length then some (List.drop a.toNat (List.take (Int.ofNat d2.length).toNat d2)) else none).bind fun v2 =>
        bif decide (v2.length ≤ 9223372036854775807) then hl (cL (cL (cR (cL (cR (cR (cL (cL (cR (cR (cL (cL (cR (cL (cR (cR (cR (cR (cR C_con))))))))))))))))))) _ { fr := mkFr 7 [(7, I a), (8, I times), (9, I size), (10, AV.os 4 0), (11, I at0), (13, AV.op 5 [] 0), (15, I (countN v2)), (32, AV.os 1 0), (33, I 2), (34, I 1), (45, I times), (46, I 0)], hp := [(0, AObj.arr 3 (i64T) 0 true nd), (1, AObj.arr 25 ((i64T).pair ((i64T).slice.pair ((i64T).slice.pair Ty.unit))) 0 false [(t1, d1, x1, PUnit.unit), (t2, d2, x2, PUnit.unit)]), (2, AObj.arr 37 (Ty.str.pair ((i64T).pair ((i64T).pair ((i64T).pair (Ty.str.pair (((i64T).pair ((i64T).slice.pair ((i64T).slice.pair Ty.unit))).pair ((i64T).slice.pair Ty.unit))))))) 0 true [([97, 120, 105, 115], 2, 0, v, [], (0, [], [], PUnit.unit), [], PUnit.unit)]), (3, AObj.arr 9 Ty.str 0 false [[120], [121]]), (4, AObj.arr 2 (i64T) 0 false out), (5, AObj.box (AV.d ((i64T).pair ((i64T).slice.pair ((i64T).slice.pair Ty.unit))) (t2, d2, x2, PUnit.unit)))], nx := 10 } (blkK 2 (seqH gCc cf_con [6, 10] hl (cR (cR (cR (cL (cL (cR (cR (cL (cL (cR (cL (cR (cR (cR (cR (cR C_con)))))))))))))))) (blkK 1 (seqH gCc cf_con [6, 10] hl (cR (cR (cR (cL (cL (cR (cL (cR (cR (cR (cR (cR C_con)))))))))))) (nxtH gCc cf_con [6, 10] hl (cL (cL (cR (cL (cR (cR (cR (cR (cR C_con))))))))) n k)))))
        else none
    else none := by kernel_rfl
theorem c0_b (a times size at0 : Int) (out : List Int) (v t1 t2 : Int) (d1 x1 d2 x2 nd : List Int) (n : Nat) {R : Type} (k : AEx → LSt → Option R) : lp gCc cf_con (cL (cL (cR (cL (cR (cR (cR (cR (cR C_con))))))))) (n + 1) (stC0 a times size at0 1 out v t1 t2 d1 x1 d2 x2 nd) k =
  (if (0 : Int) ≤ 0 ∧ 0 ≤ a ∧ a ≤ Int.ofNat d2.length then some (List.drop 0 (List.take a.toNat d2)) else none).bind fun v0 =>
    bif decide (v0.length ≤ 9223372036854775807) then (if 0 ≤ a ∧ a ≤ Int.ofNat d2.length ∧ Int.ofNat d2.length ≤ Int.ofNat d2.length then some (List.drop a.toNat (List.take (Int.ofNat d2.length).toNat d2)) else none).bind fun v2 =>
        bif decide (v2.length ≤ 9223372036854775807) then (hlp gCc cf_con) (cL (cL (cR (cL (cR (cR (cL (cL (cR (cR (cL (cL (cR (cL (cR (cR (cR (cR (cR C_con))))))))))))))))))) _ { fr := mkFr 7 [(7, I a), (8, I times), (9, I size), (10, AV.os 4 0), (11, I at0), (13, AV.op 5 [] 0), (15, I (countN v2)), (32, AV.os 1 0), (33, I 2), (34, I 1), (45, I times), (46, I 0)], hp := [(0, AObj.arr 3 (i64T) 0 true nd), (1, AObj.arr 25 ((i64T).pair ((i64T).slice.pair ((i64T).slice.pair Ty.unit))) 0 false [(t1, d1, x1, PUnit.unit), (t2, d2, x2, PUnit.unit)]), (2, AObj.arr 37 (Ty.str.pair ((i64T).pair ((i64T).pair ((i64T).pair (Ty.str.pair (((i64T).pair ((i64T).slice.pair ((i64T).slice.pair Ty.unit))).pair ((i64T).slice.pair Ty.unit))))))) 0 true [([97, 120, 105, 115], 2, 0, v, [], (0, [], [], PUnit.unit), [], PUnit.unit)]), (3, AObj.arr 9 Ty.str 0 false [[120], [121]]), (4, AObj.arr 2 (i64T) 0 false out), (5, AObj.box (AV.d ((i64T).pair ((i64T).slice.pair ((i64T).slice.pair Ty.unit))) (t2, d2, x2, PUnit.unit)))], nx := 10 } (blkK 2 (seqH gCc cf_con [6, 10] (hlp gCc cf_con) (cR (cR (cR (cL (cL (cR (cR (cL (cL (cR (cL (cR (cR (cR (cR (cR C_con)))))))))))))))) (blkK 1 (seqH gCc cf_con [6, 10] (hlp gCc cf_con) (cR (cR (cR (cL (cL (cR (cL (cR (cR (cR (cR (cR C_con)))))))))))) (nxtH gCc cf_con [6, 10] (hlp gCc cf_con) (cL (cL (cR (cL (cR (cR (cR (cR (cR C_con))))))))) n k)))))
        else none
    else none := by
  have h := c0_bH (hlp gCc cf_con) a times size at0 out v t1 t2 d1 x1 d2 x2 nd n k
  simp only [lpH_lp] at h
  exact h
theorem c0_cH (hl : Hl) (a times size at0 : Int) (out : List Int) (v t1 t2 : Int) (d1 x1 d2 x2 nd : List Int) (n : Nat) {R : Type} (k : AEx → LSt → Option R) : lpH gCc cf_con [6, 10] hl (cL (cL (cR (cL (cR (cR (cR (cR (cR C_con))))))))) (n + 1) (stC0 a times size at0 2 out v t1 t2 d1 x1 d2 x2 nd) k =
  k (AEx.exit 0) { fr := mkFr 7 [(7, I a), (8, I times), (9, I size), (10, AV.os 4 0), (11, I at0), (32, AV.os 1 0), (33, I 2), (34, I 2), (35, B false)], hp := [(0, AObj.arr 3 (i64T) 0 true nd), (1, AObj.arr 25 ((i64T).pair ((i64T).slice.pair ((i64T).slice.pair Ty.unit))) 0 false [(t1, d1, x1, PUnit.unit), (t2, d2, x2, PUnit.unit)]), (2, AObj.arr 37 (Ty.str.pair ((i64T).pair ((i64T).pair ((i64T).pair (Ty.str.pair (((i64T).pair ((i64T).slice.pair ((i64T).slice.pair Ty.unit))).pair ((i64T).slice.pair Ty.unit))))))) 0 true [([97, 120, 105, 115], 2, 0, v, [], (0, [], [], PUnit.unit), [], PUnit.unit)]), (3, AObj.arr 9 Ty.str 0 false [[120], [121]]), (4, AObj.arr 2 (i64T) 0 false out)], nx := 9 } := by kernel_rfl
theorem c0_c (a times size at0 : Int) (out : List Int) (v t1 t2 : Int) (d1 x1 d2 x2 nd : List Int) (n : Nat) {R : Type} (k : AEx → LSt → Option R) : lp gCc cf_con (cL (cL (cR (cL (cR (cR (cR (cR (cR C_con))))))))) (n + 1) (stC0 a times size at0 2 out v t1 t2 d1 x1 d2 x2 nd) k =
  k (AEx.exit 0) { fr := mkFr 7 [(7, I a), (8, I times), (9, I size), (10, AV.os 4 0), (11, I at0), (32, AV.os 1 0), (33, I 2), (34, I 2), (35, B false)], hp := [(0, AObj.arr 3 (i64T) 0 true nd), (1, AObj.arr 25 ((i64T).pair ((i64T).slice.pair ((i64T).slice.pair Ty.unit))) 0 false [(t1, d1, x1, PUnit.unit), (t2, d2, x2, PUnit.unit)]), (2, AObj.arr 37 (Ty.str.pair ((i64T).pair ((i64T).pair ((i64T).pair (Ty.str.pair (((i64T).pair ((i64T).slice.pair ((i64T).slice.pair Ty.unit))).pair ((i64T).slice.pair Ty.unit))))))) 0 true [([97, 120, 105, 115], 2, 0, v, [], (0, [], [], PUnit.unit), [], PUnit.unit)]), (3, AObj.arr 9 Ty.str 0 false [[120], [121]]), (4, AObj.arr 2 (i64T) 0 false out)], nx := 9 } := by
  have h := c0_cH (hlp gCc cf_con) a times size at0 out v t1 t2 d1 x1 d2 x2 nd n k
  simp only [lpH_lp] at h
  exact h
def stC1 (a times size at0 part i j : Int) (out : List Int) (t : Int) (d x : List Int) (v t1 t2 : Int) (d1 x1 d2 x2 nd : List Int) : LSt := { fr := mkFr 7 [(7, I a), (8, I times), (9, I size), (10, AV.os 4 0), (11, I at0), (13, AV.op 5 [] 0), (15, I part), (32, AV.os 1 0), (33, I 2), (34, I j), (45, I times), (46, I i)], hp := hpCc true false v t1 t2 d1 x1 d2 x2 nd ++ [(4, .arr 2 i64T 0 false out), (5, .box (.d (Y0) (t, d, x, ())))], nx := 10 }
theorem c1_aH (hl : Hl) (a times size at0 part i j : Int) (out : List Int) (t : Int) (d x : List Int) (v t1 t2 : Int) (d1 x1 d2 x2 nd : List Int) (n : Nat) {R : Type} (k : AEx → LSt → Option R) : lpH gCc cf_con [6, 10] hl (cL (cL (cR (cL (cR (cR (cL (cL (cR (cR (cL (cL (cR (cL (cR (cR (cR (cR (cR C_con))))))))))))))))))) (n + 1) (stC1 a times size at0 part i j out t d x v t1 t2 d1 x1 d2 x2 nd) k =
  bif decide (i < times) then (win out.length (IntKind.i64.wrap (IntKind.i64.wrap (i * size) + at0)) (Int.ofNat out.length)).bind fun v1 =>
      (if 0 ≤ IntKind.i64.wrap (i * part) ∧ IntKind.i64.wrap (i * part) ≤ IntKind.i64.wrap (IntKind.i64.wrap (i + 1) * part) ∧ IntKind.i64.wrap (IntKind.i64.wrap (i + 1) * part) ≤ Int.ofNat x.length then some (List.drop (IntKind.i64.wrap (i * part)).toNat (List.take (IntKind.i64.wrap (IntKind.i64.wrap (i + 1) * part)).toNat x)) else none).bind fun v2 =>
        bif true && (v1.1 + v1.2).ble out.length then lpH gCc cf_con [6, 10] hl (cL (cL (cR (cL (cR (cR (cL (cL (cR (cR (cL (cL (cR (cL (cR (cR (cR (cR (cR C_con))))))))))))))))))) n { fr := mkFr 7 [(7, I a), (8, I times), (9, I size), (10, AV.os 4 0), (11, I at0), (13, AV.op 5 [] 0), (15, I part), (32, AV.os 1 0), (33, I 2), (34, I j), (45, I times), (46, I (IntKind.i64.wrap (i + 1)))], hp := [(0, AObj.arr 3 (i64T) 0 true nd), (1, AObj.arr 25 ((i64T).pair ((i64T).slice.pair ((i64T).slice.pair Ty.unit))) 0 false [(t1, d1, x1, PUnit.unit), (t2, d2, x2, PUnit.unit)]), (2, AObj.arr 37 (Ty.str.pair ((i64T).pair ((i64T).pair ((i64T).pair (Ty.str.pair (((i64T).pair ((i64T).slice.pair ((i64T).slice.pair Ty.unit))).pair ((i64T).slice.pair Ty.unit))))))) 0 true [([97, 120, 105, 115], 2, 0, v, [], (0, [], [], PUnit.unit), [], PUnit.unit)]), (3, AObj.arr 9 Ty.str 0 false [[120], [121]]), (4, AObj.arr 2 (i64T) 0 false (cpyL out v1.1 v1.2 v2)), (5, AObj.box (AV.d ((i64T).pair ((i64T).slice.pair ((i64T).slice.pair Ty.unit))) (t, d, x, PUnit.unit)))], nx := 10 } k
        else none
  else k (AEx.exit 2) { fr := mkFr 7 [(7, I a), (8, I times), (9, I size), (10, AV.os 4 0), (11, I at0), (13, AV.op 5 [] 0), (15, I part), (32, AV.os 1 0), (33, I 2), (34, I j), (45, I times), (46, I i), (47, B false)], hp := [(0, AObj.arr 3 (i64T) 0 true nd), (1, AObj.arr 25 ((i64T).pair ((i64T).slice.pair ((i64T).slice.pair Ty.unit))) 0 false [(t1, d1, x1, PUnit.unit), (t2, d2, x2, PUnit.unit)]), (2, AObj.arr 37 (Ty.str.pair ((i64T).pair ((i64T).pair ((i64T).pair (Ty.str.pair (((i64T).pair ((i64T).slice.pair ((i64T).slice.pair Ty.unit))).pair ((i64T).slice.pair Ty.unit))))))) 0 true [([97, 120, 105, 115], 2, 0, v, [], (0, [], [], PUnit.unit), [], PUnit.unit)]), (3, AObj.arr 9 Ty.str 0 false [[120], [121]]), (4, AObj.arr 2 (i64T) 0 false out), (5, AObj.box (AV.d ((i64T).pair ((i64T).slice.pair ((i64T).slice.pair Ty.unit))) (t, d, x, PUnit.unit)))], nx := 10 } := by kernel_rfl
theorem c1_a (a times size at0 part i j : Int) (out : List Int) (t : Int) (d x : List Int) (v t1 t2 : Int) (d1 x1 d2 x2 nd : List Int) (n : Nat) {R : Type} (k : AEx → LSt → Option R) : lp gCc cf_con (cL (cL (cR (cL (cR (cR (cL (cL (cR (cR (cL (cL (cR (cL (cR (cR (cR (cR (cR C_con))))))))))))))))))) (n + 1) (stC1 a times size at0 part i j out t d x v t1 t2 d1 x1 d2 x2 nd) k =
  bif decide (i < times) then (win out.length (IntKind.i64.wrap (IntKind.i64.wrap (i * size) + at0)) (Int.ofNat out.length)).bind fun v1 =>
      (if 0 ≤ IntKind.i64.wrap (i * part) ∧ IntKind.i64.wrap (i * part) ≤ IntKind.i64.wrap (IntKind.i64.wrap (i + 1) * part) ∧ IntKind.i64.wrap (IntKind.i64.wrap (i + 1) * part) ≤ Int.ofNat x.length then some (List.drop (IntKind.i64.wrap (i * part)).toNat (List.take (IntKind.i64.wrap (IntKind.i64.wrap (i + 1) * part)).toNat x)) else none).bind fun v2 =>
        bif true && (v1.1 + v1.2).ble out.length then lp gCc cf_con (cL (cL (cR (cL (cR (cR (cL (cL (cR (cR (cL (cL (cR (cL (cR (cR (cR (cR (cR C_con))))))))))))))))))) n { fr := mkFr 7 [(7, I a), (8, I times), (9, I size), (10, AV.os 4 0), (11, I at0), (13, AV.op 5 [] 0), (15, I part), (32, AV.os 1 0), (33, I 2), (34, I j), (45, I times), (46, I (IntKind.i64.wrap (i + 1)))], hp := [(0, AObj.arr 3 (i64T) 0 true nd), (1, AObj.arr 25 ((i64T).pair ((i64T).slice.pair ((i64T).slice.pair Ty.unit))) 0 false [(t1, d1, x1, PUnit.unit), (t2, d2, x2, PUnit.unit)]), (2, AObj.arr 37 (Ty.str.pair ((i64T).pair ((i64T).pair ((i64T).pair (Ty.str.pair (((i64T).pair ((i64T).slice.pair ((i64T).slice.pair Ty.unit))).pair ((i64T).slice.pair Ty.unit))))))) 0 true [([97, 120, 105, 115], 2, 0, v, [], (0, [], [], PUnit.unit), [], PUnit.unit)]), (3, AObj.arr 9 Ty.str 0 false [[120], [121]]), (4, AObj.arr 2 (i64T) 0 false (cpyL out v1.1 v1.2 v2)), (5, AObj.box (AV.d ((i64T).pair ((i64T).slice.pair ((i64T).slice.pair Ty.unit))) (t, d, x, PUnit.unit)))], nx := 10 } k
        else none
  else k (AEx.exit 2) { fr := mkFr 7 [(7, I a), (8, I times), (9, I size), (10, AV.os 4 0), (11, I at0), (13, AV.op 5 [] 0), (15, I part), (32, AV.os 1 0), (33, I 2), (34, I j), (45, I times), (46, I i), (47, B false)], hp := [(0, AObj.arr 3 (i64T) 0 true nd), (1, AObj.arr 25 ((i64T).pair ((i64T).slice.pair ((i64T).slice.pair Ty.unit))) 0 false [(t1, d1, x1, PUnit.unit), (t2, d2, x2, PUnit.unit)]), (2, AObj.arr 37 (Ty.str.pair ((i64T).pair ((i64T).pair ((i64T).pair (Ty.str.pair (((i64T).pair ((i64T).slice.pair ((i64T).slice.pair Ty.unit))).pair ((i64T).slice.pair Ty.unit))))))) 0 true [([97, 120, 105, 115], 2, 0, v, [], (0, [], [], PUnit.unit), [], PUnit.unit)]), (3, AObj.arr 9 Ty.str 0 false [[120], [121]]), (4, AObj.arr 2 (i64T) 0 false out), (5, AObj.box (AV.d ((i64T).pair ((i64T).slice.pair ((i64T).slice.pair Ty.unit))) (t, d, x, PUnit.unit)))], nx := 10 } := by
  have h := c1_aH (hlp gCc cf_con) a times size at0 part i j out t d x v t1 t2 d1 x1 d2 x2 nd n k
  simp only [lpH_lp] at h
  exact h
noncomputable def KC0c : AEx → LSt → Option (AEnd × LHp) := (blkK 0 (seqH gCc cf_con [6, 10] (hlp gCc cf_con) (cR (cR (cR (cR (cR (cR C_con)))))) (endC Tryz.prog 4 Tryz.f49.results.toList ah)))
noncomputable def KC1c (n : Nat) {R : Type} (k : AEx → LSt → Option R) : AEx → LSt → Option R := (blkK 2 (seqH gCc cf_con [6, 10] (hlp gCc cf_con) (cR (cR (cR (cL (cL (cR (cR (cL (cL (cR (cL (cR (cR (cR (cR (cR C_con)))))))))))))))) (blkK 1 (seqH gCc cf_con [6, 10] (hlp gCc cf_con) (cR (cR (cR (cL (cL (cR (cL (cR (cR (cR (cR (cR C_con)))))))))))) (nxtH gCc cf_con [6, 10] (hlp gCc cf_con) (cL (cL (cR (cL (cR (cR (cR (cR (cR C_con))))))))) n k)))))
theorem c1_x (a times size at0 part i : Int) (j : Nat) (out : List Int) (t : Int) (d x : List Int) (v t1 t2 : Int) (d1 x1 d2 x2 nd : List Int) (n : Nat) {R : Type} (k : AEx → LSt → Option R) : KC1c n k (.exit 2) { fr := mkFr 7 [(7, I a), (8, I times), (9, I size), (10, AV.os 4 0), (11, I at0), (13, AV.op 5 [] 0), (15, I part), (32, AV.os 1 0), (33, I 2), (34, I j), (45, I times), (46, I i), (47, B false)], hp := (stC1 a times size at0 part i j out t d x v t1 t2 d1 x1 d2 x2 nd).hp, nx := 10 } =
    lp gCc cf_con (cL (cL (cR (cL (cR (cR (cR (cR (cR C_con))))))))) n (stC0 a times size (IntKind.i64.wrap (at0 + part)) (IntKind.i64.wrap ((j : Int) + 1)) out v t1 t2 d1 x1 d2 x2 nd) k :=
  Eq.trans (b := lpH gCc cf_con [6, 10] (hlp gCc cf_con) (cL (cL (cR (cL (cR (cR (cR (cR (cR C_con))))))))) n (stC0 a times size (IntKind.i64.wrap (at0 + part)) (IntKind.i64.wrap ((j : Int) + 1)) out v t1 t2 d1 x1 d2 x2 nd) k) (by kernel_rfl) lpH_lp
theorem c0_x (a times size at0 : Int) (out : List Int) (v t1 t2 : Int) (d1 x1 d2 x2 nd : List Int) : KC0c (.exit 0) { fr := mkFr 7 [(7, I a), (8, I times), (9, I size), (10, AV.os 4 0), (11, I at0), (32, AV.os 1 0), (33, I 2), (34, I 2), (35, B false)], hp := (stC0 a times size at0 2 out v t1 t2 d1 x1 d2 x2 nd).hp, nx := 9 } =
  some (AEnd.ret [AV.os 4 0], [(0, AObj.arr 3 (i64T) 0 true nd), (1, AObj.arr 25 ((i64T).pair ((i64T).slice.pair ((i64T).slice.pair Ty.unit))) 0 false [(t1, d1, x1, PUnit.unit), (t2, d2, x2, PUnit.unit)]), (2, AObj.arr 37 (Ty.str.pair ((i64T).pair ((i64T).pair ((i64T).pair (Ty.str.pair (((i64T).pair ((i64T).slice.pair ((i64T).slice.pair Ty.unit))).pair ((i64T).slice.pair Ty.unit))))))) 0 true [([97, 120, 105, 115], 2, 0, v, [], (0, [], [], PUnit.unit), [], PUnit.unit)]), (3, AObj.arr 9 Ty.str 0 false [[120], [121]]), (4, AObj.arr 2 (i64T) 0 false out)]) := by kernel_rfl
end Go.Proofs.XGT
namespace Go.Proofs.XGT
open Go.Vm Go
set_option maxRecDepth 100000
set_option maxHeartbeats 4000000
noncomputable def C_mcc : Code := codeOf Tryz.f163
noncomputable def cf_mcc : Cfg := ⟨62, 6, 3, [(4, [1, 5, 6, 21, 22, 23]), (8, [1, 5, 6, 21, 22, 23, 35, 36, 37])], true⟩
noncomputable def gMc : Env := (g114.add 96 clE).add 121 (treeE axiT)
theorem gMc_good : gMc.Good := (g114_good.add clE_ok).add axiT_ok
def hpMc (z : Bool) (v t1 t2 : Int) (d1 d2 : List Int) : LHp := [(0, .arr 49 (Y3) 0 z [([], t1, d1, ()), ([], t2, d2, ())]), (1, .arr 37 (Y1) 0 true [iattr strAxis v]), (2, .arr 9 .str 0 false [[120], [121]])]
theorem mcc_eqH (hl : Hl) (v t1 t2 : Int) (d1 d2 : List Int) : runH gMc Tryz.f163 6 [(4, [1, 5, 6, 21, 22, 23]), (8, [1, 5, 6, 21, 22, 23, 35, 36, 37])] [4, 8] hl [(nodeA strCC [] [122] (.os 2 0) (.os 1 0)).pr (.pr (.os 0 0) (.d .unit ())), .d (.slice i64T) d1] (hpMc true v t1 t2 d1 d2) ah =
  bif axB v (Int.ofNat d1.length) then 
    bif decide (d1 ≠ [] ∧ d1.length ≤ 65536) then hl (cL (cL (cR (cL (cR (cR (cR C_mcc))))))) _ { fr := mkFr 6 [(1, AV.d (i64T).slice d1), (5, I (axV v (Int.ofNat d1.length))), (6, AV.os 3 0), (21, AV.d (Ty.str.pair ((i64T).pair ((i64T).slice.pair Ty.unit))).slice [([], t2, d2, PUnit.unit)]), (22, I 1), (23, I 0)], hp := [(0, AObj.arr 49 (Ty.str.pair ((i64T).pair ((i64T).slice.pair Ty.unit))) 0 true [([], t1, d1, PUnit.unit), ([], t2, d2, PUnit.unit)]), (1, AObj.arr 37 (Ty.str.pair ((i64T).pair ((i64T).pair ((i64T).pair (Ty.str.pair (((i64T).pair ((i64T).slice.pair ((i64T).slice.pair Ty.unit))).pair ((i64T).slice.pair Ty.unit))))))) 0 true [([97, 120, 105, 115], 2, 0, v, [], (0, [], [], PUnit.unit), [], PUnit.unit)]), (2, AObj.arr 9 Ty.str 0 false [[120], [121]]), (3, AObj.arr 3 (i64T) 0 false d1)], nx := 7 } (blkK 0 (seqH gMc cf_mcc [4, 8] hl (cR (cR (cR (cR C_mcc)))) (endC Tryz.prog 3 Tryz.f163.results.toList ah)))
    else none
  else some (AEnd.panic 123 4, [(0, AObj.arr 49 (Ty.str.pair ((i64T).pair ((i64T).slice.pair Ty.unit))) 0 true [([], t1, d1, PUnit.unit), ([], t2, d2, PUnit.unit)]), (1, AObj.arr 37 (Ty.str.pair ((i64T).pair ((i64T).pair ((i64T).pair (Ty.str.pair (((i64T).pair ((i64T).slice.pair ((i64T).slice.pair Ty.unit))).pair ((i64T).slice.pair Ty.unit))))))) 0 true [([97, 120, 105, 115], 2, 0, v, [], (0, [], [], PUnit.unit), [], PUnit.unit)]), (2, AObj.arr 9 Ty.str 0 false [[120], [121]])]) := by kernel_rfl
theorem mcc_eq (v t1 t2 : Int) (d1 d2 : List Int) : runC gMc Tryz.f163 6 [(4, [1, 5, 6, 21, 22, 23]), (8, [1, 5, 6, 21, 22, 23, 35, 36, 37])] [(nodeA strCC [] [122] (.os 2 0) (.os 1 0)).pr (.pr (.os 0 0) (.d .unit ())), .d (.slice i64T) d1] (hpMc true v t1 t2 d1 d2) ah =
  bif axB v (Int.ofNat d1.length) then 
    bif decide (d1 ≠ [] ∧ d1.length ≤ 65536) then (hlp gMc cf_mcc) (cL (cL (cR (cL (cR (cR (cR C_mcc))))))) _ { fr := mkFr 6 [(1, AV.d (i64T).slice d1), (5, I (axV v (Int.ofNat d1.length))), (6, AV.os 3 0), (21, AV.d (Ty.str.pair ((i64T).pair ((i64T).slice.pair Ty.unit))).slice [([], t2, d2, PUnit.unit)]), (22, I 1), (23, I 0)], hp := [(0, AObj.arr 49 (Ty.str.pair ((i64T).pair ((i64T).slice.pair Ty.unit))) 0 true [([], t1, d1, PUnit.unit), ([], t2, d2, PUnit.unit)]), (1, AObj.arr 37 (Ty.str.pair ((i64T).pair ((i64T).pair ((i64T).pair (Ty.str.pair (((i64T).pair ((i64T).slice.pair ((i64T).slice.pair Ty.unit))).pair ((i64T).slice.pair Ty.unit))))))) 0 true [([97, 120, 105, 115], 2, 0, v, [], (0, [], [], PUnit.unit), [], PUnit.unit)]), (2, AObj.arr 9 Ty.str 0 false [[120], [121]]), (3, AObj.arr 3 (i64T) 0 false d1)], nx := 7 } (blkK 0 (seqH gMc cf_mcc [4, 8] (hlp gMc cf_mcc) (cR (cR (cR (cR C_mcc)))) (endC Tryz.prog 3 Tryz.f163.results.toList ah)))
    else none
  else some (AEnd.panic 123 4, [(0, AObj.arr 49 (Ty.str.pair ((i64T).pair ((i64T).slice.pair Ty.unit))) 0 true [([], t1, d1, PUnit.unit), ([], t2, d2, PUnit.unit)]), (1, AObj.arr 37 (Ty.str.pair ((i64T).pair ((i64T).pair ((i64T).pair (Ty.str.pair (((i64T).pair ((i64T).slice.pair ((i64T).slice.pair Ty.unit))).pair ((i64T).slice.pair Ty.unit))))))) 0 true [([97, 120, 105, 115], 2, 0, v, [], (0, [], [], PUnit.unit), [], PUnit.unit)]), (2, AObj.arr 9 Ty.str 0 false [[120], [121]])]) := runH_runC.trans (mcc_eqH (hlp gMc cf_mcc) v t1 t2 d1 d2)
def stM0 (a j : Int) (out : List Int) (v t1 t2 : Int) (d1 d2 : List Int) : LSt := { fr := mkFr 6 [(1, AV.d (i64T).slice d1), (5, I a), (6, AV.os 3 0), (21, AV.d (Ty.str.pair ((i64T).pair ((i64T).slice.pair Ty.unit))).slice [([], t2, d2, PUnit.unit)]), (22, I 1), (23, I j)], hp := hpMc true v t1 t2 d1 d2 ++ [(3, .arr 3 i64T 0 false out)], nx := 7 }
theorem m0_aH (hl : Hl) (a : Int) (out : List Int) (v t1 t2 : Int) (d1 d2 : List Int) (n : Nat) {R : Type} (k : AEx → LSt → Option R) : lpH gMc cf_mcc [4, 8] hl (cL (cL (cR (cL (cR (cR (cR C_mcc))))))) (n + 1) (stM0 a 0 out v t1 t2 d1 d2) k =
  bif !Int.ofNat d2.length == Int.ofNat d1.length then k (AEx.panic 123 4) { fr := mkFr 6 [(1, AV.d (i64T).slice d1), (5, I a), (6, AV.os 3 0), (8, AV.op 7 [] 0), (21, AV.d (Ty.str.pair ((i64T).pair ((i64T).slice.pair Ty.unit))).slice [([], t2, d2, PUnit.unit)]), (22, I 1), (23, I 0), (24, B true), (25, AV.ip (Ty.str.pair ((i64T).pair ((i64T).slice.pair Ty.unit))) ([], t2, d2, PUnit.unit)), (26, AV.d (Ty.str.pair ((i64T).pair ((i64T).slice.pair Ty.unit))) ([], t2, d2, PUnit.unit)), (27, AV.op 7 [2] 2), (28, AV.d (i64T).slice d2), (29, I (Int.ofNat d2.length)), (30, AV.d (i64T).slice d1), (31, I (Int.ofNat d1.length)), (32, B (Int.ofNat d2.length == Int.ofNat d1.length))], hp := [(7, AObj.box (AV.d (Ty.str.pair ((i64T).pair ((i64T).slice.pair Ty.unit))) ([], t2, d2, PUnit.unit))), (7, AObj.box ((AV.d Ty.str []).pr ((I 0).pr (AV.nils.pr (AV.d Ty.unit PUnit.unit))))), (0, AObj.arr 49 (Ty.str.pair ((i64T).pair ((i64T).slice.pair Ty.unit))) 0 true [([], t1, d1, PUnit.unit), ([], t2, d2, PUnit.unit)]), (1, AObj.arr 37 (Ty.str.pair ((i64T).pair ((i64T).pair ((i64T).pair (Ty.str.pair (((i64T).pair ((i64T).slice.pair ((i64T).slice.pair Ty.unit))).pair ((i64T).slice.pair Ty.unit))))))) 0 true [([97, 120, 105, 115], 2, 0, v, [], (0, [], [], PUnit.unit), [], PUnit.unit)]), (2, AObj.arr 9 Ty.str 0 false [[120], [121]]), (3, AObj.arr 3 (i64T) 0 false out)], nx := 8 }
  else hl (cL (cL (cR (cR (cR (cL (cL (cR (cR (cL (cL (cR (cL (cR (cR (cR C_mcc)))))))))))))))) _ { fr := mkFr 6 [(1, AV.d (i64T).slice d1), (5, I a), (6, AV.os 3 0), (21, AV.d (Ty.str.pair ((i64T).pair ((i64T).slice.pair Ty.unit))).slice [([], t2, d2, PUnit.unit)]), (22, I 1), (23, I 0), (35, AV.d (i64T).slice d2), (36, I (Int.ofNat d2.length)), (37, I 0)], hp := [(0, AObj.arr 49 (Ty.str.pair ((i64T).pair ((i64T).slice.pair Ty.unit))) 0 true [([], t1, d1, PUnit.unit), ([], t2, d2, PUnit.unit)]), (1, AObj.arr 37 (Ty.str.pair ((i64T).pair ((i64T).pair ((i64T).pair (Ty.str.pair (((i64T).pair ((i64T).slice.pair ((i64T).slice.pair Ty.unit))).pair ((i64T).slice.pair Ty.unit))))))) 0 true [([97, 120, 105, 115], 2, 0, v, [], (0, [], [], PUnit.unit), [], PUnit.unit)]), (2, AObj.arr 9 Ty.str 0 false [[120], [121]]), (3, AObj.arr 3 (i64T) 0 false out)], nx := 7 } (blkK 2 (blkK 1 (seqH gMc cf_mcc [4, 8] hl (cR (cR (cR (cL (cL (cR (cL (cR (cR (cR C_mcc)))))))))) (nxtH gMc cf_mcc [4, 8] hl (cL (cL (cR (cL (cR (cR (cR C_mcc))))))) n k)))) := by kernel_rfl
theorem m0_a (a : Int) (out : List Int) (v t1 t2 : Int) (d1 d2 : List Int) (n : Nat) {R : Type} (k : AEx → LSt → Option R) : lp gMc cf_mcc (cL (cL (cR (cL (cR (cR (cR C_mcc))))))) (n + 1) (stM0 a 0 out v t1 t2 d1 d2) k =
  bif !Int.ofNat d2.length == Int.ofNat d1.length then k (AEx.panic 123 4) { fr := mkFr 6 [(1, AV.d (i64T).slice d1), (5, I a), (6, AV.os 3 0), (8, AV.op 7 [] 0), (21, AV.d (Ty.str.pair ((i64T).pair ((i64T).slice.pair Ty.unit))).slice [([], t2, d2, PUnit.unit)]), (22, I 1), (23, I 0), (24, B true), (25, AV.ip (Ty.str.pair ((i64T).pair ((i64T).slice.pair Ty.unit))) ([], t2, d2, PUnit.unit)), (26, AV.d (Ty.str.pair ((i64T).pair ((i64T).slice.pair Ty.unit))) ([], t2, d2, PUnit.unit)), (27, AV.op 7 [2] 2), (28, AV.d (i64T).slice d2), (29, I (Int.ofNat d2.length)), (30, AV.d (i64T).slice d1), (31, I (Int.ofNat d1.length)), (32, B (Int.ofNat d2.length == Int.ofNat d1.length))], hp := [(7, AObj.box (AV.d (Ty.str.pair ((i64T).pair ((i64T).slice.pair Ty.unit))) ([], t2, d2, PUnit.unit))), (7, AObj.box ((AV.d Ty.str []).pr ((I 0).pr (AV.nils.pr (AV.d Ty.unit PUnit.unit))))), (0, AObj.arr 49 (Ty.str.pair ((i64T).pair ((i64T).slice.pair Ty.unit))) 0 true [([], t1, d1, PUnit.unit), ([], t2, d2, PUnit.unit)]), (1, AObj.arr 37 (Ty.str.pair ((i64T).pair ((i64T).pair ((i64T).pair (Ty.str.pair (((i64T).pair ((i64T).slice.pair ((i64T).slice.pair Ty.unit))).pair ((i64T).slice.pair Ty.unit))))))) 0 true [([97, 120, 105, 115], 2, 0, v, [], (0, [], [], PUnit.unit), [], PUnit.unit)]), (2, AObj.arr 9 Ty.str 0 false [[120], [121]]), (3, AObj.arr 3 (i64T) 0 false out)], nx := 8 }
  else (hlp gMc cf_mcc) (cL (cL (cR (cR (cR (cL (cL (cR (cR (cL (cL (cR (cL (cR (cR (cR C_mcc)))))))))))))))) _ { fr := mkFr 6 [(1, AV.d (i64T).slice d1), (5, I a), (6, AV.os 3 0), (21, AV.d (Ty.str.pair ((i64T).pair ((i64T).slice.pair Ty.unit))).slice [([], t2, d2, PUnit.unit)]), (22, I 1), (23, I 0), (35, AV.d (i64T).slice d2), (36, I (Int.ofNat d2.length)), (37, I 0)], hp := [(0, AObj.arr 49 (Ty.str.pair ((i64T).pair ((i64T).slice.pair Ty.unit))) 0 true [([], t1, d1, PUnit.unit), ([], t2, d2, PUnit.unit)]), (1, AObj.arr 37 (Ty.str.pair ((i64T).pair ((i64T).pair ((i64T).pair (Ty.str.pair (((i64T).pair ((i64T).slice.pair ((i64T).slice.pair Ty.unit))).pair ((i64T).slice.pair Ty.unit))))))) 0 true [([97, 120, 105, 115], 2, 0, v, [], (0, [], [], PUnit.unit), [], PUnit.unit)]), (2, AObj.arr 9 Ty.str 0 false [[120], [121]]), (3, AObj.arr 3 (i64T) 0 false out)], nx := 7 } (blkK 2 (blkK 1 (seqH gMc cf_mcc [4, 8] (hlp gMc cf_mcc) (cR (cR (cR (cL (cL (cR (cL (cR (cR (cR C_mcc)))))))))) (nxtH gMc cf_mcc [4, 8] (hlp gMc cf_mcc) (cL (cL (cR (cL (cR (cR (cR C_mcc))))))) n k)))) := by
  have h := m0_aH (hlp gMc cf_mcc) a out v t1 t2 d1 d2 n k
  simp only [lpH_lp] at h
  exact h
theorem m0_bH (hl : Hl) (a : Int) (out : List Int) (v t1 t2 : Int) (d1 d2 : List Int) (n : Nat) {R : Type} (k : AEx → LSt → Option R) : lpH gMc cf_mcc [4, 8] hl (cL (cL (cR (cL (cR (cR (cR C_mcc))))))) (n + 1) (stM0 a 1 out v t1 t2 d1 d2) k =
  k (AEx.exit 0) { fr := mkFr 6 [(1, AV.d (i64T).slice d1), (5, I a), (6, AV.os 3 0), (21, AV.d (Ty.str.pair ((i64T).pair ((i64T).slice.pair Ty.unit))).slice [([], t2, d2, PUnit.unit)]), (22, I 1), (23, I 1), (24, B false)], hp := [(0, AObj.arr 49 (Ty.str.pair ((i64T).pair ((i64T).slice.pair Ty.unit))) 0 true [([], t1, d1, PUnit.unit), ([], t2, d2, PUnit.unit)]), (1, AObj.arr 37 (Ty.str.pair ((i64T).pair ((i64T).pair ((i64T).pair (Ty.str.pair (((i64T).pair ((i64T).slice.pair ((i64T).slice.pair Ty.unit))).pair ((i64T).slice.pair Ty.unit))))))) 0 true [([97, 120, 105, 115], 2, 0, v, [], (0, [], [], PUnit.unit), [], PUnit.unit)]), (2, AObj.arr 9 Ty.str 0 false [[120], [121]]), (3, AObj.arr 3 (i64T) 0 false out)], nx := 7 } := by kernel_rfl
theorem m0_b (a : Int) (out : List Int) (v t1 t2 : Int) (d1 d2 : List Int) (n : Nat) {R : Type} (k : AEx → LSt → Option R) : lp gMc cf_mcc (cL (cL (cR (cL (cR (cR (cR C_mcc))))))) (n + 1) (stM0 a 1 out v t1 t2 d1 d2) k =
  k (AEx.exit 0) { fr := mkFr 6 [(1, AV.d (i64T).slice d1), (5, I a), (6, AV.os 3 0), (21, AV.d (Ty.str.pair ((i64T).pair ((i64T).slice.pair Ty.unit))).slice [([], t2, d2, PUnit.unit)]), (22, I 1), (23, I 1), (24, B false)], hp := [(0, AObj.arr 49 (Ty.str.pair ((i64T).pair ((i64T).slice.pair Ty.unit))) 0 true [([], t1, d1, PUnit.unit), ([], t2, d2, PUnit.unit)]), (1, AObj.arr 37 (Ty.str.pair ((i64T).pair ((i64T).pair ((i64T).pair (Ty.str.pair (((i64T).pair ((i64T).slice.pair ((i64T).slice.pair Ty.unit))).pair ((i64T).slice.pair Ty.unit))))))) 0 true [([97, 120, 105, 115], 2, 0, v, [], (0, [], [], PUnit.unit), [], PUnit.unit)]), (2, AObj.arr 9 Ty.str 0 false [[120], [121]]), (3, AObj.arr 3 (i64T) 0 false out)], nx := 7 } := by
  have h := m0_bH (hlp gMc cf_mcc) a out v t1 t2 d1 d2 n k
  simp only [lpH_lp] at h
  exact h
def stM1 (a i : Int) (out : List Int) (v t1 t2 : Int) (d1 d2 : List Int) : LSt := { fr := mkFr 6 [(1, AV.d (i64T).slice d1), (5, I a), (6, AV.os 3 0), (21, AV.d (Ty.str.pair ((i64T).pair ((i64T).slice.pair Ty.unit))).slice [([], t2, d2, PUnit.unit)]), (22, I 1), (23, I 0), (35, AV.d (i64T).slice d2), (36, I (Int.ofNat d2.length)), (37, I i)], hp := hpMc true v t1 t2 d1 d2 ++ [(3, .arr 3 i64T 0 false out)], nx := 7 }
theorem m1_aH (hl : Hl) (a i : Int) (out : List Int) (v t1 t2 : Int) (d1 d2 : List Int) (n : Nat) {R : Type} (k : AEx → LSt → Option R) : lpH gMc cf_mcc [4, 8] hl (cL (cL (cR (cR (cR (cL (cL (cR (cR (cL (cL (cR (cL (cR (cR (cR C_mcc)))))))))))))))) (n + 1) (stM1 a i out v t1 t2 d1 d2) k =
  bif decide (i < Int.ofNat d2.length) then (idx d2 i).bind fun v1 =>
      bif i == a then (idx out i).bind fun v3 =>
          (out[i.toNat]?).bind fun v4 =>
            (idx out i).bind fun v5 =>
              (setN out i.toNat (IntKind.i64.wrap (v4 + v1))).bind fun v6 =>
                lpH gMc cf_mcc [4, 8] hl (cL (cL (cR (cR (cR (cL (cL (cR (cR (cL (cL (cR (cL (cR (cR (cR C_mcc)))))))))))))))) n { fr := mkFr 6 [(1, AV.d (i64T).slice d1), (5, I a), (6, AV.os 3 0), (21, AV.d (Ty.str.pair ((i64T).pair ((i64T).slice.pair Ty.unit))).slice [([], t2, d2, PUnit.unit)]), (22, I 1), (23, I 0), (35, AV.d (i64T).slice d2), (36, I (Int.ofNat d2.length)), (37, I (IntKind.i64.wrap (i + 1)))], hp := [(0, AObj.arr 49 (Ty.str.pair ((i64T).pair ((i64T).slice.pair Ty.unit))) 0 true [([], t1, d1, PUnit.unit), ([], t2, d2, PUnit.unit)]), (1, AObj.arr 37 (Ty.str.pair ((i64T).pair ((i64T).pair ((i64T).pair (Ty.str.pair (((i64T).pair ((i64T).slice.pair ((i64T).slice.pair Ty.unit))).pair ((i64T).slice.pair Ty.unit))))))) 0 true [([97, 120, 105, 115], 2, 0, v, [], (0, [], [], PUnit.unit), [], PUnit.unit)]), (2, AObj.arr 9 Ty.str 0 false [[120], [121]]), (3, AObj.arr 3 (i64T) 0 false v6)], nx := 7 } k
      else (idx d1 i).bind fun v3 =>
          bif !v1 == v3 then k (AEx.panic 123 4) { fr := mkFr 6 [(1, AV.d (i64T).slice d1), (5, I a), (6, AV.os 3 0), (9, I i), (10, I v1), (21, AV.d (Ty.str.pair ((i64T).pair ((i64T).slice.pair Ty.unit))).slice [([], t2, d2, PUnit.unit)]), (22, I 1), (23, I 0), (35, AV.d (i64T).slice d2), (36, I (Int.ofNat d2.length)), (37, I i), (38, B true), (39, I i), (40, AV.ip (i64T) v1), (41, I v1), (42, I i), (43, I a), (44, B false), (52, I v1), (53, AV.d (i64T).slice d1), (54, I i), (55, AV.ip (i64T) v3), (56, I v3), (57, B (v1 == v3))], hp := [(0, AObj.arr 49 (Ty.str.pair ((i64T).pair ((i64T).slice.pair Ty.unit))) 0 true [([], t1, d1, PUnit.unit), ([], t2, d2, PUnit.unit)]), (1, AObj.arr 37 (Ty.str.pair ((i64T).pair ((i64T).pair ((i64T).pair (Ty.str.pair (((i64T).pair ((i64T).slice.pair ((i64T).slice.pair Ty.unit))).pair ((i64T).slice.pair Ty.unit))))))) 0 true [([97, 120, 105, 115], 2, 0, v, [], (0, [], [], PUnit.unit), [], PUnit.unit)]), (2, AObj.arr 9 Ty.str 0 false [[120], [121]]), (3, AObj.arr 3 (i64T) 0 false out)], nx := 7 }
          else lpH gMc cf_mcc [4, 8] hl (cL (cL (cR (cR (cR (cL (cL (cR (cR (cL (cL (cR (cL (cR (cR (cR C_mcc)))))))))))))))) n { fr := mkFr 6 [(1, AV.d (i64T).slice d1), (5, I a), (6, AV.os 3 0), (21, AV.d (Ty.str.pair ((i64T).pair ((i64T).slice.pair Ty.unit))).slice [([], t2, d2, PUnit.unit)]), (22, I 1), (23, I 0), (35, AV.d (i64T).slice d2), (36, I (Int.ofNat d2.length)), (37, I (IntKind.i64.wrap (i + 1)))], hp := [(0, AObj.arr 49 (Ty.str.pair ((i64T).pair ((i64T).slice.pair Ty.unit))) 0 true [([], t1, d1, PUnit.unit), ([], t2, d2, PUnit.unit)]), (1, AObj.arr 37 (Ty.str.pair ((i64T).pair ((i64T).pair ((i64T).pair (Ty.str.pair (((i64T).pair ((i64T).slice.pair ((i64T).slice.pair Ty.unit))).pair ((i64T).slice.pair Ty.unit))))))) 0 true [([97, 120, 105, 115], 2, 0, v, [], (0, [], [], PUnit.unit), [], PUnit.unit)]), (2, AObj.arr 9 Ty.str 0 false [[120], [121]]), (3, AObj.arr 3 (i64T) 0 false out)], nx := 7 } k
  else k (AEx.exit 2) { fr := mkFr 6 [(1, AV.d (i64T).slice d1), (5, I a), (6, AV.os 3 0), (21, AV.d (Ty.str.pair ((i64T).pair ((i64T).slice.pair Ty.unit))).slice [([], t2, d2, PUnit.unit)]), (22, I 1), (23, I 0), (35, AV.d (i64T).slice d2), (36, I (Int.ofNat d2.length)), (37, I i), (38, B false)], hp := [(0, AObj.arr 49 (Ty.str.pair ((i64T).pair ((i64T).slice.pair Ty.unit))) 0 true [([], t1, d1, PUnit.unit), ([], t2, d2, PUnit.unit)]), (1, AObj.arr 37 (Ty.str.pair ((i64T).pair ((i64T).pair ((i64T).pair (Ty.str.pair (((i64T).pair ((i64T).slice.pair ((i64T).slice.pair Ty.unit))).pair ((i64T).slice.pair Ty.unit))))))) 0 true [([97, 120, 105, 115], 2, 0, v, [], (0, [], [], PUnit.unit), [], PUnit.unit)]), (2, AObj.arr 9 Ty.str 0 false [[120], [121]]), (3, AObj.arr 3 (i64T) 0 false out)], nx := 7 } := by kernel_rfl
theorem m1_a (a i : Int) (out : List Int) (v t1 t2 : Int) (d1 d2 : List Int) (n : Nat) {R : Type} (k : AEx → LSt → Option R) : lp gMc cf_mcc (cL (cL (cR (cR (cR (cL (cL (cR (cR (cL (cL (cR (cL (cR (cR (cR C_mcc)))))))))))))))) (n + 1) (stM1 a i out v t1 t2 d1 d2) k =
  bif decide (i < Int.ofNat d2.length) then (idx d2 i).bind fun v1 =>
      bif i == a then (idx out i).bind fun v3 =>
          (out[i.toNat]?).bind fun v4 =>
            (idx out i).bind fun v5 =>
              (setN out i.toNat (IntKind.i64.wrap (v4 + v1))).bind fun v6 =>
                lp gMc cf_mcc (cL (cL (cR (cR (cR (cL (cL (cR (cR (cL (cL (cR (cL (cR (cR (cR C_mcc)))))))))))))))) n { fr := mkFr 6 [(1, AV.d (i64T).slice d1), (5, I a), (6, AV.os 3 0), (21, AV.d (Ty.str.pair ((i64T).pair ((i64T).slice.pair Ty.unit))).slice [([], t2, d2, PUnit.unit)]), (22, I 1), (23, I 0), (35, AV.d (i64T).slice d2), (36, I (Int.ofNat d2.length)), (37, I (IntKind.i64.wrap (i + 1)))], hp := [(0, AObj.arr 49 (Ty.str.pair ((i64T).pair ((i64T).slice.pair Ty.unit))) 0 true [([], t1, d1, PUnit.unit), ([], t2, d2, PUnit.unit)]), (1, AObj.arr 37 (Ty.str.pair ((i64T).pair ((i64T).pair ((i64T).pair (Ty.str.pair (((i64T).pair ((i64T).slice.pair ((i64T).slice.pair Ty.unit))).pair ((i64T).slice.pair Ty.unit))))))) 0 true [([97, 120, 105, 115], 2, 0, v, [], (0, [], [], PUnit.unit), [], PUnit.unit)]), (2, AObj.arr 9 Ty.str 0 false [[120], [121]]), (3, AObj.arr 3 (i64T) 0 false v6)], nx := 7 } k
      else (idx d1 i).bind fun v3 =>
          bif !v1 == v3 then k (AEx.panic 123 4) { fr := mkFr 6 [(1, AV.d (i64T).slice d1), (5, I a), (6, AV.os 3 0), (9, I i), (10, I v1), (21, AV.d (Ty.str.pair ((i64T).pair ((i64T).slice.pair Ty.unit))).slice [([], t2, d2, PUnit.unit)]), (22, I 1), (23, I 0), (35, AV.d (i64T).slice d2), (36, I (Int.ofNat d2.length)), (37, I i), (38, B true), (39, I i), (40, AV.ip (i64T) v1), (41, I v1), (42, I i), (43, I a), (44, B false), (52, I v1), (53, AV.d (i64T).slice d1), (54, I i), (55, AV.ip (i64T) v3), (56, I v3), (57, B (v1 == v3))], hp := [(0, AObj.arr 49 (Ty.str.pair ((i64T).pair ((i64T).slice.pair Ty.unit))) 0 true [([], t1, d1, PUnit.unit), ([], t2, d2, PUnit.unit)]), (1, AObj.arr 37 (Ty.str.pair ((i64T).pair ((i64T).pair ((i64T).pair (Ty.str.pair (((i64T).pair ((i64T).slice.pair ((i64T).slice.pair Ty.unit))).pair ((i64T).slice.pair Ty.unit))))))) 0 true [([97, 120, 105, 115], 2, 0, v, [], (0, [], [], PUnit.unit), [], PUnit.unit)]), (2, AObj.arr 9 Ty.str 0 false [[120], [121]]), (3, AObj.arr 3 (i64T) 0 false out)], nx := 7 }
          else lp gMc cf_mcc (cL (cL (cR (cR (cR (cL (cL (cR (cR (cL (cL (cR (cL (cR (cR (cR C_mcc)))))))))))))))) n { fr := mkFr 6 [(1, AV.d (i64T).slice d1), (5, I a), (6, AV.os 3 0), (21, AV.d (Ty.str.pair ((i64T).pair ((i64T).slice.pair Ty.unit))).slice [([], t2, d2, PUnit.unit)]), (22, I 1), (23, I 0), (35, AV.d (i64T).slice d2), (36, I (Int.ofNat d2.length)), (37, I (IntKind.i64.wrap (i + 1)))], hp := [(0, AObj.arr 49 (Ty.str.pair ((i64T).pair ((i64T).slice.pair Ty.unit))) 0 true [([], t1, d1, PUnit.unit), ([], t2, d2, PUnit.unit)]), (1, AObj.arr 37 (Ty.str.pair ((i64T).pair ((i64T).pair ((i64T).pair (Ty.str.pair (((i64T).pair ((i64T).slice.pair ((i64T).slice.pair Ty.unit))).pair ((i64T).slice.pair Ty.unit))))))) 0 true [([97, 120, 105, 115], 2, 0, v, [], (0, [], [], PUnit.unit), [], PUnit.unit)]), (2, AObj.arr 9 Ty.str 0 false [[120], [121]]), (3, AObj.arr 3 (i64T) 0 false out)], nx := 7 } k
  else k (AEx.exit 2) { fr := mkFr 6 [(1, AV.d (i64T).slice d1), (5, I a), (6, AV.os 3 0), (21, AV.d (Ty.str.pair ((i64T).pair ((i64T).slice.pair Ty.unit))).slice [([], t2, d2, PUnit.unit)]), (22, I 1), (23, I 0), (35, AV.d (i64T).slice d2), (36, I (Int.ofNat d2.length)), (37, I i), (38, B false)], hp := [(0, AObj.arr 49 (Ty.str.pair ((i64T).pair ((i64T).slice.pair Ty.unit))) 0 true [([], t1, d1, PUnit.unit), ([], t2, d2, PUnit.unit)]), (1, AObj.arr 37 (Ty.str.pair ((i64T).pair ((i64T).pair ((i64T).pair (Ty.str.pair (((i64T).pair ((i64T).slice.pair ((i64T).slice.pair Ty.unit))).pair ((i64T).slice.pair Ty.unit))))))) 0 true [([97, 120, 105, 115], 2, 0, v, [], (0, [], [], PUnit.unit), [], PUnit.unit)]), (2, AObj.arr 9 Ty.str 0 false [[120], [121]]), (3, AObj.arr 3 (i64T) 0 false out)], nx := 7 } := by
  have h := m1_aH (hlp gMc cf_mcc) a i out v t1 t2 d1 d2 n k
  simp only [lpH_lp] at h
  exact h
noncomputable def KM0 : AEx → LSt → Option (AEnd × LHp) := (blkK 0 (seqH gMc cf_mcc [4, 8] (hlp gMc cf_mcc) (cR (cR (cR (cR C_mcc)))) (endC Tryz.prog 3 Tryz.f163.results.toList ah)))
noncomputable def KM1 (n : Nat) {R : Type} (k : AEx → LSt → Option R) : AEx → LSt → Option R := (blkK 2 (blkK 1 (seqH gMc cf_mcc [4, 8] (hlp gMc cf_mcc) (cR (cR (cR (cL (cL (cR (cL (cR (cR (cR C_mcc)))))))))) (nxtH gMc cf_mcc [4, 8] (hlp gMc cf_mcc) (cL (cL (cR (cL (cR (cR (cR C_mcc))))))) n k))))
theorem m1_x (a i : Int) (out : List Int) (v t1 t2 : Int) (d1 d2 : List Int) (n : Nat) {R : Type} (k : AEx → LSt → Option R) : KM1 n k (.exit 2) { fr := mkFr 6 [(1, AV.d (i64T).slice d1), (5, I a), (6, AV.os 3 0), (21, AV.d (Ty.str.pair ((i64T).pair ((i64T).slice.pair Ty.unit))).slice [([], t2, d2, PUnit.unit)]), (22, I 1), (23, I 0), (35, AV.d (i64T).slice d2), (36, I (Int.ofNat d2.length)), (37, I i), (38, B false)], hp := (stM1 a i out v t1 t2 d1 d2).hp, nx := 7 } =
    lp gMc cf_mcc (cL (cL (cR (cL (cR (cR (cR C_mcc))))))) n (stM0 a 1 out v t1 t2 d1 d2) k :=
  Eq.trans (b := lpH gMc cf_mcc [4, 8] (hlp gMc cf_mcc) (cL (cL (cR (cL (cR (cR (cR C_mcc))))))) n (stM0 a 1 out v t1 t2 d1 d2) k) (by kernel_rfl) lpH_lp
theorem m0_x (a : Int) (out : List Int) (v t1 t2 : Int) (d1 d2 : List Int) : KM0 (.exit 0) { fr := mkFr 6 [(1, AV.d (i64T).slice d1), (5, I a), (6, AV.os 3 0), (21, AV.d (Ty.str.pair ((i64T).pair ((i64T).slice.pair Ty.unit))).slice [([], t2, d2, PUnit.unit)]), (22, I 1), (23, I 1), (24, B false)], hp := (stM0 a 1 out v t1 t2 d1 d2).hp, nx := 7 } =
  some (AEnd.ret [AV.os 3 0], [(0, AObj.arr 49 (Ty.str.pair ((i64T).pair ((i64T).slice.pair Ty.unit))) 0 true [([], t1, d1, PUnit.unit), ([], t2, d2, PUnit.unit)]), (1, AObj.arr 37 (Ty.str.pair ((i64T).pair ((i64T).pair ((i64T).pair (Ty.str.pair (((i64T).pair ((i64T).slice.pair ((i64T).slice.pair Ty.unit))).pair ((i64T).slice.pair Ty.unit))))))) 0 true [([97, 120, 105, 115], 2, 0, v, [], (0, [], [], PUnit.unit), [], PUnit.unit)]), (2, AObj.arr 9 Ty.str 0 false [[120], [121]]), (3, AObj.arr 3 (i64T) 0 false out)]) := by kernel_rfl
end Go.Proofs.XGT
namespace Go.Proofs.XGT
open Go.Vm Go
set_option maxRecDepth 100000
set_option maxHeartbeats 1000000
theorem dot_dig : ∀ {ds : List Nat} {q : Nat}, q < prodN ds → dot (dig ds q) (strN ds) = q
  | [], q, h => by have h : q < 1 := h; show 0 = q; omega
  | d :: r, q, h => by
    have h : q < d * prodN r := h
    have hP : 0 < prodN r := by
      rcases Nat.eq_zero_or_pos (prodN r) with h0 | h0
      · rw [h0, Nat.mul_zero] at h; omega
      · exact h0
    show q / prodN r * prodN r + dot (dig r (q % prodN r)) (strN r) = q
    rw [dot_dig (Nat.mod_lt _ hP), Nat.mul_comm]
    exact Nat.div_add_mod _ _
theorem nodup_le : ∀ (N : Nat) {l : List Nat}, l.Nodup → (∀ x ∈ l, x < N) → l.length ≤ N
  | 0, [], _, _ => Nat.le_refl _
  | 0, x :: _, _, h => absurd (h x (by simp)) (Nat.not_lt_zero _)
  | N + 1, l, hd, h => by
    by_cases hm : N ∈ l
    · have h1 := nodup_le N (l := l.erase N) (hd.erase N) fun x hx => by
        have := h x (List.mem_of_mem_erase hx)
        have hne : x ≠ N := ((hd.mem_erase_iff).1 hx).1
        omega
      rw [List.length_erase_of_mem hm] at h1
      omega
    · have h1 := nodup_le N hd fun x hx => by
        have := h x hx
        have hne : x ≠ N := fun e => hm (e ▸ hx)
        omega
      omega
theorem nodup_perm : ∀ (N : Nat) {l : List Nat}, l.Nodup → (∀ x ∈ l, x < N) → l.length = N → l.Perm (List.range N)
  | 0, [], _, _, _ => List.Perm.nil
  | N + 1, l, hd, h, hl => by
    have hm : N ∈ l := by
      rcases Classical.em (N ∈ l) with hm | hm
      · exact hm
      · have h1 := nodup_le N hd fun x hx => by
          have := h x hx
          have hne : x ≠ N := fun e => hm (e ▸ hx)
          omega
        omega
    have h1 := nodup_perm N (l := l.erase N) (hd.erase N) (fun x hx => by
      have := h x (List.mem_of_mem_erase hx)
      have hne : x ≠ N := ((hd.mem_erase_iff).1 hx).1
      omega) (by rw [List.length_erase_of_mem hm]; omega)
    rw [List.range_succ]
    exact (List.perm_cons_erase hm).trans ((h1.cons N).trans (List.perm_append_singleton N (List.range N)).symm)
/-- back leads back: l then back is nothing, back then l is nothing -/
structure Opp (l back : List Nat) : Prop where
  len : back.length = l.length
  one : ∀ j, j < l.length → back.getD (l.getD j 0) 0 = j
  lt : ∀ j, j < l.length → l.getD j 0 < l.length
  pm : l.Perm (List.range l.length)
theorem Opp.two {l back : List Nat} (h : Opp l back) : ∀ k, k < l.length → l.getD (back.getD k 0) 0 = k := by
  intro k hk
  have hm : k ∈ l := h.pm.symm.subset (List.mem_range.2 hk)
  obtain ⟨j, hj, rfl⟩ := List.mem_iff_getElem.1 hm
  have e : l[j] = l.getD j 0 := by rw [List.getD_eq_getElem?_getD, List.getElem?_eq_getElem hj]; rfl
  rw [e, h.one j hj]
theorem Opp.lt2 {l back : List Nat} (h : Opp l back) : ∀ k, k < l.length → back.getD k 0 < l.length := by
  intro k hk
  have hm : k ∈ l := h.pm.symm.subset (List.mem_range.2 hk)
  obtain ⟨j, hj, rfl⟩ := List.mem_iff_getElem.1 hm
  have e : l[j] = l.getD j 0 := by rw [List.getD_eq_getElem?_getD, List.getElem?_eq_getElem hj]; rfl
  rw [e, h.one j hj]
  exact hj
theorem Opp.pm2 {l back : List Nat} (h : Opp l back) : back.Perm (List.range l.length) := by
  refine nodup_perm l.length ?_ (fun x hx => ?_) h.len
  · refine List.pairwise_iff_getElem.2 fun i j hi hj hij e => ?_
    have e1 : back[i] = back.getD i 0 := by rw [List.getD_eq_getElem?_getD, List.getElem?_eq_getElem hi]; rfl
    have e2 : back[j] = back.getD j 0 := by rw [List.getD_eq_getElem?_getD, List.getElem?_eq_getElem hj]; rfl
    rw [e1, e2] at e
    rw [h.len] at hi hj
    have h1 := h.two i hi
    have h2 := h.two j hj
    rw [e, h2] at h1
    omega
  · obtain ⟨k, hk, rfl⟩ := List.mem_iff_getElem.1 hx
    have e : back[k] = back.getD k 0 := by rw [List.getD_eq_getElem?_getD, List.getElem?_eq_getElem hk]; rfl
    rw [e]
    exact h.lt2 k (by rw [← h.len]; exact hk)
theorem Opp.symm {l back : List Nat} (h : Opp l back) : Opp back l :=
  ⟨h.len.symm, fun j hj => h.two j (by rw [← h.len]; exact hj), fun j hj => by rw [h.len] at hj ⊢; exact h.lt2 j hj, by rw [h.len]; exact h.pm2⟩
end Go.Proofs.XGT
namespace Go.Proofs.XGT
open Go.Vm Go
set_option maxRecDepth 100000
set_option maxHeartbeats 1000000
theorem ints_getD (D : List Nat) (k : Nat) : (ints D).getD k 0 = ((D.getD k 0 : Nat) : Int) := by
  unfold ints
  rw [List.getD_eq_getElem?_getD, List.getD_eq_getElem?_getD, List.getElem?_map]
  cases D[k]? <;> rfl
theorem count_ints {D : List Nat} (h1 : ∀ x ∈ D, 1 ≤ x) (h2 : prodN D ≤ 65536) (h3 : D.length ≤ 6) : countE (ints D) = 0 := by
  refine (countE_mk (xs := ints D) (fun v hv => ?_) (by rw [ints_len]; exact h3) (by rw [prodI_ints]; omega)).1
  obtain ⟨y, hy, rfl⟩ := List.mem_map.1 hv
  have := h1 y hy
  omega
theorem idx_in {xs : List Int} {p : Int} (h0 : 0 ≤ p) (h1 : p < xs.length) : idx xs p = some (xs.getD p.toNat 0) := by
  unfold idx
  rw [if_pos h0, List.getD_eq_getElem?_getD, List.getElem?_eq_getElem (by omega)]
  rfl
theorem get_in {xs : List Int} {p : Int} (h0 : 0 ≤ p) (h1 : p < xs.length) : xs[p.toNat]? = some (xs.getD p.toNat 0) := by
  rw [List.getD_eq_getElem?_getD, List.getElem?_eq_getElem (by omega)]
  rfl
theorem strI_len (d : List Int) : (strI d).length = d.length := by unfold strI; rw [ints_len, strN_len, List.length_map]
theorem strN_le : ∀ {D : List Nat}, (∀ x ∈ D, 1 ≤ x) → ∀ s ∈ strN D, s ≤ prodN D
  | [], _, s, hs => by cases hs
  | d :: r, h, s, hs => by
    have h1 := h d (by simp)
    have h2 : ∀ x ∈ r, 1 ≤ x := fun x hx => h x (by simp [hx])
    have h4 : prodN r ≤ d * prodN r := Nat.le_mul_of_pos_left _ h1
    rcases List.mem_cons.1 (show s ∈ prodN r :: strN r from hs) with rfl | hs
    · exact h4
    · exact Nat.le_trans (strN_le h2 s hs) h4
theorem far_nat {s : Nat} (h : s ≤ 65536) : farB (s : Int) = false := by
  unfold farB
  rw [decide_eq_false (by omega), cond_false]
  exact decide_eq_false (by omega)
theorem fine_ints {D S : List Nat} (h1 : ∀ x ∈ D, 1 ≤ x) (h2 : prodN D ≤ 65536) (h3 : D.length ≤ 6) (h4 : S.length = D.length) (h5 : ∀ s ∈ S, s ≤ 65536) {o : Nat} (ho : o < 65536) : okFine (o : Int) (ints D) (ints S) = true := by
  refine decide_eq_true ⟨count_ints h1 h2 h3, by rw [ints_len, ints_len]; exact h4, by omega, by omega, fun x hx => ?_⟩
  obtain ⟨y, hy, rfl⟩ := List.mem_map.1 hx
  exact far_nat (h5 y hy)
theorem ints_toNat (D : List Nat) : (ints D).map Int.toNat = D := by
  unfold ints
  rw [List.map_map]
  exact List.map_id' D
theorem strI_ints (D : List Nat) : strI (ints D) = ints (strN D) := by unfold strI; rw [ints_toNat]
theorem fine_str {d : List Int} (hc : countE d = 0) : okFine 0 d (strI d) = true := by
  obtain ⟨D, rfl, _, h1, h2, h3⟩ := nat_dims hc
  rw [strI_ints]
  exact fine_ints (o := 0) h1 h2 h3 (strN_len _) (fun s hs => Nat.le_trans (strN_le h1 s hs) h2) (by decide)
end Go.Proofs.XGT
namespace Go.Proofs.XGT
open Go.Vm Go
set_option maxRecDepth 100000
set_option maxHeartbeats 1000000
theorem prodN_mid (D1 D2 : List Nat) (n : Nat) : prodN (D1 ++ n :: D2) = prodN D1 * (n * prodN D2) := by rw [prodN_app]; rfl
theorem dot_cut {D2 : List Nat} {n m : Nat} : ∀ (D1 : List Nat) (q : Nat), q < prodN (D1 ++ n :: D2) → dot (dig (D1 ++ n :: D2) q) (strN (D1 ++ m :: D2)) = q / (n * prodN D2) * (m * prodN D2) + q % (n * prodN D2)
  | [], q, h => by
    have h : q < n * prodN D2 := h
    have hP : 0 < prodN D2 := by
      rcases Nat.eq_zero_or_pos (prodN D2) with h0 | h0
      · rw [h0, Nat.mul_zero] at h; omega
      · exact h0
    show q / prodN D2 * prodN D2 + dot (dig D2 (q % prodN D2)) (strN D2) = _
    rw [dot_dig (Nat.mod_lt _ hP), Nat.div_eq_of_lt h, Nat.mod_eq_of_lt h, Nat.zero_mul, Nat.zero_add, Nat.mul_comm]
    exact Nat.div_add_mod _ _
  | c :: D1, q, h => by
    have h : q < c * prodN (D1 ++ n :: D2) := h
    have hB : 0 < prodN (D1 ++ n :: D2) := by
      rcases Nat.eq_zero_or_pos (prodN (D1 ++ n :: D2)) with h0 | h0
      · rw [h0, Nat.mul_zero] at h; omega
      · exact h0
    have ih := dot_cut (m := m) D1 (q % prodN (D1 ++ n :: D2)) (Nat.mod_lt _ hB)
    show q / prodN (D1 ++ n :: D2) * prodN (D1 ++ m :: D2) + dot (dig (D1 ++ n :: D2) (q % prodN (D1 ++ n :: D2))) (strN (D1 ++ m :: D2)) = _
    rw [ih, prodN_mid, prodN_mid]
    generalize hb : n * prodN D2 = b
    generalize hb' : m * prodN D2 = b'
    rw [prodN_mid, hb] at hB
    have hb0 : 0 < b := by
      rcases Nat.eq_zero_or_pos b with h0 | h0
      · rw [h0, Nat.mul_zero] at hB; omega
      · exact h0
    have e1 : q % (prodN D1 * b) % b = q % b := Nat.mod_mul_left_mod _ _ _
    have e2 : q / b = q / (prodN D1 * b) * prodN D1 + q % (prodN D1 * b) / b := by
      have h1 := Nat.div_add_mod q (prodN D1 * b)
      have h2 : q = (q % (prodN D1 * b)) + b * (q / (prodN D1 * b) * prodN D1) := by
        have : b * (q / (prodN D1 * b) * prodN D1) = prodN D1 * b * (q / (prodN D1 * b)) := by
          rw [Nat.mul_comm (q / (prodN D1 * b)), ← Nat.mul_assoc, Nat.mul_comm b]
        omega
      have h3 : q / b = ((q % (prodN D1 * b)) + b * (q / (prodN D1 * b) * prodN D1)) / b := congrArg (· / b) h2
      rw [h3, Nat.add_mul_div_left _ _ hb0]
      omega
    rw [e1, e2, Nat.add_mul, ← Nat.mul_assoc]
    omega
/-- the part of n from f on along a dimension of m; P2: how much stands behind it, P1: how often -/
def cutN (P1 P2 m f n : Nat) (x : List Int) : List Int := tab (P1 * (n * P2)) fun q => x.getD (f * P2 + (q / (n * P2) * (m * P2) + q % (n * P2))) 0
def joinL (P1 s1 s2 : Nat) (x1 x2 : List Int) : List Int := tab (P1 * (s1 + s2)) fun p => if p % (s1 + s2) < s1 then x1.getD (p / (s1 + s2) * s1 + p % (s1 + s2)) 0 else x2.getD (p / (s1 + s2) * s2 + (p % (s1 + s2) - s1)) 0
theorem vwL_cut {D1 D2 : List Nat} {m n f : Nat} {x : List Int} : vwL (f * prodN D2) (D1 ++ n :: D2) (strN (D1 ++ m :: D2)) x = cutN (prodN D1) (prodN D2) m f n x := by
  unfold vwL cutN
  rw [prodN_mid]
  refine tab_congr fun q hq => ?_
  rw [dot_cut D1 q (by rw [prodN_mid]; exact hq)]
theorem cutN_len (P1 P2 m f n : Nat) (x : List Int) : (cutN P1 P2 m f n x).length = P1 * (n * P2) := tab_length _ _
theorem cutN_at {P1 P2 m f n : Nat} {x : List Int} {i r : Nat} (hi : i < P1) (hr : r < n * P2) : (cutN P1 P2 m f n x).getD (i * (n * P2) + r) 0 = x.getD (f * P2 + (i * (m * P2) + r)) 0 := by
  have h1 : (i + 1) * (n * P2) ≤ P1 * (n * P2) := Nat.mul_le_mul_right _ hi
  rw [Nat.add_mul, Nat.one_mul] at h1
  have hq : i * (n * P2) + r < P1 * (n * P2) := by omega
  have e1 : (i * (n * P2) + r) / (n * P2) = i := by rw [Nat.mul_comm, Nat.mul_add_div (by omega), Nat.div_eq_of_lt hr, Nat.add_zero]
  have e2 : (i * (n * P2) + r) % (n * P2) = r := by rw [Nat.mul_comm, Nat.mul_add_mod, Nat.mod_eq_of_lt hr]
  unfold cutN
  rw [List.getD_eq_getElem?_getD, tab_get hq, e1, e2]
  rfl
theorem joined {P1 P2 m n1 n2 : Nat} {x : List Int} (hm : n1 + n2 = m) (hx : x.length = P1 * (m * P2)) : joinL P1 (n1 * P2) (n2 * P2) (cutN P1 P2 m 0 n1 x) (cutN P1 P2 m n1 n2 x) = x := by
  have hs : n1 * P2 + n2 * P2 = m * P2 := by rw [← Nat.add_mul, hm]
  unfold joinL
  rw [hs]
  apply List.ext_getElem?
  intro p
  by_cases hp : p < P1 * (m * P2)
  · have hP : 0 < m * P2 := by
      rcases Nat.eq_zero_or_pos (m * P2) with h0 | h0
      · rw [h0, Nat.mul_zero] at hp; omega
      · exact h0
    have hi : p / (m * P2) < P1 := Nat.div_lt_of_lt_mul (by rw [Nat.mul_comm]; exact hp)
    have hr : p % (m * P2) < m * P2 := Nat.mod_lt _ hP
    have hpe : p / (m * P2) * (m * P2) + p % (m * P2) = p := by rw [Nat.mul_comm]; exact Nat.div_add_mod _ _
    have hxp : x[p]? = some (x.getD p 0) := by rw [List.getD_eq_getElem?_getD, List.getElem?_eq_getElem (by rw [hx]; exact hp)]; rfl
    rw [tab_get hp, hxp]
    congr 1
    by_cases h : p % (m * P2) < n1 * P2
    · rw [if_pos h, cutN_at hi h, Nat.zero_mul, Nat.zero_add, hpe]
    · rw [if_neg h, cutN_at hi (by omega)]
      congr 1
      omega
  · rw [List.getElem?_eq_none (by rw [tab_length]; omega), List.getElem?_eq_none (by omega)]
end Go.Proofs.XGT
namespace Go.Proofs.XGT
open Go.Vm Go
set_option maxRecDepth 100000
set_option maxHeartbeats 4000000
theorem set_inJ {xs : List Int} {p v : Int} (h0 : 0 ≤ p) (h1 : p < xs.length) : setN xs p.toNat v = some (xs.set p.toNat v) := by
  unfold setN
  rw [show Nat.blt p.toNat xs.length = true from Nat.ble_eq_true_of_le (by omega), cond_true]
def axN (k : Int) (d : List Int) : Nat := (axV k (Int.ofNat d.length)).toNat
def slN (d : List Int) (s e k : Int) : Int := IntKind.i64.wrap (bndI e (d.getD (axN k d) 0) - bndI s (d.getD (axN k d) 0))
def slB (d : List Int) (s e k : Int) : Bool := axB k (Int.ofNat d.length) && decide (0 < slN d s e k)
theorem ax_ok {k : Int} {d : List Int} (h6 : d.length ≤ 6) (h : axB k (Int.ofNat d.length) = true) : 0 ≤ axV k (Int.ofNat d.length) ∧ axV k (Int.ofNat d.length) < d.length := by
  unfold axB at h
  simp only [Bool.and_eq_true, decide_eq_true_eq, Int.ofNat_eq_natCast] at h
  obtain ⟨h1, h2⟩ := h
  rw [wrap64 (by omega) (by omega)] at h1
  unfold axV
  simp only [Int.ofNat_eq_natCast]
  by_cases hk : k < 0
  · rw [decide_eq_true hk, cond_true, wrap64 (by omega) (by omega)]
    omega
  · rw [decide_eq_false hk, cond_false]
    omega
theorem bnd_in {k m : Int} (h0 : 0 ≤ m) : 0 ≤ bndI k m ∧ bndI k m ≤ m := by
  unfold bndI
  generalize IntKind.i64.wrap (k + m) = a
  cases decide (k < 0) with
  | true =>
    rw [cond_true]
    by_cases h1 : m < a
    · rw [if_pos h1]; by_cases h2 : m > 0
      · rw [if_pos h2]; omega
      · rw [if_neg h2]; omega
    · rw [if_neg h1]; by_cases h2 : a > 0
      · rw [if_pos h2]; omega
      · rw [if_neg h2]; omega
  | false =>
    rw [cond_false]
    by_cases h1 : m < k
    · rw [if_pos h1]; by_cases h2 : m > 0
      · rw [if_pos h2]; omega
      · rw [if_neg h2]; omega
    · rw [if_neg h1]; by_cases h2 : k > 0
      · rw [if_pos h2]; omega
      · rw [if_neg h2]; omega
/-- dims that may be, about an axis -/
structure Mid (d : List Int) (A : Nat) (D1 D2 : List Nat) (m : Nat) : Prop where
  eq : d = ints (D1 ++ m :: D2)
  len : D1.length = A
  one : ∀ x ∈ D1 ++ m :: D2, 1 ≤ x
  prod : prodN (D1 ++ m :: D2) ≤ 65536
  rank : (D1 ++ m :: D2).length ≤ 6
theorem mid_of {d : List Int} {A : Nat} (hc : countE d = 0) (h : A < d.length) : ∃ D1 D2 m, Mid d A D1 D2 m := by
  obtain ⟨D, rfl, _, h1, h2, h3⟩ := nat_dims hc
  rw [ints_len] at h
  have e : D = D.take A ++ D[A] :: D.drop (A + 1) := by
    rw [← List.drop_eq_getElem_cons h, List.take_append_drop]
  refine ⟨D.take A, D.drop (A + 1), D[A], ⟨congrArg ints e, by rw [List.length_take]; omega, ?_, ?_, ?_⟩⟩ <;> rw [← e] <;> assumption
theorem ints_app (a b : List Nat) : ints (a ++ b) = ints a ++ ints b := by unfold ints; rw [List.map_append]
theorem Mid.get {d : List Int} {A : Nat} {D1 D2 : List Nat} {m : Nat} (h : Mid d A D1 D2 m) : d.getD A 0 = (m : Int) := by
  rw [h.eq, ints_getD, List.getD_eq_getElem?_getD, List.getElem?_append_right (by rw [h.len]; exact Nat.le_refl _), h.len, Nat.sub_self]
  rfl
theorem Mid.set {d : List Int} {A : Nat} {D1 D2 : List Nat} {m : Nat} (h : Mid d A D1 D2 m) (n : Nat) : d.set A (n : Int) = ints (D1 ++ n :: D2) := by
  rw [h.eq, ints_app, ints_app, ints_cons, ints_cons, List.set_append_right _ _ (by rw [ints_len, h.len]; exact Nat.le_refl _), ints_len, h.len, Nat.sub_self]
  rfl
theorem Mid.str {d : List Int} {A : Nat} {D1 D2 : List Nat} {m : Nat} (h : Mid d A D1 D2 m) : (strI d).getD A 0 = ((prodN D2 : Nat) : Int) := by
  have e : ∀ (D1 : List Nat), (strN (D1 ++ m :: D2)).getD D1.length 0 = prodN D2 := by
    intro D1
    induction D1 with
    | nil => rfl
    | cons a r ih => exact ih
  rw [h.eq, strI_ints, ints_getD, ← h.len, e]
theorem Mid.m1 {d : List Int} {A : Nat} {D1 D2 : List Nat} {m : Nat} (h : Mid d A D1 D2 m) : 1 ≤ m := h.one m (by simp)
theorem Mid.lt {d : List Int} {A : Nat} {D1 D2 : List Nat} {m : Nat} (h : Mid d A D1 D2 m) : A < d.length := by rw [h.eq, ints_len, List.length_append, List.length_cons, ← h.len]; omega
/-- with another number there, no greater -/
theorem Mid.cut {d : List Int} {A : Nat} {D1 D2 : List Nat} {m n : Nat} (h : Mid d A D1 D2 m) (h1 : 1 ≤ n) (h2 : n ≤ m) : Mid (d.set A (n : Int)) A D1 D2 n := by
  refine ⟨h.set n, h.len, fun x hx => ?_, ?_, ?_⟩
  · rcases List.mem_append.1 hx with hx | hx
    · exact h.one x (by simp [hx])
    · rcases List.mem_cons.1 hx with rfl | hx
      · exact h1
      · exact h.one x (by simp [hx])
  · refine Nat.le_trans ?_ h.prod
    rw [prodN_mid, prodN_mid]
    exact Nat.mul_le_mul_left _ (Nat.mul_le_mul_right _ h2)
  · have := h.rank
    simp only [List.length_append, List.length_cons] at this ⊢
    omega
theorem Mid.count {d : List Int} {A : Nat} {D1 D2 : List Nat} {m : Nat} (h : Mid d A D1 D2 m) : countE d = 0 := by rw [h.eq]; exact count_ints h.one h.prod h.rank
theorem Mid.mle {d : List Int} {A : Nat} {D1 D2 : List Nat} {m : Nat} (h : Mid d A D1 D2 m) : m ≤ 65536 := Nat.le_trans (le_prodN h.one m (by simp)) h.prod
def sbOk (t : Int) (d x : List Int) (s e k : Int) : AEnd × LHp := (.ret [(AV.d Ty.str [121]).pr ((I t).pr ((AV.os 3 0).pr (AV.d Ty.unit PUnit.unit))), I 0], hpTb true t d x (at3 s e k) ++ [(3, .arr 3 i64T 0 false (d.set (axN k d) (slN d s e k)))])
theorem sb_run {t s e k : Int} {d x : List Int} (hx : x.length ≤ maxLen) (hd : d.length ≤ maxLen) (ht : tenE t d x = 0) : runC gSb Tryz.f42 6 [(3, [2, 4, 6, 9, 10, 11])] [nodeA strSL [] [121] (.os 2 0) (.os 1 0), .os 0 0] (hpTb false t d x (at3 s e k)) ah =
    bif slB d s e k then some (sbOk t d x s e k) else some (.ret [zeroV, I 4], hpTb true t d x (at3 s e k)) := by
  obtain ⟨n1, n2, _⟩ := ten_ok ht
  obtain ⟨_, h6, _⟩ := count_ok n2
  rw [show slB d s e k = (axB k (Int.ofNat d.length) && decide (0 < slN d s e k)) from rfl]
  rw [sb_eq, decide_eq_true (show d.length ≤ 9223372036854775807 ∧ x.length ≤ 9223372036854775807 from ⟨hd, hx⟩), ht, n1, decide_eq_true (show d.length ≤ 9223372036854775807 from hd), n2]
  cases hb : axB k (Int.ofNat d.length) with
  | false => cases t == 6 <;> rfl
  | true =>
    obtain ⟨a0, a1⟩ := ax_ok h6 hb
    have hA : axN k d < d.length := by unfold axN; omega
    obtain ⟨D1, D2, m, hm⟩ := mid_of n2 hA
    have i1 := idx_in (xs := d) a0 a1
    have i2 := set_inJ (xs := d) (v := slN d s e k) a0 a1
    have hl2 : ((d.set (axN k d) (slN d s e k)).length : Int) = d.length := by rw [List.length_set]
    have i3 := idx_in (xs := d.set (axN k d) (slN d s e k)) (p := axV k (Int.ofNat d.length)) a0 (by omega)
    have i4 := get_in (xs := d.set (axN k d) (slN d s e k)) (p := axV k (Int.ofNat d.length)) a0 (by omega)
    have g : (d.set (axN k d) (slN d s e k)).getD (axV k (Int.ofNat d.length)).toNat 0 = slN d s e k := by
      show (d.set (axN k d) (slN d s e k)).getD (axN k d) 0 = _
      rw [List.getD_eq_getElem?_getD, List.getElem?_set_self hA]
      rfl
    have hdn : d ≠ [] := fun e => by rw [e] at hA; exact absurd hA (Nat.not_lt_zero _)
    rw [decide_eq_true (show d ≠ [] ∧ d.length ≤ 65536 from ⟨hdn, by omega⟩), i1]
    simp only [Option.bind_some]
    rw [show setN d (axV k (Int.ofNat d.length)).toNat (IntKind.i64.wrap (bndI e (d.getD (axV k (Int.ofNat d.length)).toNat 0) - bndI s (d.getD (axV k (Int.ofNat d.length)).toNat 0))) = some (d.set (axN k d) (slN d s e k)) from i2]
    simp only [Option.bind_some]
    rw [i3, i4, g]
    simp only [Option.bind_some]
    rw [show decide (slN d s e k > 0) = decide (0 < slN d s e k) from rfl]
    cases hp : decide (0 < slN d s e k) with
    | false => cases t == 6 <;> rfl
    | true =>
      have hp := of_decide_eq_true hp
      have hgm := hm.get
      have b1 := bnd_in (k := e) (m := (m : Int)) (by omega)
      have b2 := bnd_in (k := s) (m := (m : Int)) (by omega)
      have hmle := hm.mle
      have hs : slN d s e k = bndI e m - bndI s m := by
        unfold slN
        rw [hgm]
        exact wrap64 (by omega) (by omega)
      obtain ⟨n, hn⟩ := Int.eq_ofNat_of_zero_le (show 0 ≤ slN d s e k by omega)
      have hcut := hm.cut (n := n) (by omega) (by omega)
      rw [← hn] at hcut
      rw [decide_eq_true (show (d.set (axN k d) (slN d s e k)).length ≤ 9223372036854775807 by omega), hcut.count, decide_eq_true (show d.set (axN k d) (slN d s e k) ≠ [] ∧ (d.set (axN k d) (slN d s e k)).length ≤ 65536 from ⟨fun e => by rw [e] at hl2; simp only [List.length_nil] at hl2; omega, by omega⟩)]
      cases t == 6 <;> rfl
end Go.Proofs.XGT
namespace Go.Proofs.XGT
open Go.Vm Go
set_option maxRecDepth 100000
set_option maxHeartbeats 4000000
theorem first_eq {s m : Int} (h0 : 0 < m) (hlt : bndI s m < m) : bndI s m = bif decide (s < 0) then (if IntKind.i64.wrap (s + m) > 0 then IntKind.i64.wrap (s + m) else 0) else (if s > 0 then s else 0) := by
  unfold bndI at hlt ⊢
  cases hs : decide (s < 0) with
  | true =>
    rw [hs, cond_true] at hlt
    rw [cond_true, cond_true]
    generalize IntKind.i64.wrap (s + m) = a at hlt ⊢
    by_cases h1 : m < a
    · rw [if_pos h1, if_pos (show m > 0 from h0)] at hlt; omega
    · rw [if_neg h1]
  | false =>
    rw [hs, cond_false] at hlt
    rw [cond_false, cond_false]
    by_cases h1 : m < s
    · rw [if_pos h1, if_pos (show m > 0 from h0)] at hlt; omega
    · rw [if_neg h1]
theorem rdG_intsJ (o : Nat) (D S : List Nat) (l : List Int) : rdG (o : Int) (ints D) (ints S) l = vwL o D S l := by
  unfold rdG
  rw [ints_toNat, ints_toNat, Int.toNat_natCast]
def svL (d x : List Int) (s e k : Int) : List Int := rdG (bndI s (d.getD (axN k d) 0) * (strI d).getD (axN k d) 0) (d.set (axN k d) (slN d s e k)) (strI d) x
/-- a part that may be cut: its numbers -/
structure Cut (d x : List Int) (s e k : Int) (D1 D2 : List Nat) (m f n : Nat) : Prop where
  mid : Mid d (axN k d) D1 D2 m
  hF : bndI s (m : Int) = (f : Int)
  hN : slN d s e k = (n : Int)
  hE : bndI e (m : Int) = ((f + n : Nat) : Int)
  hone : 1 ≤ n
  hfn : f + n ≤ m
theorem cut_of {d x : List Int} {s e k : Int} (hc : countE d = 0) (hb : slB d s e k = true) : ∃ D1 D2 m f n, Cut d x s e k D1 D2 m f n := by
  obtain ⟨_, h6, _⟩ := count_ok hc
  unfold slB at hb
  rw [Bool.and_eq_true] at hb
  obtain ⟨hb, hp⟩ := hb
  have hp := of_decide_eq_true hp
  obtain ⟨a0, a1⟩ := ax_ok h6 hb
  have hA : axN k d < d.length := by unfold axN; omega
  obtain ⟨D1, D2, m, hm⟩ := mid_of hc hA
  have hgm := hm.get
  have b1 := bnd_in (k := e) (m := (m : Int)) (by omega)
  have b2 := bnd_in (k := s) (m := (m : Int)) (by omega)
  have hmle := hm.mle
  have hs : slN d s e k = bndI e m - bndI s m := by
    unfold slN
    rw [hgm]
    exact wrap64 (by omega) (by omega)
  obtain ⟨f, hf⟩ := Int.eq_ofNat_of_zero_le b2.1
  obtain ⟨n, hn⟩ := Int.eq_ofNat_of_zero_le (show 0 ≤ slN d s e k by omega)
  exact ⟨D1, D2, m, f, n, hm, hf, hn, by omega, by omega, by omega⟩
theorem Cut.eqL {d x : List Int} {s e k : Int} {D1 D2 : List Nat} {m f n : Nat} (h : Cut d x s e k D1 D2 m f n) : svL d x s e k = cutN (prodN D1) (prodN D2) m f n x := by
  unfold svL
  rw [h.mid.get, h.hF, h.mid.str, h.hN, h.mid.set, h.mid.eq, strI_ints, ← Int.natCast_mul, rdG_intsJ, vwL_cut]
theorem Cut.okRG {d x : List Int} {s e k : Int} {D1 D2 : List Nat} {m f n : Nat} (h : Cut d x s e k D1 D2 m f n) (hx : x.length = prodN (D1 ++ m :: D2)) : okRG ((f * prodN D2 : Nat) : Int) (d.set (axN k d) (slN d s e k)) (strI d) x = true := by
  have hcut := h.mid.cut (n := n) h.hone (by have := h.hfn; omega)
  have hP2 : 1 ≤ prodN D2 := prodN_pos fun y hy => h.mid.one y (by simp [hy])
  have hP1 : 1 ≤ prodN D1 := prodN_pos fun y hy => h.mid.one y (by simp [hy])
  have hfn := h.hfn
  have hn1 := h.hone
  have e1 : (f + n) * prodN D2 ≤ m * prodN D2 := Nat.mul_le_mul_right _ hfn
  have e2 : 1 * (m * prodN D2) ≤ prodN D1 * (m * prodN D2) := Nat.mul_le_mul_right _ hP1
  have e3 : 1 * prodN D2 ≤ n * prodN D2 := Nat.mul_le_mul_right _ hn1
  rw [Nat.add_mul] at e1
  have hpr := h.mid.prod
  rw [prodN_mid] at hpr hx
  unfold Go.Proofs.XGT.okRG
  rw [Bool.and_eq_true, h.hN, h.mid.set]
  constructor
  · rw [h.mid.eq, strI_ints]
    refine fine_ints (o := f * prodN D2) ?_ ?_ ?_ (by rw [strN_len, List.length_append, List.length_append]; rfl) (fun s hs => Nat.le_trans (strN_le h.mid.one s hs) h.mid.prod) (by omega)
    · exact hcut.one
    · exact hcut.prod
    · exact hcut.rank
  · refine decide_eq_true fun q hq => ?_
    rw [ints_toNat] at hq
    rw [ints_toNat, h.mid.eq, strI_ints, ints_toNat, Int.toNat_natCast, dot_cut D1 q hq, hx]
    rw [prodN_mid] at hq
    have hnP : 0 < n * prodN D2 := by omega
    have hi : q / (n * prodN D2) < prodN D1 := Nat.div_lt_of_lt_mul (by rw [Nat.mul_comm]; exact hq)
    have hr : q % (n * prodN D2) < n * prodN D2 := Nat.mod_lt _ hnP
    have e4 : (q / (n * prodN D2) + 1) * (m * prodN D2) ≤ prodN D1 * (m * prodN D2) := Nat.mul_le_mul_right _ hi
    rw [Nat.add_mul, Nat.one_mul] at e4
    omega
theorem sv_run {t s e k : Int} {d x : List Int} (ht : tenE t d x = 0) (hb : slB d s e k = true) : runC gSv Tryz.f48 7 [(4, [2, 3, 4, 7, 8, 19, 20]), (10, [2, 4, 7, 10, 32, 33, 34])] [nodeA strSL [] [121] (.os 2 0) (.os 1 0), .d (Y0) (t, d, x, ()), .os 0 0] (hpSv s e k (d.set (axN k d) (slN d s e k))) ah =
    some (.ret [.os 3 0], hpSv s e k (d.set (axN k d) (slN d s e k)) ++ [(3, .arr 2 i64T 0 false (svL d x s e k))]) := by
  obtain ⟨n1, n2, n3, _⟩ := ten_ok ht
  obtain ⟨_, h6, _, c4⟩ := count_ok n2
  have hb2 := hb
  unfold slB at hb2
  rw [Bool.and_eq_true] at hb2
  obtain ⟨a0, a1⟩ := ax_ok h6 hb2.1
  obtain ⟨D1, D2, m, f, n, h⟩ := cut_of (x := x) n2 hb
  have hA := h.mid.lt
  have hfn := h.hfn
  have hn1 := h.hone
  have hmle := h.mid.mle
  have hx : x.length = prodN (D1 ++ m :: D2) := by
    have e1 := h.mid.eq
    rw [c4, e1, prodI_ints] at n3
    omega
  have hok := h.okRG hx
  have hP2 : 1 ≤ prodN D2 := prodN_pos fun y hy => h.mid.one y (by simp [hy])
  have hP1 : 1 ≤ prodN D1 := prodN_pos fun y hy => h.mid.one y (by simp [hy])
  have hpr := h.mid.prod
  rw [prodN_mid] at hpr
  have q1 : (f + n) * prodN D2 ≤ m * prodN D2 := Nat.mul_le_mul_right _ hfn
  have q2 : 1 * (m * prodN D2) ≤ prodN D1 * (m * prodN D2) := Nat.mul_le_mul_right _ hP1
  have q3 : 1 * prodN D2 ≤ n * prodN D2 := Nat.mul_le_mul_right _ hn1
  rw [Nat.add_mul] at q1
  have hfirst := first_eq (s := s) (m := (m : Int)) (by have := h.mid.m1; omega) (by rw [h.hF]; omega)
  rw [h.hF] at hfirst
  have i1 : idx d (axV k (Int.ofNat d.length)) = some (m : Int) := (idx_in a0 a1).trans (congrArg some h.mid.get)
  have i1' : d[(axV k (Int.ofNat d.length)).toNat]? = some (m : Int) := (get_in a0 a1).trans (congrArg some h.mid.get)
  have hl2 : ((d.set (axN k d) (slN d s e k)).length : Int) = d.length := by rw [List.length_set]
  have g : (d.set (axN k d) (slN d s e k)).getD (axV k (Int.ofNat d.length)).toNat 0 = (n : Int) := by
    show (d.set (axN k d) (slN d s e k)).getD (axN k d) 0 = _
    rw [List.getD_eq_getElem?_getD, List.getElem?_set_self hA, h.hN]
    rfl
  have i2 : idx (d.set (axN k d) (slN d s e k)) (axV k (Int.ofNat d.length)) = some (n : Int) := (idx_in a0 (by omega)).trans (congrArg some g)
  have i2' : (d.set (axN k d) (slN d s e k))[(axV k (Int.ofNat d.length)).toNat]? = some (n : Int) := (get_in a0 (by omega)).trans (congrArg some g)
  have hsl : ((strI d).length : Int) = d.length := by rw [strI_len]
  have i3 : idx (strI d) (axV k (Int.ofNat d.length)) = some ((prodN D2 : Nat) : Int) := (idx_in a0 (by omega)).trans (congrArg some h.mid.str)
  have i3' : (strI d)[(axV k (Int.ofNat d.length)).toNat]? = some ((prodN D2 : Nat) : Int) := (get_in a0 (by omega)).trans (congrArg some h.mid.str)
  have i4 : setN d (axV k (Int.ofNat d.length)).toNat (n : Int) = some (d.set (axN k d) (slN d s e k)) := by rw [h.hN]; exact set_inJ a0 a1
  have hdn : d ≠ [] := fun e => by rw [e] at hA; exact absurd hA (Nat.not_lt_zero _)
  have hsn : strI d ≠ [] := fun e => by rw [e] at hsl; simp only [List.length_nil] at hsl; omega
  have w1 : IntKind.i64.wrap ((f : Int) + (n : Int)) = ((f + n : Nat) : Int) := by rw [wrap64 (by omega) (by omega)]; omega
  have w2 : IntKind.i64.wrap (((f + n : Nat) : Int) - (f : Int)) = (n : Int) := by rw [wrap64 (by omega) (by omega)]; omega
  have w3 : IntKind.i64.wrap ((f : Int) * ((prodN D2 : Nat) : Int)) = ((f * prodN D2 : Nat) : Int) := by rw [← Int.natCast_mul, wrap64 (by omega) (by omega)]
  have w4 : IntKind.i64.wrap (0 + ((f * prodN D2 : Nat) : Int)) = ((f * prodN D2 : Nat) : Int) := by rw [Int.zero_add, wrap64 (by omega) (by omega)]
  have eL : rdG ((f * prodN D2 : Nat) : Int) (d.set (axN k d) (slN d s e k)) (strI d) x = svL d x s e k := by
    unfold svL
    rw [h.mid.get, h.hF, h.mid.str, ← Int.natCast_mul]
  rw [sv_eq, decide_eq_true (show countE d = 0 ∧ d ≠ [] from ⟨n2, hdn⟩), cond_true]
  have fin : ∀ F : Int, F = (f : Int) → (bif okFine 0 d (strI d) then
      bif decide (axV k (Int.ofNat d.length) < 0) then none
      else bif decide (axV k (Int.ofNat d.length) ≥ Int.ofNat d.length) then none
      else bif decide (F < 0) then none
      else (idx d (axV k (Int.ofNat d.length))).bind fun _ => (d[(axV k (Int.ofNat d.length)).toNat]?).bind fun v9 =>
        bif decide (IntKind.i64.wrap (F + (n : Int)) > v9) then none
        else bif decide (F ≥ IntKind.i64.wrap (F + (n : Int))) then none
        else (idx (strI d) (axV k (Int.ofNat d.length))).bind fun _ => ((strI d)[(axV k (Int.ofNat d.length)).toNat]?).bind fun v13 =>
          bif decide (IntKind.i64.wrap (0 + IntKind.i64.wrap (F * v13)) ≥ 65536) then none
          else bif decide (d ≠ [] ∧ d.length ≤ 65536) then
            bif decide (strI d ≠ [] ∧ (strI d).length ≤ 65536) then (idx (strI d) (axV k (Int.ofNat d.length))).bind fun _ => ((strI d)[(axV k (Int.ofNat d.length)).toNat]?).bind fun v18 =>
              (idx d (axV k (Int.ofNat d.length))).bind fun _ => (setN d (axV k (Int.ofNat d.length)).toNat (IntKind.i64.wrap (IntKind.i64.wrap (F + (n : Int)) - F))).bind fun v20 =>
                bif Go.Proofs.XGT.okRG (IntKind.i64.wrap (0 + IntKind.i64.wrap (F * v18))) v20 (strI d) x then some (AEnd.ret [AV.os 3 0], hpSv s e k (d.set (axN k d) (slN d s e k)) ++ [(3, .arr 2 i64T 0 false (rdG (IntKind.i64.wrap (0 + IntKind.i64.wrap (F * v18))) v20 (strI d) x))]) else none
            else none
          else none
      else none : Option (AEnd × LHp)) = some (.ret [.os 3 0], hpSv s e k (d.set (axN k d) (slN d s e k)) ++ [(3, .arr 2 i64T 0 false (svL d x s e k))]) := by
    intro F hF
    subst hF
    rw [fine_str n2, decide_eq_false (show ¬ axV k (Int.ofNat d.length) < 0 by omega), decide_eq_false (show ¬ axV k (Int.ofNat d.length) ≥ Int.ofNat d.length by simp only [Int.ofNat_eq_natCast] at a1 ⊢; omega), decide_eq_false (show ¬ (f : Int) < 0 by omega), i1, i1', i3, i3', w1, w2, i4]
    simp only [Option.bind_some, cond_true, cond_false]
    rw [decide_eq_false (show ¬ ((f + n : Nat) : Int) > (m : Int) by omega), decide_eq_false (show ¬ (f : Int) ≥ ((f + n : Nat) : Int) by omega), w3, w4, decide_eq_false (show ¬ ((f * prodN D2 : Nat) : Int) ≥ 65536 by omega), decide_eq_true (show d ≠ [] ∧ d.length ≤ 65536 from ⟨hdn, by omega⟩), decide_eq_true (show strI d ≠ [] ∧ (strI d).length ≤ 65536 from ⟨hsn, by omega⟩), hok, eL]
    rfl
  cases hs : decide (s < 0) with
  | true =>
    rw [cond_true, i1, i2]
    simp only [Option.bind_some]
    rw [i2']
    simp only [Option.bind_some]
    rw [hs, cond_true] at hfirst
    have hfi := fin _ hfirst.symm
    rw [i1] at hfi
    simp only [Option.bind_some] at hfi
    exact hfi
  | false =>
    rw [cond_false, i2]
    simp only [Option.bind_some]
    rw [i2']
    simp only [Option.bind_some]
    rw [hs, cond_false] at hfirst
    exact fin _ hfirst.symm
end Go.Proofs.XGT
namespace Go.Proofs.XGT
open Go.Vm Go
set_option maxRecDepth 100000
set_option maxHeartbeats 4000000
theorem mid_ne {D1 D2 : List Nat} {n1 n2 i : Nat} (h : i ≠ D1.length) : (D1 ++ n1 :: D2).getD i 0 = (D1 ++ n2 :: D2).getD i 0 := by
  rw [List.getD_eq_getElem?_getD, List.getD_eq_getElem?_getD]
  rcases Nat.lt_or_ge i D1.length with hl | hl
  · rw [List.getElem?_append_left hl, List.getElem?_append_left hl]
  · rw [List.getElem?_append_right hl, List.getElem?_append_right hl, show i - D1.length = (i - D1.length - 1) + 1 by omega]
    rfl
theorem mid_at {D1 D2 : List Nat} {n : Nat} : (D1 ++ n :: D2).getD D1.length 0 = n := by
  rw [List.getD_eq_getElem?_getD, List.getElem?_append_right (Nat.le_refl _), Nat.sub_self]
  rfl
theorem mid_len (D1 D2 : List Nat) (n : Nat) : (ints (D1 ++ n :: D2)).length = D1.length + D2.length + 1 := by rw [ints_len, List.length_append, List.length_cons]; omega
def outM (D1 D2 : List Nat) (n1 n2 i : Nat) : List Int := if i ≤ D1.length then ints (D1 ++ n1 :: D2) else ints (D1 ++ (n1 + n2) :: D2)
theorem mcc_lp {D1 D2 : List Nat} {n1 n2 : Nat} (hr : D1.length + D2.length + 1 ≤ 6) (h1 : n1 ≤ 65536) (h2 : n2 ≤ 65536) (v t1 t2 : Int) (m : Nat) {R : Type} (k : AEx → LSt → Option R) : ∀ (r i n : Nat), i + r = D1.length + D2.length + 1 → r < n →
    lp gMc cf_mcc (cL (cL (cR (cR (cR (cL (cL (cR (cR (cL (cL (cR (cL (cR (cR (cR C_mcc)))))))))))))))) n (stM1 (D1.length : Nat) (i : Nat) (outM D1 D2 n1 n2 i) v t1 t2 (ints (D1 ++ n1 :: D2)) (ints (D1 ++ n2 :: D2))) (KM1 m k) = lp gMc cf_mcc (cL (cL (cR (cL (cR (cR (cR C_mcc))))))) m (stM0 (D1.length : Nat) 1 (ints (D1 ++ (n1 + n2) :: D2)) v t1 t2 (ints (D1 ++ n1 :: D2)) (ints (D1 ++ n2 :: D2))) k := by
  intro r
  induction r with
  | zero =>
    intro i n hi hn
    obtain ⟨n, rfl⟩ : ∃ m', n = m' + 1 := ⟨n - 1, by omega⟩
    rw [m1_a, decide_eq_false (show ¬ ((i : Int) < Int.ofNat (ints (D1 ++ n2 :: D2)).length) by rw [mid_len]; simp only [Int.ofNat_eq_natCast]; omega), cond_false]
    have e : outM D1 D2 n1 n2 i = ints (D1 ++ (n1 + n2) :: D2) := by unfold outM; rw [if_neg (by omega)]
    rw [e]
    exact m1_x _ _ _ _ _ _ _ _ _ _
  | succ r ih =>
    intro i n hi hn
    obtain ⟨n, rfl⟩ : ∃ m', n = m' + 1 := ⟨n - 1, by omega⟩
    have key := ih (i + 1) n (by omega) (by omega)
    have e0 : IntKind.i64.wrap ((i : Int) + 1) = ((i + 1 : Nat) : Int) := by rw [wrap64 (by omega) (by omega)]; omega
    have hlt : i < D1.length + D2.length + 1 := by omega
    have g2 : idx (ints (D1 ++ n2 :: D2)) (i : Int) = some (((D1 ++ n2 :: D2).getD i 0 : Nat) : Int) := by
      have := idx_in (xs := ints (D1 ++ n2 :: D2)) (p := (i : Int)) (by omega) (by rw [mid_len]; omega)
      rw [Int.toNat_natCast, ints_getD] at this
      exact this
    rw [m1_a, decide_eq_true (show ((i : Int) < Int.ofNat (ints (D1 ++ n2 :: D2)).length) by rw [mid_len]; simp only [Int.ofNat_eq_natCast]; omega), cond_true, g2, Option.bind_some]
    by_cases hA : i = D1.length
    · subst hA
      have eo : outM D1 D2 n1 n2 D1.length = ints (D1 ++ n1 :: D2) := by unfold outM; rw [if_pos (Nat.le_refl _)]
      have eo2 : outM D1 D2 n1 n2 (D1.length + 1) = ints (D1 ++ (n1 + n2) :: D2) := by unfold outM; rw [if_neg (by omega)]
      have g1 := idx_in (xs := ints (D1 ++ n1 :: D2)) (p := (D1.length : Int)) (by omega) (by rw [mid_len]; omega)
      have g1' := get_in (xs := ints (D1 ++ n1 :: D2)) (p := (D1.length : Int)) (by omega) (by rw [mid_len]; omega)
      rw [Int.toNat_natCast, ints_getD, mid_at] at g1 g1'
      have gs := set_inJ (xs := ints (D1 ++ n1 :: D2)) (p := (D1.length : Int)) (v := ((n1 + n2 : Nat) : Int)) (by omega) (by rw [mid_len]; omega)
      have es : (ints (D1 ++ n1 :: D2)).set (D1.length : Int).toNat ((n1 + n2 : Nat) : Int) = ints (D1 ++ (n1 + n2) :: D2) := by
        rw [Int.toNat_natCast, ints_app, ints_app, ints_cons, ints_cons, List.set_append_right _ _ (by rw [ints_len]; exact Nat.le_refl _), ints_len, Nat.sub_self]
        rfl
      rw [es] at gs
      have w : IntKind.i64.wrap ((n1 : Int) + (n2 : Int)) = ((n1 + n2 : Nat) : Int) := by rw [wrap64 (by omega) (by omega)]; omega
      rw [show (((D1.length : Nat) : Int) == ((D1.length : Nat) : Int)) = true from beq_self_eq_true _, cond_true, eo, g1, Option.bind_some, Int.toNat_natCast, g1', Option.bind_some, Option.bind_some, mid_at, w, ← Int.toNat_natCast D1.length, gs, Option.bind_some, Int.toNat_natCast, e0]
      rw [eo2] at key
      exact key
    · have g1 := idx_in (xs := ints (D1 ++ n1 :: D2)) (p := (i : Int)) (by omega) (by rw [mid_len]; omega)
      rw [Int.toNat_natCast, ints_getD] at g1
      have ee : outM D1 D2 n1 n2 i = outM D1 D2 n1 n2 (i + 1) := by
        unfold outM
        by_cases h : i + 1 ≤ D1.length
        · rw [if_pos h, if_pos (by omega)]
        · rw [if_neg h, if_neg (by omega)]
      rw [show (((i : Nat) : Int) == ((D1.length : Nat) : Int)) = false by rw [beq_eq_false_iff_ne]; omega, cond_false, g1, Option.bind_some, mid_ne (n1 := n2) (n2 := n1) hA, beq_self_eq_true, Bool.not_true, cond_false, e0, ee]
      exact key
/-- d1, d2: two parts of one thing, cut along the axis A -/
theorem mcc_run {v t1 t2 : Int} {D1 D2 : List Nat} {n1 n2 : Nat} (hr : D1.length + D2.length + 1 ≤ 6) (h1 : n1 ≤ 65536) (h2 : n2 ≤ 65536) (hb : axB v (Int.ofNat (ints (D1 ++ n1 :: D2)).length) = true) (hv : axV v (Int.ofNat (ints (D1 ++ n1 :: D2)).length) = (D1.length : Nat)) :
    runC gMc Tryz.f163 6 [(4, [1, 5, 6, 21, 22, 23]), (8, [1, 5, 6, 21, 22, 23, 35, 36, 37])] [(nodeA strCC [] [122] (.os 2 0) (.os 1 0)).pr (.pr (.os 0 0) (.d .unit ())), .d (.slice i64T) (ints (D1 ++ n1 :: D2))] (hpMc true v t1 t2 (ints (D1 ++ n1 :: D2)) (ints (D1 ++ n2 :: D2))) ah =
      some (.ret [.os 3 0], hpMc true v t1 t2 (ints (D1 ++ n1 :: D2)) (ints (D1 ++ n2 :: D2)) ++ [(3, .arr 3 i64T 0 false (ints (D1 ++ (n1 + n2) :: D2)))]) := by
  have hl := mid_len D1 D2 n1
  have hne : ints (D1 ++ n1 :: D2) ≠ [] := fun e => by rw [e] at hl; simp only [List.length_nil] at hl; omega
  have key : runC gMc Tryz.f163 6 [(4, [1, 5, 6, 21, 22, 23]), (8, [1, 5, 6, 21, 22, 23, 35, 36, 37])] [(nodeA strCC [] [122] (.os 2 0) (.os 1 0)).pr (.pr (.os 0 0) (.d .unit ())), .d (.slice i64T) (ints (D1 ++ n1 :: D2))] (hpMc true v t1 t2 (ints (D1 ++ n1 :: D2)) (ints (D1 ++ n2 :: D2))) ah =
      lp gMc cf_mcc (cL (cL (cR (cL (cR (cR (cR C_mcc))))))) fu (stM0 (D1.length : Nat) 0 (ints (D1 ++ n1 :: D2)) v t1 t2 (ints (D1 ++ n1 :: D2)) (ints (D1 ++ n2 :: D2))) KM0 := (mcc_eq v t1 t2 (ints (D1 ++ n1 :: D2)) (ints (D1 ++ n2 :: D2))).trans (by
    rw [hb, decide_eq_true (show ints (D1 ++ n1 :: D2) ≠ [] ∧ (ints (D1 ++ n1 :: D2)).length ≤ 65536 from ⟨hne, by omega⟩), cond_true, cond_true, hv]
    kernel_rfl)
  obtain ⟨n, hn⟩ : ∃ n, fu = n + 1 := ⟨18446744073709551615, rfl⟩
  obtain ⟨m, hm⟩ : ∃ m, n = m + 1 := ⟨18446744073709551614, by
    have : n + 1 = 18446744073709551616 := hn.symm
    omega⟩
  have hf : fu = 18446744073709551616 := rfl
  have k2 := mcc_lp (D1 := D1) (D2 := D2) (n1 := n1) (n2 := n2) hr h1 h2 v t1 t2 n KM0 (D1.length + D2.length + 1) 0 fu (by omega) (by omega)
  have e0 : outM D1 D2 n1 n2 0 = ints (D1 ++ n1 :: D2) := by unfold outM; rw [if_pos (Nat.zero_le _)]
  rw [e0] at k2
  refine key.trans ?_
  rw [hn, m0_a, mid_len, mid_len, beq_self_eq_true, Bool.not_true, cond_false]
  refine Eq.trans (b := lp gMc cf_mcc (cL (cL (cR (cR (cR (cL (cL (cR (cR (cL (cL (cR (cL (cR (cR (cR C_mcc)))))))))))))))) fu (stM1 (D1.length : Nat) ((0 : Nat) : Int) (ints (D1 ++ n1 :: D2)) v t1 t2 (ints (D1 ++ n1 :: D2)) (ints (D1 ++ n2 :: D2))) (KM1 n KM0)) ?_ ?_
  · rw [← mid_len D1 D2 n2]
    kernel_rfl
  · refine k2.trans ?_
    rw [hm, m0_b]
    exact m0_x _ _ _ _ _ _ _
end Go.Proofs.XGT
namespace Go.Proofs.XGT
open Go.Vm Go
set_option maxRecDepth 100000
set_option maxHeartbeats 4000000
/-- d1 and d2 are two parts of one thing, along the axis v -/
def ccB (v : Int) (d1 d2 : List Int) : Bool := decide (countE d1 = 0 ∧ countE d2 = 0 ∧ d1.set (axN v d1) 0 = d2.set (axN v d1) 0) && axB v (Int.ofNat d1.length)
def ccD (v : Int) (d1 d2 : List Int) : List Int := d1.set (axN v d1) (d1.getD (axN v d1) 0 + d2.getD (axN v d1) 0)
theorem ints_inj : ∀ {a b : List Nat}, ints a = ints b → a = b
  | [], [], _ => rfl
  | x :: r, y :: t, h => by
    injection h with h1 h2
    have h1 : (x : Int) = (y : Int) := h1
    rw [ints_inj h2, show x = y by omega]
  | [], _ :: _, h => by cases h
  | _ :: _, [], h => by cases h
structure Two (v : Int) (d1 d2 : List Int) (D1 D2 : List Nat) (n1 n2 : Nat) : Prop where
  ax : axV v (Int.ofNat d1.length) = (D1.length : Nat)
  m1 : Mid d1 D1.length D1 D2 n1
  m2 : Mid d2 D1.length D1 D2 n2
theorem two_of {v : Int} {d1 d2 : List Int} (h : ccB v d1 d2 = true) : ∃ D1 D2 n1 n2, Two v d1 d2 D1 D2 n1 n2 := by
  unfold ccB at h
  rw [Bool.and_eq_true] at h
  obtain ⟨h1, hb⟩ := h
  obtain ⟨c1, c2, c3⟩ := of_decide_eq_true h1
  obtain ⟨_, h6, _⟩ := count_ok c1
  obtain ⟨a0, a1⟩ := ax_ok h6 hb
  have hA : axN v d1 < d1.length := by unfold axN; omega
  have hl : d1.length = d2.length := by
    have := congrArg List.length c3
    rw [List.length_set, List.length_set] at this
    exact this
  obtain ⟨D1, D2, n1, m1⟩ := mid_of c1 hA
  obtain ⟨E1, E2, n2, m2⟩ := mid_of (d := d2) (A := axN v d1) c2 (by omega)
  have e1 := m1.set 0
  have e2 := m2.set 0
  rw [show ((0 : Nat) : Int) = 0 from rfl] at e1 e2
  rw [e1, e2] at c3
  have e3 := ints_inj c3
  obtain ⟨e4, e5⟩ := List.append_inj e3 (by rw [m1.len, m2.len])
  injection e5 with _ e5
  subst e4 e5
  have hax : axN v d1 = D1.length := m1.len.symm
  refine ⟨D1, D2, n1, n2, ?_, by rw [← hax]; exact m1, by rw [← hax]; exact m2⟩
  unfold axN at hax
  omega
theorem Two.dims {v : Int} {d1 d2 : List Int} {D1 D2 : List Nat} {n1 n2 : Nat} (h : Two v d1 d2 D1 D2 n1 n2) : ccD v d1 d2 = ints (D1 ++ (n1 + n2) :: D2) := by
  unfold ccD axN
  rw [h.ax, Int.toNat_natCast, h.m1.get, h.m2.get, ← Int.natCast_add, h.m1.set]
def mccT : List AV → LHp → Tq
  | [.pr n (.pr (.os 0 0) (.d .unit ())), .d (.slice (.int .i64)) d], [(0, .arr 49 ((.pair .str (.pair (.int .i64) (.pair (.slice (.int .i64)) .unit)))) 0 true [(nm1, t1, d1, ()), (nm2, t2, d2, ())]), (1, .arr 37 ((.pair .str (.pair (.int .i64) (.pair (.int .i64) (.pair (.int .i64) (.pair .str (.pair (.pair (.int .i64) (.pair (.slice (.int .i64)) (.pair (.slice (.int .i64)) .unit))) (.pair (.slice (.int .i64)) .unit)))))))) 0 true [a]), (2, .arr 9 .str 0 false ins)] =>
    (match nodeP n with
    | some (op, nm, out, .os 2 0, .os 1 0) => gate (decide (op = strCC) && decide (nm = []) && decide (out = [122]) && decide (ins = [[120], [121]]) && isI a strAxis && decide (nm1 = []) && decide (nm2 = []))
        (.br (decide (d = d1) && ccB a.2.2.2.1 d1 d2) (.leaf (.ret [.os 3 0]) (hpMc true a.2.2.2.1 t1 t2 d1 d2 ++ [(3, .arr 3 i64T 0 false (ccD a.2.2.2.1 d1 d2))])) .no)
    | _ => .no)
  | _, _ => .no
theorem mccT_ok : FnE.OK e0.P e0.gam 163 (treeE mccT) := by
  have h1 : FnE.OK e0.P e0.gam 163 (execFnC gMc Tryz.f163 6 [(4, [1, 5, 6, 21, 22, 23]), (8, [1, 5, 6, 21, 22, 23, 35, 36, 37])]) := execFnC_ok gMc_good hmix Tryz.func163 Tryz.call163 (by decide +kernel) rfl
  refine ⟨fun _ _ _ => Tq.eq _ _, fun args hs ae hs' h => ?_⟩
  have h' : (mccT args hs).run ah = some (ae, hs') := h
  clear h
  unfold mccT at h'
  split at h'
  · rename_i n d nm1 t1 d1 nm2 t2 d2 a ins
    split at h'
    · rename_i hn
      rw [nodeP_some hn]
      obtain ⟨hb, h2⟩ := gate_run h'
      clear h'
      simp only [Bool.and_eq_true, decide_eq_true_eq] at hb
      obtain ⟨⟨⟨⟨⟨⟨b1, b2⟩, b3⟩, b4⟩, b5⟩, b6⟩, b7⟩ := hb
      subst b1 b2 b3 b4 b6 b7
      obtain ⟨v, rfl⟩ := isI_eq b5
      change (Tq.br (decide (d = d1) && ccB v d1 d2) (.leaf (.ret [.os 3 0]) (hpMc true v t1 t2 d1 d2 ++ [(3, .arr 3 i64T 0 false (ccD v d1 d2))])) .no).run ah = _ at h2
      obtain ⟨hc, h3⟩ := Tq.br_no h2
      rw [Bool.and_eq_true] at hc
      obtain ⟨hc1, hc2⟩ := hc
      obtain rfl := of_decide_eq_true hc1
      cases h3
      obtain ⟨D1, D2, n1, n2, ht⟩ := two_of hc2
      have hb2 : axB v (Int.ofNat d.length) = true := by
        unfold ccB at hc2
        rw [Bool.and_eq_true] at hc2
        exact hc2.2
      have e1 := ht.m1.eq
      have e2 := ht.m2.eq
      have ea := ht.ax
      have ed := ht.dims
      have hrk := ht.m1.rank
      have m1le := ht.m1.mle
      have m2le := ht.m2.mle
      rw [List.length_append, List.length_cons] at hrk
      subst e1 e2
      rw [ed]
      exact h1.okC (mcc_run (by omega) m1le m2le hb2 ea)
    · cases h'
  · cases h'
noncomputable def mvC : FnE := execFnC (g149.add 163 (treeE mccT)) Tryz.f127 7 []
theorem mvC_ok : FnE.OK e0.P e0.gam 127 mvC := execFnC_ok (g149_good.add mccT_ok) hmix Tryz.func127 Tryz.call127 (by decide +kernel) rfl
noncomputable def dmC : FnE := execFnC (g150.add 127 mvC) Tryz.f94 8 [(56, [3, 132, 133, 134])]
theorem dmC_ok : FnE.OK e0.P e0.gam 94 dmC := execFnC_ok (g150_good.add mvC_ok) hmix Tryz.func94 Tryz.call94 (by decide +kernel) rfl
noncomputable def ouC : FnE := execFnDC ((g152.add 94 dmC).add 96 clE) Tryz.f55 7 [(5, [1, 2, 4, 5, 26, 27, 28])] dd55
theorem ouC_ok : FnE.OK e0.P e0.gam 55 ouC := execFnDC_ok ((g152_good.add dmC_ok).add clE_ok) (execFnD_ok (D := dd55) ((g152_good.add dmC_ok).add clE_ok) hmix Tryz.func55 Tryz.call55 rfl rfl (by decide +kernel) rfl Tryz.func89 Tryz.call89 rfl rfl (by decide +kernel))
noncomputable def gCb : Env := g212.add 55 ouC
theorem gCb_good : gCb.Good := g212_good.add ouC_ok
def hpCb (z : Bool) (v t1 t2 : Int) (d1 x1 d2 x2 : List Int) : LHp := [(0, .arr 25 (Y0) 0 false [(t1, d1, x1, ()), (t2, d2, x2, ())]), (1, .arr 37 (Y1) 0 z [iattr strAxis v]), (2, .arr 9 .str 0 false [[120], [121]])]
theorem cb_eq (v t1 t2 : Int) (d1 x1 d2 x2 : List Int) : runC gCb Tryz.f42 6 [(3, [2, 4, 6, 9, 10, 11])] [nodeA strCC [] [122] (.os 2 0) (.os 1 0), .os 0 0] (hpCb false v t1 t2 d1 x1 d2 x2) ah =
  bif decide (d1.length ≤ 9223372036854775807 ∧ x1.length ≤ 9223372036854775807) then 
    bif tenE t1 d1 x1 != 0 then some (AEnd.ret [(AV.d Ty.str []).pr ((I 0).pr (AV.nils.pr (AV.d Ty.unit PUnit.unit))), I 1], [(0, AObj.arr 25 ((i64T).pair ((i64T).slice.pair ((i64T).slice.pair Ty.unit))) 0 false [(t1, d1, x1, PUnit.unit), (t2, d2, x2, PUnit.unit)]), (1, AObj.arr 37 (Ty.str.pair ((i64T).pair ((i64T).pair ((i64T).pair (Ty.str.pair (((i64T).pair ((i64T).slice.pair ((i64T).slice.pair Ty.unit))).pair ((i64T).slice.pair Ty.unit))))))) 0 false [([97, 120, 105, 115], 2, 0, v, [], (0, [], [], PUnit.unit), [], PUnit.unit)]), (2, AObj.arr 9 Ty.str 0 false [[120], [121]])])
    else 
      bif decide (d2.length ≤ 9223372036854775807 ∧ x2.length ≤ 9223372036854775807) then 
        bif tenE t2 d2 x2 != 0 then some (AEnd.ret [(AV.d Ty.str []).pr ((I 0).pr (AV.nils.pr (AV.d Ty.unit PUnit.unit))), I 1], [(0, AObj.arr 25 ((i64T).pair ((i64T).slice.pair ((i64T).slice.pair Ty.unit))) 0 false [(t1, d1, x1, PUnit.unit), (t2, d2, x2, PUnit.unit)]), (1, AObj.arr 37 (Ty.str.pair ((i64T).pair ((i64T).pair ((i64T).pair (Ty.str.pair (((i64T).pair ((i64T).slice.pair ((i64T).slice.pair Ty.unit))).pair ((i64T).slice.pair Ty.unit))))))) 0 false [([97, 120, 105, 115], 2, 0, v, [], (0, [], [], PUnit.unit), [], PUnit.unit)]), (2, AObj.arr 9 Ty.str 0 false [[120], [121]])])
        else 
          bif !numOk t1 0 then some (AEnd.ret [(AV.d Ty.str []).pr ((I 0).pr (AV.nils.pr (AV.d Ty.unit PUnit.unit))), I 5], [(0, AObj.arr 25 ((i64T).pair ((i64T).slice.pair ((i64T).slice.pair Ty.unit))) 0 false [(t1, d1, x1, PUnit.unit), (t2, d2, x2, PUnit.unit)]), (1, AObj.arr 37 (Ty.str.pair ((i64T).pair ((i64T).pair ((i64T).pair (Ty.str.pair (((i64T).pair ((i64T).slice.pair ((i64T).slice.pair Ty.unit))).pair ((i64T).slice.pair Ty.unit))))))) 0 true [([97, 120, 105, 115], 2, 0, v, [], (0, [], [], PUnit.unit), [], PUnit.unit)]), (2, AObj.arr 9 Ty.str 0 false [[120], [121]])])
          else 
            bif decide (d1.length ≤ 9223372036854775807) then 
              bif countE d1 != 0 then some (AEnd.ret [(AV.d Ty.str []).pr ((I 0).pr (AV.nils.pr (AV.d Ty.unit PUnit.unit))), I (countE d1)], [(0, AObj.arr 25 ((i64T).pair ((i64T).slice.pair ((i64T).slice.pair Ty.unit))) 0 false [(t1, d1, x1, PUnit.unit), (t2, d2, x2, PUnit.unit)]), (1, AObj.arr 37 (Ty.str.pair ((i64T).pair ((i64T).pair ((i64T).pair (Ty.str.pair (((i64T).pair ((i64T).slice.pair ((i64T).slice.pair Ty.unit))).pair ((i64T).slice.pair Ty.unit))))))) 0 true [([97, 120, 105, 115], 2, 0, v, [], (0, [], [], PUnit.unit), [], PUnit.unit)]), (2, AObj.arr 9 Ty.str 0 false [[120], [121]])])
              else 
                bif !numOk t2 0 then some (AEnd.ret [(AV.d Ty.str []).pr ((I 0).pr (AV.nils.pr (AV.d Ty.unit PUnit.unit))), I 5], [(0, AObj.arr 25 ((i64T).pair ((i64T).slice.pair ((i64T).slice.pair Ty.unit))) 0 false [(t1, d1, x1, PUnit.unit), (t2, d2, x2, PUnit.unit)]), (1, AObj.arr 37 (Ty.str.pair ((i64T).pair ((i64T).pair ((i64T).pair (Ty.str.pair (((i64T).pair ((i64T).slice.pair ((i64T).slice.pair Ty.unit))).pair ((i64T).slice.pair Ty.unit))))))) 0 true [([97, 120, 105, 115], 2, 0, v, [], (0, [], [], PUnit.unit), [], PUnit.unit)]), (2, AObj.arr 9 Ty.str 0 false [[120], [121]])])
                else 
                  bif decide (d2.length ≤ 9223372036854775807) then 
                    bif countE d2 != 0 then some (AEnd.ret [(AV.d Ty.str []).pr ((I 0).pr (AV.nils.pr (AV.d Ty.unit PUnit.unit))), I (countE d2)], [(0, AObj.arr 25 ((i64T).pair ((i64T).slice.pair ((i64T).slice.pair Ty.unit))) 0 false [(t1, d1, x1, PUnit.unit), (t2, d2, x2, PUnit.unit)]), (1, AObj.arr 37 (Ty.str.pair ((i64T).pair ((i64T).pair ((i64T).pair (Ty.str.pair (((i64T).pair ((i64T).slice.pair ((i64T).slice.pair Ty.unit))).pair ((i64T).slice.pair Ty.unit))))))) 0 true [([97, 120, 105, 115], 2, 0, v, [], (0, [], [], PUnit.unit), [], PUnit.unit)]), (2, AObj.arr 9 Ty.str 0 false [[120], [121]])])
                    else 
                      bif t1 == 6 then 
                        bif t1 != t1 then some (AEnd.ret [(AV.d Ty.str []).pr ((I 0).pr (AV.nils.pr (AV.d Ty.unit PUnit.unit))), I 4], [(0, AObj.arr 25 ((i64T).pair ((i64T).slice.pair ((i64T).slice.pair Ty.unit))) 0 false [(t1, d1, x1, PUnit.unit), (t2, d2, x2, PUnit.unit)]), (1, AObj.arr 37 (Ty.str.pair ((i64T).pair ((i64T).pair ((i64T).pair (Ty.str.pair (((i64T).pair ((i64T).slice.pair ((i64T).slice.pair Ty.unit))).pair ((i64T).slice.pair Ty.unit))))))) 0 true [([97, 120, 105, 115], 2, 0, v, [], (0, [], [], PUnit.unit), [], PUnit.unit)]), (2, AObj.arr 9 Ty.str 0 false [[120], [121]])])
                        else 
                          bif t2 != t1 then some (AEnd.ret [(AV.d Ty.str []).pr ((I 0).pr (AV.nils.pr (AV.d Ty.unit PUnit.unit))), I 4], [(0, AObj.arr 25 ((i64T).pair ((i64T).slice.pair ((i64T).slice.pair Ty.unit))) 0 false [(t1, d1, x1, PUnit.unit), (t2, d2, x2, PUnit.unit)]), (1, AObj.arr 37 (Ty.str.pair ((i64T).pair ((i64T).pair ((i64T).pair (Ty.str.pair (((i64T).pair ((i64T).slice.pair ((i64T).slice.pair Ty.unit))).pair ((i64T).slice.pair Ty.unit))))))) 0 true [([97, 120, 105, 115], 2, 0, v, [], (0, [], [], PUnit.unit), [], PUnit.unit)]), (2, AObj.arr 9 Ty.str 0 false [[120], [121]])])
                          else 
                            bif decide (d1 = d1) && ccB v d1 d2 then 
                              bif decide ((ccD v d1 d2).length ≤ 9223372036854775807) then 
                                bif countE (ccD v d1 d2) != 0 then some (AEnd.ret [(AV.d Ty.str []).pr ((I 0).pr (AV.nils.pr (AV.d Ty.unit PUnit.unit))), I (countE (ccD v d1 d2))], [(0, AObj.arr 25 ((i64T).pair ((i64T).slice.pair ((i64T).slice.pair Ty.unit))) 0 false [(t1, d1, x1, PUnit.unit), (t2, d2, x2, PUnit.unit)]), (1, AObj.arr 37 (Ty.str.pair ((i64T).pair ((i64T).pair ((i64T).pair (Ty.str.pair (((i64T).pair ((i64T).slice.pair ((i64T).slice.pair Ty.unit))).pair ((i64T).slice.pair Ty.unit))))))) 0 true [([97, 120, 105, 115], 2, 0, v, [], (0, [], [], PUnit.unit), [], PUnit.unit)]), (2, AObj.arr 9 Ty.str 0 false [[120], [121]])])
                                else 
                                  bif decide (ccD v d1 d2 ≠ [] ∧ (ccD v d1 d2).length ≤ 65536) then some (AEnd.ret [(AV.d Ty.str [122]).pr ((I t1).pr ((AV.os 3 0).pr (AV.d Ty.unit PUnit.unit))), I 0], [(0, AObj.arr 25 ((i64T).pair ((i64T).slice.pair ((i64T).slice.pair Ty.unit))) 0 false [(t1, d1, x1, PUnit.unit), (t2, d2, x2, PUnit.unit)]), (1, AObj.arr 37 (Ty.str.pair ((i64T).pair ((i64T).pair ((i64T).pair (Ty.str.pair (((i64T).pair ((i64T).slice.pair ((i64T).slice.pair Ty.unit))).pair ((i64T).slice.pair Ty.unit))))))) 0 true [([97, 120, 105, 115], 2, 0, v, [], (0, [], [], PUnit.unit), [], PUnit.unit)]), (2, AObj.arr 9 Ty.str 0 false [[120], [121]]), (3, AObj.arr 3 (i64T) 0 false (ccD v d1 d2))])
                                  else none
                              else none
                            else none
                      else 
                        bif t1 != t1 then some (AEnd.ret [(AV.d Ty.str []).pr ((I 0).pr (AV.nils.pr (AV.d Ty.unit PUnit.unit))), I 4], [(0, AObj.arr 25 ((i64T).pair ((i64T).slice.pair ((i64T).slice.pair Ty.unit))) 0 false [(t1, d1, x1, PUnit.unit), (t2, d2, x2, PUnit.unit)]), (1, AObj.arr 37 (Ty.str.pair ((i64T).pair ((i64T).pair ((i64T).pair (Ty.str.pair (((i64T).pair ((i64T).slice.pair ((i64T).slice.pair Ty.unit))).pair ((i64T).slice.pair Ty.unit))))))) 0 true [([97, 120, 105, 115], 2, 0, v, [], (0, [], [], PUnit.unit), [], PUnit.unit)]), (2, AObj.arr 9 Ty.str 0 false [[120], [121]])])
                        else 
                          bif t2 != t1 then some (AEnd.ret [(AV.d Ty.str []).pr ((I 0).pr (AV.nils.pr (AV.d Ty.unit PUnit.unit))), I 4], [(0, AObj.arr 25 ((i64T).pair ((i64T).slice.pair ((i64T).slice.pair Ty.unit))) 0 false [(t1, d1, x1, PUnit.unit), (t2, d2, x2, PUnit.unit)]), (1, AObj.arr 37 (Ty.str.pair ((i64T).pair ((i64T).pair ((i64T).pair (Ty.str.pair (((i64T).pair ((i64T).slice.pair ((i64T).slice.pair Ty.unit))).pair ((i64T).slice.pair Ty.unit))))))) 0 true [([97, 120, 105, 115], 2, 0, v, [], (0, [], [], PUnit.unit), [], PUnit.unit)]), (2, AObj.arr 9 Ty.str 0 false [[120], [121]])])
                          else 
                            bif decide (d1 = d1) && ccB v d1 d2 then 
                              bif decide ((ccD v d1 d2).length ≤ 9223372036854775807) then 
                                bif countE (ccD v d1 d2) != 0 then some (AEnd.ret [(AV.d Ty.str []).pr ((I 0).pr (AV.nils.pr (AV.d Ty.unit PUnit.unit))), I (countE (ccD v d1 d2))], [(0, AObj.arr 25 ((i64T).pair ((i64T).slice.pair ((i64T).slice.pair Ty.unit))) 0 false [(t1, d1, x1, PUnit.unit), (t2, d2, x2, PUnit.unit)]), (1, AObj.arr 37 (Ty.str.pair ((i64T).pair ((i64T).pair ((i64T).pair (Ty.str.pair (((i64T).pair ((i64T).slice.pair ((i64T).slice.pair Ty.unit))).pair ((i64T).slice.pair Ty.unit))))))) 0 true [([97, 120, 105, 115], 2, 0, v, [], (0, [], [], PUnit.unit), [], PUnit.unit)]), (2, AObj.arr 9 Ty.str 0 false [[120], [121]])])
                                else 
                                  bif decide (ccD v d1 d2 ≠ [] ∧ (ccD v d1 d2).length ≤ 65536) then some (AEnd.ret [(AV.d Ty.str [122]).pr ((I t1).pr ((AV.os 3 0).pr (AV.d Ty.unit PUnit.unit))), I 0], [(0, AObj.arr 25 ((i64T).pair ((i64T).slice.pair ((i64T).slice.pair Ty.unit))) 0 false [(t1, d1, x1, PUnit.unit), (t2, d2, x2, PUnit.unit)]), (1, AObj.arr 37 (Ty.str.pair ((i64T).pair ((i64T).pair ((i64T).pair (Ty.str.pair (((i64T).pair ((i64T).slice.pair ((i64T).slice.pair Ty.unit))).pair ((i64T).slice.pair Ty.unit))))))) 0 true [([97, 120, 105, 115], 2, 0, v, [], (0, [], [], PUnit.unit), [], PUnit.unit)]), (2, AObj.arr 9 Ty.str 0 false [[120], [121]]), (3, AObj.arr 3 (i64T) 0 false (ccD v d1 d2))])
                                  else none
                              else none
                            else none
                  else none
            else none
      else none
  else none := by kernel_rfl
end Go.Proofs.XGT
namespace Go.Proofs.XGT
open Go.Vm Go
set_option maxRecDepth 100000
set_option maxHeartbeats 4000000
theorem cpy_get {xs ys : List Int} {j q : Nat} (h : j + q ≤ xs.length) (hy : ys.length ≤ q) (p : Nat) : (cpyL xs j q ys)[p]? = if p < j then xs[p]? else if p < j + ys.length then ys[p - j]? else xs[p]? := by
  unfold cpyL
  rw [List.take_of_length_le hy, Nat.min_eq_left hy]
  have l1 : (xs.take j).length = j := by rw [List.length_take]; omega
  by_cases h1 : p < j
  · rw [if_pos h1, List.append_assoc, List.getElem?_append_left (by omega), List.getElem?_take, if_pos h1]
  · rw [if_neg h1]
    by_cases h2 : p < j + ys.length
    · rw [if_pos h2, List.getElem?_append_left (by rw [List.length_append, l1]; exact h2), List.getElem?_append_right (by omega), l1]
    · rw [if_neg h2, List.getElem?_append_right (by rw [List.length_append, l1]; omega), List.length_append, l1, List.getElem?_drop]
      congr 1
      omega
/-- the numbers of x, laid into rows of s behind at0, as far as row i -/
def gI (s at0 part : Nat) (x : List Int) (g0 : Nat → Int) (i p : Nat) : Int := if p / s < i ∧ at0 ≤ p % s ∧ p % s < at0 + part then x.getD (p / s * part + (p % s - at0)) 0 else g0 p
theorem tab_none {n p : Nat} {f : Nat → Int} (h : ¬ p < n) : (tab n f)[p]? = none := List.getElem?_eq_none (by rw [tab_length]; omega)
theorem cpy_row {P1 s at0 part : Nat} {x : List Int} {g0 : Nat → Int} {i : Nat} (hi : i < P1) (hfit : at0 + part ≤ s) (hp : 1 ≤ part) (hx : x.length = P1 * part) :
    cpyL (tab (P1 * s) (gI s at0 part x g0 i)) (i * s + at0) (P1 * s - (i * s + at0)) ((x.take ((i + 1) * part)).drop (i * part)) = tab (P1 * s) (gI s at0 part x g0 (i + 1)) := by
  have e1 : (i + 1) * s ≤ P1 * s := Nat.mul_le_mul_right _ hi
  have e2 : (i + 1) * part ≤ P1 * part := Nat.mul_le_mul_right _ hi
  rw [Nat.add_mul, Nat.one_mul] at e1 e2
  have hl : ((x.take ((i + 1) * part)).drop (i * part)).length = part := by
    rw [List.length_drop, List.length_take, Nat.add_mul, Nat.one_mul]
    omega
  have hs : 0 < s := by omega
  apply List.ext_getElem?
  intro p
  rw [cpy_get (by rw [tab_length]; omega) (by rw [hl]; omega), hl]
  by_cases hpl : p < P1 * s
  · rw [tab_get hpl, tab_get hpl]
    have hdm : p / s * s + p % s = p := by rw [Nat.mul_comm]; exact Nat.div_add_mod p s
    have hml : p % s < s := Nat.mod_lt _ hs
    by_cases h1 : p < i * s + at0
    · rw [if_pos h1]
      congr 1
      unfold gI
      by_cases h3 : p / s < i
      · have h4 : p / s < i + 1 := by omega
        simp only [h3, h4, true_and]
      · have h5 : i ≤ p / s := by omega
        have h6 : i * s ≤ p / s * s := Nat.mul_le_mul_right _ h5
        have h7 : p / s = i := by
          rcases Nat.eq_or_lt_of_le h5 with h | h
          · exact h.symm
          · have := Nat.mul_le_mul_right s h
            rw [Nat.succ_mul] at this
            omega
        rw [if_neg (by omega), if_neg (by rw [h7] at hdm; omega)]
    · rw [if_neg h1]
      by_cases h2 : p < i * s + at0 + part
      · rw [if_pos h2]
        have h7 : p / s = i := by
          have a1 : i ≤ p / s := (Nat.le_div_iff_mul_le hs).2 (by omega)
          have a2 : p / s < i + 1 := (Nat.div_lt_iff_lt_mul hs).2 (by rw [Nat.add_mul, Nat.one_mul]; omega)
          omega
        rw [h7] at hdm
        have h8 : p % s = p - i * s := by omega
        have e3 : gI s at0 part x g0 (i + 1) p = x.getD (i * part + (p - i * s - at0)) 0 := by
          unfold gI
          rw [h7, h8, if_pos (by omega)]
        rw [e3, List.getElem?_drop, List.getElem?_take, if_pos (by rw [Nat.add_mul, Nat.one_mul]; omega), List.getD_eq_getElem?_getD, show i * part + (p - (i * s + at0)) = i * part + (p - i * s - at0) by omega, List.getElem?_eq_getElem (by omega)]
        rfl
      · rw [if_neg h2]
        congr 1
        unfold gI
        by_cases h3 : p / s < i
        · have h4 : p / s < i + 1 := by omega
          simp only [h3, h4, true_and]
        · rw [if_neg (by omega)]
          by_cases h7 : p / s = i
          · rw [h7] at hdm
            rw [if_neg (by omega)]
          · rw [if_neg (by omega)]
  · rw [tab_none hpl, tab_none hpl]
    have h1 : ¬ p < i * s + at0 := by omega
    have h2 : ¬ p < i * s + at0 + part := by omega
    rw [if_neg h1, if_neg h2]
theorem con_lp {P1 s at0 part : Nat} {x : List Int} {g0 : Nat → Int} (hN : P1 * s ≤ 65536) (hP1 : P1 ≤ 65536) (hfit : at0 + part ≤ s) (hp : 1 ≤ part) (hx : x.length = P1 * part) (a : Int) (j : Nat) (t : Int) (d : List Int) (v t1 t2 : Int) (d1 x1 d2 x2 nd : List Int) (m : Nat) {R : Type} (k : AEx → LSt → Option R) : ∀ (r i n : Nat), i + r = P1 → r < n →
    lp gCc cf_con (cL (cL (cR (cL (cR (cR (cL (cL (cR (cR (cL (cL (cR (cL (cR (cR (cR (cR (cR C_con))))))))))))))))))) n (stC1 a (P1 : Nat) (s : Nat) (at0 : Nat) (part : Nat) (i : Nat) (j : Nat) (tab (P1 * s) (gI s at0 part x g0 i)) t d x v t1 t2 d1 x1 d2 x2 nd) (KC1c m k) =
      lp gCc cf_con (cL (cL (cR (cL (cR (cR (cR (cR (cR C_con))))))))) m (stC0 a (P1 : Nat) (s : Nat) (IntKind.i64.wrap ((at0 : Int) + (part : Int))) (IntKind.i64.wrap ((j : Int) + 1)) (tab (P1 * s) (gI s at0 part x g0 P1)) v t1 t2 d1 x1 d2 x2 nd) k := by
  intro r
  induction r with
  | zero =>
    intro i n hi hn
    obtain ⟨n, rfl⟩ : ∃ m', n = m' + 1 := ⟨n - 1, by omega⟩
    obtain rfl : i = P1 := by omega
    rw [c1_a, decide_eq_false (show ¬ ((i : Int) < (i : Int)) from Int.lt_irrefl _), cond_false]
    exact c1_x _ _ _ _ _ _ _ _ _ _ _ _ _ _ _ _ _ _ _ _ _
  | succ r ih =>
    intro i n hi hn
    obtain ⟨n, rfl⟩ : ∃ m', n = m' + 1 := ⟨n - 1, by omega⟩
    have hiP : i < P1 := by omega
    have key := ih (i + 1) n (by omega) (by omega)
    have e1 : (i + 1) * s ≤ P1 * s := Nat.mul_le_mul_right _ hiP
    have e2 : (i + 1) * part ≤ P1 * part := Nat.mul_le_mul_right _ hiP
    have e3 : P1 * part ≤ P1 * s := Nat.mul_le_mul_left _ (by omega)
    have e4 : i * s ≤ (i + 1) * s := Nat.mul_le_mul_right _ (by omega)
    have e5 : i * part ≤ (i + 1) * part := Nat.mul_le_mul_right _ (by omega)
    have e6 := e1
    rw [Nat.add_mul, Nat.one_mul] at e6
    have w0 : IntKind.i64.wrap ((i : Int) + 1) = ((i + 1 : Nat) : Int) := by rw [wrap64 (by omega) (by omega)]; omega
    have w1 : IntKind.i64.wrap ((i : Int) * (s : Int)) = ((i * s : Nat) : Int) := by rw [← Int.natCast_mul, wrap64 (by omega) (by omega)]
    have w2 : IntKind.i64.wrap (((i * s : Nat) : Int) + (at0 : Int)) = ((i * s + at0 : Nat) : Int) := by rw [wrap64 (by omega) (by omega)]; omega
    have w3 : IntKind.i64.wrap ((i : Int) * (part : Int)) = ((i * part : Nat) : Int) := by rw [← Int.natCast_mul, wrap64 (by omega) (by omega)]
    have w4 : IntKind.i64.wrap (((i + 1 : Nat) : Int) * (part : Int)) = (((i + 1) * part : Nat) : Int) := by rw [← Int.natCast_mul, wrap64 (by omega) (by omega)]
    have hw : win (tab (P1 * s) (gI s at0 part x g0 i)).length ((i * s + at0 : Nat) : Int) (Int.ofNat (tab (P1 * s) (gI s at0 part x g0 i)).length) = some (i * s + at0, P1 * s - (i * s + at0)) := by
      unfold win
      rw [tab_length, decide_eq_true (show (0 : Int) ≤ ((i * s + at0 : Nat) : Int) by omega), decide_eq_true (show ((i * s + at0 : Nat) : Int) < Int.ofNat (P1 * s) by simp only [Int.ofNat_eq_natCast]; omega), decide_eq_true (show Int.ofNat (P1 * s) ≤ ((P1 * s : Nat) : Int) from Int.le_refl _)]
      have : (Int.ofNat (P1 * s) - ((i * s + at0 : Nat) : Int)).toNat = P1 * s - (i * s + at0) := by simp only [Int.ofNat_eq_natCast]; omega
      rw [this, Int.toNat_natCast]
      rfl
    rw [c1_a, decide_eq_true (show ((i : Int) < (P1 : Int)) by omega), cond_true, w1, w2, hw, Option.bind_some, w0, w3, w4, if_pos (by simp only [Int.ofNat_eq_natCast]; omega), Option.bind_some, Int.toNat_natCast, Int.toNat_natCast]
    simp only
    rw [tab_length, show (true && (i * s + at0 + (P1 * s - (i * s + at0))).ble (P1 * s)) = true from by rw [Bool.true_and]; exact Nat.ble_eq_true_of_le (by omega), cond_true, cpy_row hiP hfit hp hx]
    exact key
end Go.Proofs.XGT
namespace Go.Proofs.XGT
open Go.Vm Go
set_option maxRecDepth 100000
set_option maxHeartbeats 4000000
theorem countN_ints {D : List Nat} (h1 : ∀ x ∈ D, 1 ≤ x) (h2 : prodN D ≤ 65536) (h3 : D.length ≤ 6) : countN (ints D) = (prodN D : Nat) := by
  obtain ⟨_, _, _, h⟩ := count_ok (count_ints h1 h2 h3)
  rw [h, prodI_ints]
theorem ints_take (D : List Nat) (n : Nat) : (ints D).take n = ints (D.take n) := by unfold ints; rw [List.map_take]
theorem ints_drop (D : List Nat) (n : Nat) : (ints D).drop n = ints (D.drop n) := by unfold ints; rw [List.map_drop]
/-- the part ahead of the axis, and from it on -/
theorem mid_take (D1 D2 : List Nat) (n : Nat) : (ints (D1 ++ n :: D2)).take D1.length = ints D1 := by rw [ints_take, List.take_append_of_le_length (Nat.le_refl _), List.take_length]
theorem mid_drop (D1 D2 : List Nat) (n : Nat) : (ints (D1 ++ n :: D2)).drop D1.length = ints (n :: D2) := by rw [ints_drop, List.drop_append_of_le_length (Nat.le_refl _), List.drop_length, List.nil_append]
theorem blk_sizes {D1 D2 : List Nat} {n : Nat} (h1 : ∀ x ∈ D1 ++ n :: D2, 1 ≤ x) (h2 : prodN (D1 ++ n :: D2) ≤ 65536) (h3 : (D1 ++ n :: D2).length ≤ 6) : countN (ints D1) = (prodN D1 : Nat) ∧ countN (ints (n :: D2)) = ((n * prodN D2 : Nat) : Int) ∧ 1 ≤ prodN D1 ∧ 1 ≤ n * prodN D2 ∧ prodN D1 * (n * prodN D2) ≤ 65536 := by
  have g1 : ∀ x ∈ D1, 1 ≤ x := fun x hx => h1 x (by simp [hx])
  have g2 : ∀ x ∈ n :: D2, 1 ≤ x := fun x hx => h1 x (List.mem_append_right _ hx)
  have p1 := prodN_pos g1
  have p2 : 1 ≤ n * prodN D2 := prodN_pos g2
  rw [prodN_mid] at h2
  have l1 : prodN D1 ≤ prodN D1 * (n * prodN D2) := Nat.le_mul_of_pos_right _ p2
  have l2 : n * prodN D2 ≤ prodN D1 * (n * prodN D2) := Nat.le_mul_of_pos_left _ p1
  rw [List.length_append, List.length_cons] at h3
  exact ⟨countN_ints g1 (by omega) (by omega), countN_ints (D := n :: D2) g2 (by show n * prodN D2 ≤ 65536; omega) (by rw [List.length_cons]; omega), p1, p2, h2⟩
theorem tab_zero (n : Nat) (f : Nat → Int) (h : ∀ p, p < n → f p = 0) : List.replicate n (0 : Int) = tab n f := by
  apply List.ext_getElem?
  intro p
  by_cases hp : p < n
  · rw [tab_get hp, h p hp, List.getElem?_replicate, if_pos hp]
  · rw [tab_none hp, List.getElem?_replicate, if_neg hp]
theorem con_run {v t1 t2 : Int} {D1 D2 : List Nat} {n1 n2 : Nat} {x1 x2 : List Int} (h1 : ∀ x ∈ D1 ++ n1 :: D2, 1 ≤ x) (h2 : ∀ x ∈ D1 ++ n2 :: D2, 1 ≤ x) (hp : prodN (D1 ++ (n1 + n2) :: D2) ≤ 65536) (hr : D1.length + D2.length + 1 ≤ 6) (hv : axV v (Int.ofNat (ints (D1 ++ (n1 + n2) :: D2)).length) = (D1.length : Nat))
    (hx1 : x1.length = prodN D1 * (n1 * prodN D2)) (hx2 : x2.length = prodN D1 * (n2 * prodN D2)) :
    runC gCc Tryz.f49 7 [(6, [7, 8, 9, 10, 11, 32, 33, 34]), (10, [7, 8, 9, 10, 11, 13, 15, 32, 33, 34, 45, 46])] [nodeA strCC [] [122] (.os 3 0) (.os 2 0), .os 1 0, .os 0 0] (hpCc false false v t1 t2 (ints (D1 ++ n1 :: D2)) x1 (ints (D1 ++ n2 :: D2)) x2 (ints (D1 ++ (n1 + n2) :: D2))) ah =
      some (.ret [.os 4 0], hpCc true false v t1 t2 (ints (D1 ++ n1 :: D2)) x1 (ints (D1 ++ n2 :: D2)) x2 (ints (D1 ++ (n1 + n2) :: D2)) ++ [(4, .arr 2 i64T 0 false (joinL (prodN D1) (n1 * prodN D2) (n2 * prodN D2) x1 x2))]) := by
  have h3 : ∀ x ∈ D1 ++ (n1 + n2) :: D2, 1 ≤ x := fun x hx => by
    rcases List.mem_append.1 hx with hx | hx
    · exact h1 x (by simp [hx])
    · rcases List.mem_cons.1 hx with rfl | hx
      · have := h1 n1 (by simp); omega
      · exact h1 x (by simp [hx])
  have hl : ∀ n : Nat, (D1 ++ n :: D2).length ≤ 6 := fun n => by rw [List.length_append, List.length_cons]; omega
  have hpm : ∀ n : Nat, n ≤ n1 + n2 → prodN (D1 ++ n :: D2) ≤ 65536 := fun n hn => Nat.le_trans (by rw [prodN_mid, prodN_mid]; exact Nat.mul_le_mul_left _ (Nat.mul_le_mul_right _ hn)) hp
  obtain ⟨c1, c2, q1, q2, q3⟩ := blk_sizes h3 hp (hl _)
  obtain ⟨_, a2, _, a4, _⟩ := blk_sizes h1 (hpm n1 (by omega)) (hl _)
  obtain ⟨_, b2, _, b4, _⟩ := blk_sizes h2 (hpm n2 (by omega)) (hl _)
  have es : (n1 + n2) * prodN D2 = n1 * prodN D2 + n2 * prodN D2 := Nat.add_mul _ _ _
  generalize hP1 : prodN D1 = P1 at *
  generalize hs1 : n1 * prodN D2 = s1 at *
  generalize hs2 : n2 * prodN D2 = s2 at *
  rw [es] at c2 q2 q3
  have hml := mid_len D1 D2
  have w0 : IntKind.i64.wrap ((P1 : Int) * ((s1 + s2 : Nat) : Int)) = ((P1 * (s1 + s2) : Nat) : Int) := by rw [← Int.natCast_mul, wrap64 (by omega) (by omega)]
  have hP : P1 ≤ 65536 := by
    have := Nat.le_mul_of_pos_right P1 q2
    omega
  have hse : s1 + s2 ≤ 65536 := by
    have := Nat.le_mul_of_pos_left (s1 + s2) q1
    omega
  have key : runC gCc Tryz.f49 7 [(6, [7, 8, 9, 10, 11, 32, 33, 34]), (10, [7, 8, 9, 10, 11, 13, 15, 32, 33, 34, 45, 46])] [nodeA strCC [] [122] (.os 3 0) (.os 2 0), .os 1 0, .os 0 0] (hpCc false false v t1 t2 (ints (D1 ++ n1 :: D2)) x1 (ints (D1 ++ n2 :: D2)) x2 (ints (D1 ++ (n1 + n2) :: D2))) ah =
      lp gCc cf_con (cL (cL (cR (cL (cR (cR (cR (cR (cR C_con))))))))) fu (stC0 (D1.length : Nat) (P1 : Nat) ((s1 + s2 : Nat) : Int) 0 0 (List.replicate (P1 * (s1 + s2)) 0) v t1 t2 (ints (D1 ++ n1 :: D2)) x1 (ints (D1 ++ n2 :: D2)) x2 (ints (D1 ++ (n1 + n2) :: D2))) KC0c := (con_eq v t1 t2 _ _ _ _ _).trans (by
    rw [hv, if_pos (by rw [hml]; simp only [Int.ofNat_eq_natCast]; omega), Option.bind_some, Int.toNat_natCast, mid_take, List.drop_zero, decide_eq_true (show (ints D1).length ≤ 9223372036854775807 by rw [ints_len]; omega), cond_true, if_pos (by rw [hml]; simp only [Int.ofNat_eq_natCast]; omega), Option.bind_some, show (Int.ofNat (ints (D1 ++ (n1 + n2) :: D2)).length).toNat = (ints (D1 ++ (n1 + n2) :: D2)).length from rfl, List.take_length, mid_drop, decide_eq_true (show (ints ((n1 + n2) :: D2)).length ≤ 9223372036854775807 by rw [ints_len, List.length_cons]; omega), cond_true, c1, c2, w0, if_pos (by omega), Option.bind_some, Int.toNat_natCast]
    kernel_rfl)
  obtain ⟨n, hn⟩ : ∃ n, fu = n + 3 := ⟨18446744073709551613, rfl⟩
  have hf : fu = 18446744073709551616 := rfl
  refine key.trans ?_
  rw [hn]
  have j1 := con_lp (P1 := P1) (s := s1 + s2) (at0 := 0) (part := s1) (x := x1) (g0 := fun _ => 0) q3 hP (by omega) a4 hx1 (D1.length : Nat) 0 t1 (ints (D1 ++ n1 :: D2)) v t1 t2 (ints (D1 ++ n1 :: D2)) x1 (ints (D1 ++ n2 :: D2)) x2 (ints (D1 ++ (n1 + n2) :: D2)) (n + 2) KC0c P1 0 fu (by omega) (by omega)
  have j2 := con_lp (P1 := P1) (s := s1 + s2) (at0 := s1) (part := s2) (x := x2) (g0 := gI (s1 + s2) 0 s1 x1 (fun _ => 0) P1) q3 hP (by omega) b4 hx2 (D1.length : Nat) 1 t2 (ints (D1 ++ n2 :: D2)) v t1 t2 (ints (D1 ++ n1 :: D2)) x1 (ints (D1 ++ n2 :: D2)) x2 (ints (D1 ++ (n1 + n2) :: D2)) (n + 1) KC0c P1 0 fu (by omega) (by omega)
  have z1 : List.replicate (P1 * (s1 + s2)) (0 : Int) = tab (P1 * (s1 + s2)) (gI (s1 + s2) 0 s1 x1 (fun _ => 0) 0) := tab_zero _ _ fun p _ => by unfold gI; rw [if_neg (fun h => absurd h.1 (Nat.not_lt_zero _))]
  have z2 : tab (P1 * (s1 + s2)) (gI (s1 + s2) 0 s1 x1 (fun _ => 0) P1) = tab (P1 * (s1 + s2)) (gI (s1 + s2) s1 s2 x2 (gI (s1 + s2) 0 s1 x1 (fun _ => 0) P1) 0) := tab_congr fun p _ => by
    rw [show gI (s1 + s2) s1 s2 x2 (gI (s1 + s2) 0 s1 x1 (fun _ => 0) P1) 0 p = gI (s1 + s2) 0 s1 x1 (fun _ => 0) P1 p from if_neg (fun h => absurd h.1 (Nat.not_lt_zero _))]
  have z3 : tab (P1 * (s1 + s2)) (gI (s1 + s2) s1 s2 x2 (gI (s1 + s2) 0 s1 x1 (fun _ => 0) P1) P1) = joinL P1 s1 s2 x1 x2 := by
    unfold joinL
    refine tab_congr fun p hp => ?_
    have hi : p / (s1 + s2) < P1 := Nat.div_lt_of_lt_mul (by rw [Nat.mul_comm]; exact hp)
    have hm : p % (s1 + s2) < s1 + s2 := Nat.mod_lt _ q2
    by_cases h : p % (s1 + s2) < s1
    · rw [if_pos h]
      unfold gI
      rw [if_neg (by omega), if_pos (by omega), Nat.sub_zero]
    · rw [if_neg h]
      unfold gI
      rw [if_pos (by omega)]
  rw [z1, c0_a, if_pos (by rw [hml]; simp only [Int.ofNat_eq_natCast]; omega), Option.bind_some, Int.toNat_natCast, mid_take, List.drop_zero, decide_eq_true (show (ints D1).length ≤ 9223372036854775807 by rw [ints_len]; omega), cond_true, if_pos (by rw [hml]; simp only [Int.ofNat_eq_natCast]; omega), Option.bind_some, show (Int.ofNat (ints (D1 ++ n1 :: D2)).length).toNat = (ints (D1 ++ n1 :: D2)).length from rfl, List.take_length, mid_drop, decide_eq_true (show (ints (n1 :: D2)).length ≤ 9223372036854775807 by rw [ints_len, List.length_cons]; omega), cond_true, a2]
  refine Eq.trans (b := lp gCc cf_con (cL (cL (cR (cL (cR (cR (cL (cL (cR (cR (cL (cL (cR (cL (cR (cR (cR (cR (cR C_con))))))))))))))))))) fu (stC1 (D1.length : Nat) (P1 : Nat) ((s1 + s2 : Nat) : Int) ((0 : Nat) : Int) (s1 : Nat) ((0 : Nat) : Int) ((0 : Nat) : Int) (tab (P1 * (s1 + s2)) (gI (s1 + s2) 0 s1 x1 (fun _ => 0) 0)) t1 (ints (D1 ++ n1 :: D2)) x1 v t1 t2 (ints (D1 ++ n1 :: D2)) x1 (ints (D1 ++ n2 :: D2)) x2 (ints (D1 ++ (n1 + n2) :: D2))) (KC1c (n + 2) KC0c)) (by kernel_rfl) ?_
  rw [j1, show IntKind.i64.wrap (((0 : Nat) : Int) + (s1 : Int)) = (s1 : Int) by rw [wrap64 (by omega) (by omega)]; omega, show IntKind.i64.wrap (((0 : Nat) : Int) + 1) = 1 from rfl, z2]
  rw [c0_b, if_pos (by rw [hml]; simp only [Int.ofNat_eq_natCast]; omega), Option.bind_some, Int.toNat_natCast, mid_take, List.drop_zero, decide_eq_true (show (ints D1).length ≤ 9223372036854775807 by rw [ints_len]; omega), cond_true, if_pos (by rw [hml]; simp only [Int.ofNat_eq_natCast]; omega), Option.bind_some, show (Int.ofNat (ints (D1 ++ n2 :: D2)).length).toNat = (ints (D1 ++ n2 :: D2)).length from rfl, List.take_length, mid_drop, decide_eq_true (show (ints (n2 :: D2)).length ≤ 9223372036854775807 by rw [ints_len, List.length_cons]; omega), cond_true, b2]
  refine Eq.trans (b := lp gCc cf_con (cL (cL (cR (cL (cR (cR (cL (cL (cR (cR (cL (cL (cR (cL (cR (cR (cR (cR (cR C_con))))))))))))))))))) fu (stC1 (D1.length : Nat) (P1 : Nat) ((s1 + s2 : Nat) : Int) (s1 : Nat) (s2 : Nat) ((0 : Nat) : Int) ((1 : Nat) : Int) (tab (P1 * (s1 + s2)) (gI (s1 + s2) s1 s2 x2 (gI (s1 + s2) 0 s1 x1 (fun _ => 0) P1) 0)) t2 (ints (D1 ++ n2 :: D2)) x2 v t1 t2 (ints (D1 ++ n1 :: D2)) x1 (ints (D1 ++ n2 :: D2)) x2 (ints (D1 ++ (n1 + n2) :: D2))) (KC1c (n + 1) KC0c)) (by kernel_rfl) ?_
  rw [j2, show IntKind.i64.wrap (((1 : Nat) : Int) + 1) = 2 from rfl, z3, c0_c]
  exact c0_x _ _ _ _ _ _ _ _ _ _ _ _ _
end Go.Proofs.XGT
namespace Go.Proofs.XGT
open Go.Vm Go
set_option maxRecDepth 100000
set_option maxHeartbeats 4000000
def cdB (v t1 : Int) (d1 x1 : List Int) (t2 : Int) (d2 x2 : List Int) : Bool := decide (tenE t1 d1 x1 = 0 ∧ tenE t2 d2 x2 = 0 ∧ t2 = t1 ∧ countE (ccD v d1 d2) = 0) && ccB v d1 d2
def ccX (v : Int) (d1 x1 d2 x2 : List Int) : List Int := joinL (prodN ((d1.map Int.toNat).take (axN v d1))) (prodN ((d1.map Int.toNat).drop (axN v d1))) (prodN ((d2.map Int.toNat).drop (axN v d1))) x1 x2
theorem cdB_ok {v t1 t2 : Int} {d1 x1 d2 x2 : List Int} (h : cdB v t1 d1 x1 t2 d2 x2 = true) : tenE t1 d1 x1 = 0 ∧ tenE t2 d2 x2 = 0 ∧ t2 = t1 ∧ countE (ccD v d1 d2) = 0 ∧ ccB v d1 d2 = true := by
  unfold cdB at h
  rw [Bool.and_eq_true] at h
  obtain ⟨a, b, c, d⟩ := of_decide_eq_true h.1
  exact ⟨a, b, c, d, h.2⟩
theorem cb_run {v t1 t2 : Int} {d1 x1 d2 x2 : List Int} (h : cdB v t1 d1 x1 t2 d2 x2 = true) : runC gCb Tryz.f42 6 [(3, [2, 4, 6, 9, 10, 11])] [nodeA strCC [] [122] (.os 2 0) (.os 1 0), .os 0 0] (hpCb false v t1 t2 d1 x1 d2 x2) ah =
    some (.ret [(AV.d Ty.str [122]).pr ((I t1).pr ((AV.os 3 0).pr (AV.d Ty.unit PUnit.unit))), I 0], hpCb true v t1 t2 d1 x1 d2 x2 ++ [(3, .arr 3 i64T 0 false (ccD v d1 d2))]) := by
  obtain ⟨e1, e2, rfl, e4, e5⟩ := cdB_ok h
  obtain ⟨a1, a2, a3, _⟩ := ten_ok e1
  obtain ⟨_, b2, b3, _⟩ := ten_ok e2
  obtain ⟨_, l1, m1, q1⟩ := count_ok a2
  obtain ⟨_, l2, m2, q2⟩ := count_ok b2
  obtain ⟨_, l3, _, _⟩ := count_ok e4
  obtain ⟨D1, D2, n1, n2, ht⟩ := two_of e5
  have hne : ccD v d1 d2 ≠ [] := fun e => by
    have := ht.dims
    rw [e] at this
    have := congrArg List.length this
    rw [mid_len] at this
    simp only [List.length_nil] at this
    omega
  rw [cb_eq, decide_eq_true (show d1.length ≤ 9223372036854775807 ∧ x1.length ≤ 9223372036854775807 by omega), e1, decide_eq_true (show d2.length ≤ 9223372036854775807 ∧ x2.length ≤ 9223372036854775807 by omega), e2, a1, decide_eq_true (show d1.length ≤ 9223372036854775807 by omega), a2, decide_eq_true (show d2.length ≤ 9223372036854775807 by omega), b2, show (t2 != t2) = false from by simp, decide_eq_true (show d1 = d1 from rfl), e5, decide_eq_true (show (ccD v d1 d2).length ≤ 9223372036854775807 by omega), e4, decide_eq_true (show ccD v d1 d2 ≠ [] ∧ (ccD v d1 d2).length ≤ 65536 from ⟨hne, by omega⟩)]
  cases t2 == 6 <;> rfl
theorem con_run2 {v t1 t2 : Int} {d1 x1 d2 x2 : List Int} (h : cdB v t1 d1 x1 t2 d2 x2 = true) : runC gCc Tryz.f49 7 [(6, [7, 8, 9, 10, 11, 32, 33, 34]), (10, [7, 8, 9, 10, 11, 13, 15, 32, 33, 34, 45, 46])] [nodeA strCC [] [122] (.os 3 0) (.os 2 0), .os 1 0, .os 0 0] (hpCc false false v t1 t2 d1 x1 d2 x2 (ccD v d1 d2)) ah =
    some (.ret [.os 4 0], hpCc true false v t1 t2 d1 x1 d2 x2 (ccD v d1 d2) ++ [(4, .arr 2 i64T 0 false (ccX v d1 x1 d2 x2))]) := by
  obtain ⟨e1, e2, rfl, e4, e5⟩ := cdB_ok h
  obtain ⟨a1, a2, a3, _⟩ := ten_ok e1
  obtain ⟨_, b2, b3, _⟩ := ten_ok e2
  obtain ⟨_, l1, m1, q1⟩ := count_ok a2
  obtain ⟨_, l2, m2, q2⟩ := count_ok b2
  obtain ⟨D1, D2, n1, n2, ht⟩ := two_of e5
  obtain ⟨_, l3, m3, q3⟩ := count_ok e4
  have ed := ht.dims
  have ea := ht.ax
  have p1 := ht.m1.eq
  have p2 := ht.m2.eq
  have hrk := ht.m1.rank
  have o1 := ht.m1.one
  have o2 := ht.m2.one
  have hA : axN v d1 = D1.length := by unfold axN; omega
  rw [ed, prodI_ints] at m3
  rw [q1, p1, prodI_ints, prodN_mid] at a3
  rw [q2, p2, prodI_ints, prodN_mid] at b3
  rw [List.length_append, List.length_cons] at hrk
  have eX : ccX v d1 x1 d2 x2 = joinL (prodN D1) (n1 * prodN D2) (n2 * prodN D2) x1 x2 := by
    unfold ccX
    rw [hA, p1, p2, ints_toNat, ints_toNat, List.take_append_of_le_length (Nat.le_refl _), List.take_length, List.drop_append_of_le_length (Nat.le_refl _), List.drop_length, List.nil_append, List.drop_append_of_le_length (Nat.le_refl _), List.drop_length, List.nil_append]
    rfl
  have hv : axV v (Int.ofNat (ints (D1 ++ (n1 + n2) :: D2)).length) = (D1.length : Nat) := by
    rw [mid_len, ← mid_len D1 D2 n1, ← p1]
    exact ea
  rw [ed, eX, p1, p2]
  exact con_run o1 o2 (by omega) (by omega) hv (by omega) (by omega)
def cbT : List AV → LHp → Tq
  | [n, .os 0 0], [(0, .arr 25 ((.pair (.int .i64) (.pair (.slice (.int .i64)) (.pair (.slice (.int .i64)) .unit)))) 0 false [(t1, d1, x1, ()), (t2, d2, x2, ())]), (1, .arr 37 ((.pair .str (.pair (.int .i64) (.pair (.int .i64) (.pair (.int .i64) (.pair .str (.pair (.pair (.int .i64) (.pair (.slice (.int .i64)) (.pair (.slice (.int .i64)) .unit))) (.pair (.slice (.int .i64)) .unit)))))))) 0 false [a]), (2, .arr 9 .str 0 false ins)] =>
    (match nodeP n with
    | some (op, nm, out, .os 2 0, .os 1 0) => gate (decide (op = strCC) && decide (nm = []) && decide (out = [122]) && decide (ins = [[120], [121]]) && isI a strAxis)
        (.br (cdB a.2.2.2.1 t1 d1 x1 t2 d2 x2) (.leaf (.ret [(AV.d Ty.str [122]).pr ((I t1).pr ((AV.os 3 0).pr (AV.d Ty.unit PUnit.unit))), I 0]) (hpCb true a.2.2.2.1 t1 t2 d1 x1 d2 x2 ++ [(3, .arr 3 i64T 0 false (ccD a.2.2.2.1 d1 d2))])) .no)
    | _ => .no)
  | _, _ => .no
theorem cbT_ok : FnE.OK e0.P e0.gam 42 (treeE cbT) := by
  have h1 : FnE.OK e0.P e0.gam 42 (execFnC gCb Tryz.f42 6 [(3, [2, 4, 6, 9, 10, 11])]) := execFnC_ok gCb_good hmix Tryz.func42 Tryz.call42 (by decide +kernel) rfl
  refine ⟨fun _ _ _ => Tq.eq _ _, fun args hs ae hs' h => ?_⟩
  have h' : (cbT args hs).run ah = some (ae, hs') := h
  clear h
  unfold cbT at h'
  split at h'
  · rename_i n t1 d1 x1 t2 d2 x2 a ins
    split at h'
    · rename_i hn
      rw [nodeP_some hn]
      obtain ⟨hb, h2⟩ := gate_run h'
      clear h'
      simp only [Bool.and_eq_true, decide_eq_true_eq] at hb
      obtain ⟨⟨⟨⟨b1, b2⟩, b3⟩, b4⟩, b5⟩ := hb
      subst b1 b2 b3 b4
      obtain ⟨v, rfl⟩ := isI_eq b5
      change (Tq.br (cdB v t1 d1 x1 t2 d2 x2) (.leaf (.ret [(AV.d Ty.str [122]).pr ((I t1).pr ((AV.os 3 0).pr (AV.d Ty.unit PUnit.unit))), I 0]) (hpCb true v t1 t2 d1 x1 d2 x2 ++ [(3, .arr 3 i64T 0 false (ccD v d1 d2))])) .no).run ah = _ at h2
      obtain ⟨hc, h3⟩ := Tq.br_no h2
      cases h3
      exact h1.okC (cb_run hc)
    · cases h'
  · cases h'
def conT : List AV → LHp → Tq
  | [n, .os 1 0, .os 0 0], [(0, .arr 3 (.int .i64) 0 false nd), (1, .arr 25 ((.pair (.int .i64) (.pair (.slice (.int .i64)) (.pair (.slice (.int .i64)) .unit)))) 0 false [(t1, d1, x1, ()), (t2, d2, x2, ())]), (2, .arr 37 ((.pair .str (.pair (.int .i64) (.pair (.int .i64) (.pair (.int .i64) (.pair .str (.pair (.pair (.int .i64) (.pair (.slice (.int .i64)) (.pair (.slice (.int .i64)) .unit))) (.pair (.slice (.int .i64)) .unit)))))))) 0 true [a]), (3, .arr 9 .str 0 false ins)] =>
    (match nodeP n with
    | some (op, nm, out, .os 3 0, .os 2 0) => gate (decide (op = strCC) && decide (nm = []) && decide (out = [122]) && decide (ins = [[120], [121]]) && isI a strAxis)
        (.br (decide (nd = ccD a.2.2.2.1 d1 d2) && cdB a.2.2.2.1 t1 d1 x1 t2 d2 x2) (.leaf (.ret [.os 4 0]) (hpCc true false a.2.2.2.1 t1 t2 d1 x1 d2 x2 nd ++ [(4, .arr 2 i64T 0 false (ccX a.2.2.2.1 d1 x1 d2 x2))])) .no)
    | _ => .no)
  | _, _ => .no
theorem conT_ok : FnE.OK e0.P e0.gam 49 (treeE conT) := by
  have h1 : FnE.OK e0.P e0.gam 49 (execFnC gCc Tryz.f49 7 [(6, [7, 8, 9, 10, 11, 32, 33, 34]), (10, [7, 8, 9, 10, 11, 13, 15, 32, 33, 34, 45, 46])]) := execFnC_ok gCc_good hmix Tryz.func49 Tryz.call49 (by decide +kernel) rfl
  refine ⟨fun _ _ _ => Tq.eq _ _, fun args hs ae hs' h => ?_⟩
  have h' : (conT args hs).run ah = some (ae, hs') := h
  clear h
  unfold conT at h'
  split at h'
  · rename_i n nd t1 d1 x1 t2 d2 x2 a ins
    split at h'
    · rename_i hn
      rw [nodeP_some hn]
      obtain ⟨hb, h2⟩ := gate_run h'
      clear h'
      simp only [Bool.and_eq_true, decide_eq_true_eq] at hb
      obtain ⟨⟨⟨⟨b1, b2⟩, b3⟩, b4⟩, b5⟩ := hb
      subst b1 b2 b3 b4
      obtain ⟨v, rfl⟩ := isI_eq b5
      change (Tq.br (decide (nd = ccD v d1 d2) && cdB v t1 d1 x1 t2 d2 x2) (.leaf (.ret [.os 4 0]) (hpCc true false v t1 t2 d1 x1 d2 x2 nd ++ [(4, .arr 2 i64T 0 false (ccX v d1 x1 d2 x2))])) .no).run ah = _ at h2
      obtain ⟨hc, h3⟩ := Tq.br_no h2
      rw [Bool.and_eq_true] at hc
      obtain ⟨hc1, hc2⟩ := hc
      obtain rfl := of_decide_eq_true hc1
      cases h3
      exact h1.okC (con_run2 hc2)
    · cases h'
  · cases h'
noncomputable def gMcD : Env := (g227.add 42 (treeE cbT)).add 49 (treeE conT)
theorem gMcD_good : gMcD.Good := (g227_good.add cbT_ok).add conT_ok
theorem mdc_eq (v t1 t2 : Int) (d1 x1 d2 x2 : List Int) : runC gMcD Tryz.f27 7 [] [nodeA strCC [] [122] (.os 2 0) (.os 1 0), .os 0 0] (hpCb false v t1 t2 d1 x1 d2 x2) ah =
  bif cdB v t1 d1 x1 t2 d2 x2 then 
    bif decide (ccD v d1 d2 = ccD v d1 d2) && cdB v t1 d1 x1 t2 d2 x2 then some (AEnd.ret [(I t1).pr ((AV.os 3 0).pr ((AV.os 4 0).pr (AV.d Ty.unit PUnit.unit))), I 0], [(0, AObj.arr 25 ((i64T).pair ((i64T).slice.pair ((i64T).slice.pair Ty.unit))) 0 false [(t1, d1, x1, PUnit.unit), (t2, d2, x2, PUnit.unit)]), (1, AObj.arr 37 (Ty.str.pair ((i64T).pair ((i64T).pair ((i64T).pair (Ty.str.pair (((i64T).pair ((i64T).slice.pair ((i64T).slice.pair Ty.unit))).pair ((i64T).slice.pair Ty.unit))))))) 0 true [([97, 120, 105, 115], 2, 0, v, [], (0, [], [], PUnit.unit), [], PUnit.unit)]), (2, AObj.arr 9 Ty.str 0 false [[120], [121]]), (3, AObj.arr 3 (i64T) 0 true (ccD v d1 d2)), (4, AObj.arr 2 (i64T) 0 false (ccX v d1 x1 d2 x2))])
    else none
  else none := by kernel_rfl
end Go.Proofs.XGT
namespace Go.Proofs.XGT
open Go.Vm Go
set_option maxRecDepth 100000
set_option maxHeartbeats 4000000
noncomputable def gS0 : Env := g212.add 55 (treeE fun _ _ => .no)
theorem gS0_good : gS0.Good := g212_good.add (noE_ok _)
theorem s0_eq (t s e k : Int) (d x : List Int) : runC gS0 Tryz.f42 6 [(3, [2, 4, 6, 9, 10, 11])] [nodeA strSL [] [121] (.os 2 0) (.os 1 0), .os 0 0] (hpTb false t d x (at3 s e k)) ah =
  bif decide (d.length ≤ 9223372036854775807 ∧ x.length ≤ 9223372036854775807) then 
    bif tenE t d x != 0 then some (AEnd.ret [(AV.d Ty.str []).pr ((I 0).pr (AV.nils.pr (AV.d Ty.unit PUnit.unit))), I 1], [(0, AObj.arr 25 ((i64T).pair ((i64T).slice.pair ((i64T).slice.pair Ty.unit))) 0 false [(t, d, x, PUnit.unit)]), (1, AObj.arr 37 (Ty.str.pair ((i64T).pair ((i64T).pair ((i64T).pair (Ty.str.pair (((i64T).pair ((i64T).slice.pair ((i64T).slice.pair Ty.unit))).pair ((i64T).slice.pair Ty.unit))))))) 0 false [([115, 116, 97, 114, 116, 115], 7, 0, 0, [], (0, [], [], PUnit.unit), [s], PUnit.unit), ([101, 110, 100, 115], 7, 0, 0, [], (0, [], [], PUnit.unit), [e], PUnit.unit), ([97, 120, 101, 115], 7, 0, 0, [], (0, [], [], PUnit.unit), [k], PUnit.unit)]), (2, AObj.arr 9 Ty.str 0 false [[120]])])
    else none
  else none := by kernel_rfl
/-- three lists of one number each -/
def sv3 : List Int → List Int → List Int → (Int → Int → Int → Tq) → Tq
  | [s], [e], [k], f => f s e k
  | _, _, _, _ => .no
theorem sv3_run {a b c : List Int} {f : Int → Int → Int → Tq} {r : AEnd × LHp} (h : (sv3 a b c f).run ah = some r) : ∃ s e k, a = [s] ∧ b = [e] ∧ c = [k] ∧ (f s e k).run ah = some r := by
  unfold sv3 at h
  split at h
  · exact ⟨_, _, _, rfl, rfl, rfl, h⟩
  · cases h
def sbL (t : Int) (d x : List Int) (s e k : Int) : Tq :=
  .br (decide (x.length ≤ maxLen ∧ d.length ≤ maxLen)) (.br (tenE t d x != 0) (.leaf (.ret [zeroV, I 1]) (hpTb false t d x (at3 s e k))) (.br (slB d s e k) (.leaf (sbOk t d x s e k).1 (sbOk t d x s e k).2) (.leaf (.ret [zeroV, I 4]) (hpTb true t d x (at3 s e k))))) .no
def sbT : List AV → LHp → Tq
  | [n, .os 0 0], [(0, .arr 25 ((.pair (.int .i64) (.pair (.slice (.int .i64)) (.pair (.slice (.int .i64)) .unit)))) 0 false [(t, d, x, ())]), (1, .arr 37 ((.pair .str (.pair (.int .i64) (.pair (.int .i64) (.pair (.int .i64) (.pair .str (.pair (.pair (.int .i64) (.pair (.slice (.int .i64)) (.pair (.slice (.int .i64)) .unit))) (.pair (.slice (.int .i64)) .unit)))))))) 0 false [a, b, c]), (2, .arr 9 .str 0 false ins)] =>
    (match nodeP n with
    | some (op, nm, out, .os 2 0, .os 1 0) => gate (decide (op = strSL) && decide (nm = []) && decide (out = [121]) && decide (ins = [[120]]) && isL a strStarts && isL b strEnds && isL c strAxes) (sv3 a.2.2.2.2.2.2.1 b.2.2.2.2.2.2.1 c.2.2.2.2.2.2.1 fun s e k => sbL t d x s e k)
    | _ => .no)
  | _, _ => .no
theorem sbT_ok : FnE.OK e0.P e0.gam 42 (treeE sbT) := by
  have h0 : FnE.OK e0.P e0.gam 42 (execFnC gS0 Tryz.f42 6 [(3, [2, 4, 6, 9, 10, 11])]) := execFnC_ok gS0_good hmix Tryz.func42 Tryz.call42 (by decide +kernel) rfl
  have h1 : FnE.OK e0.P e0.gam 42 (execFnC gSb Tryz.f42 6 [(3, [2, 4, 6, 9, 10, 11])]) := execFnC_ok gSb_good hmix Tryz.func42 Tryz.call42 (by decide +kernel) rfl
  refine ⟨fun _ _ _ => Tq.eq _ _, fun args hs ae hs' h => ?_⟩
  have h' : (sbT args hs).run ah = some (ae, hs') := h
  clear h
  unfold sbT at h'
  split at h'
  · rename_i t d x a b c ins
    split at h'
    · rename_i hn
      rw [nodeP_some hn]
      obtain ⟨hb, h2⟩ := gate_run h'
      clear h'
      simp only [Bool.and_eq_true, decide_eq_true_eq] at hb
      obtain ⟨⟨⟨⟨⟨⟨b1, b2⟩, b3⟩, b4⟩, b5⟩, b6⟩, b7⟩ := hb
      subst b1 b2 b3 b4
      obtain ⟨la, rfl⟩ := isL_eq b5
      obtain ⟨lb, rfl⟩ := isL_eq b6
      obtain ⟨lc, rfl⟩ := isL_eq b7
      obtain ⟨s, e, k, rfl, rfl, rfl, h3⟩ := sv3_run (a := la) (b := lb) (c := lc) h2
      clear h2
      obtain ⟨hg, h4⟩ := Tq.br_no h3
      obtain ⟨c1, c2⟩ := of_decide_eq_true hg
      change (bif tenE t d x != 0 then _ else _) = _ at h4
      cases ht : tenE t d x != 0 with
      | true =>
        rw [ht] at h4
        refine h0.okC ((s0_eq t s e k d x).trans (Eq.trans ?_ h4))
        rw [decide_eq_true (show d.length ≤ 9223372036854775807 ∧ x.length ≤ 9223372036854775807 from ⟨c2, c1⟩), ht]
        rfl
      | false =>
        rw [ht] at h4
        refine h1.okC ((sb_run c1 c2 (by simpa using ht)).trans (Eq.trans ?_ h4))
        rw [cond_false]
        change _ = (bif slB d s e k then _ else _)
        cases slB d s e k <;> rfl
    · cases h'
  · cases h'
def svG (t : Int) (d x n : List Int) (s e k : Int) : Tq := .br (decide (tenE t d x = 0 ∧ n = d.set (axN k d) (slN d s e k)) && slB d s e k) (.leaf (.ret [.os 3 0]) (hpSv s e k n ++ [(3, .arr 2 i64T 0 false (svL d x s e k))])) .no
def svT : List AV → LHp → Tq
  | [n, .d ((.pair (.int .i64) (.pair (.slice (.int .i64)) (.pair (.slice (.int .i64)) .unit)))) (t, d, x, ()), .os 0 0], [(0, .arr 3 (.int .i64) 0 false l), (1, .arr 37 ((.pair .str (.pair (.int .i64) (.pair (.int .i64) (.pair (.int .i64) (.pair .str (.pair (.pair (.int .i64) (.pair (.slice (.int .i64)) (.pair (.slice (.int .i64)) .unit))) (.pair (.slice (.int .i64)) .unit)))))))) 0 true [a, b, c]), (2, .arr 9 .str 0 false ins)] =>
    (match nodeP n with
    | some (op, nm, out, .os 2 0, .os 1 0) => gate (decide (op = strSL) && decide (nm = []) && decide (out = [121]) && decide (ins = [[120]]) && isL a strStarts && isL b strEnds && isL c strAxes) (sv3 a.2.2.2.2.2.2.1 b.2.2.2.2.2.2.1 c.2.2.2.2.2.2.1 fun s e k => svG t d x l s e k)
    | _ => .no)
  | _, _ => .no
theorem svT_ok : FnE.OK e0.P e0.gam 48 (treeE svT) := by
  have h1 : FnE.OK e0.P e0.gam 48 (execFnC gSv Tryz.f48 7 [(4, [2, 3, 4, 7, 8, 19, 20]), (10, [2, 4, 7, 10, 32, 33, 34])]) := execFnC_ok gSv_good hmix Tryz.func48 Tryz.call48 (by decide +kernel) rfl
  refine ⟨fun _ _ _ => Tq.eq _ _, fun args hs ae hs' h => ?_⟩
  have h' : (svT args hs).run ah = some (ae, hs') := h
  clear h
  unfold svT at h'
  split at h'
  · rename_i t d x l a b c ins
    split at h'
    · rename_i hn
      rw [nodeP_some hn]
      obtain ⟨hb, h2⟩ := gate_run h'
      clear h'
      simp only [Bool.and_eq_true, decide_eq_true_eq] at hb
      obtain ⟨⟨⟨⟨⟨⟨b1, b2⟩, b3⟩, b4⟩, b5⟩, b6⟩, b7⟩ := hb
      subst b1 b2 b3 b4
      obtain ⟨la, rfl⟩ := isL_eq b5
      obtain ⟨lb, rfl⟩ := isL_eq b6
      obtain ⟨lc, rfl⟩ := isL_eq b7
      obtain ⟨s, e, k, rfl, rfl, rfl, h3⟩ := sv3_run (a := la) (b := lb) (c := lc) h2
      clear h2
      obtain ⟨hg, h4⟩ := Tq.br_no h3
      rw [Bool.and_eq_true] at hg
      obtain ⟨hg1, hg2⟩ := hg
      obtain ⟨c1, rfl⟩ := of_decide_eq_true hg1
      cases h4
      exact h1.okC (sv_run c1 hg2)
    · cases h'
  · cases h'
noncomputable def gMs : Env := (g227.add 42 (treeE sbT)).add 48 (treeE svT)
theorem gMs_good : gMs.Good := (g227_good.add sbT_ok).add svT_ok
theorem mds_eq (t s e k : Int) (d x : List Int) : runC gMs Tryz.f27 7 [] [nodeA strSL [] [121] (.os 2 0) (.os 1 0), .os 0 0] (hpTb false t d x (at3 s e k)) ah =
  bif decide (x.length ≤ 9223372036854775807 ∧ d.length ≤ 9223372036854775807) then 
    bif tenE t d x != 0 then some (AEnd.ret [(I 0).pr (AV.nils.pr (AV.nils.pr (AV.d Ty.unit PUnit.unit))), I 1], [(0, AObj.arr 25 ((i64T).pair ((i64T).slice.pair ((i64T).slice.pair Ty.unit))) 0 false [(t, d, x, PUnit.unit)]), (1, AObj.arr 37 (Ty.str.pair ((i64T).pair ((i64T).pair ((i64T).pair (Ty.str.pair (((i64T).pair ((i64T).slice.pair ((i64T).slice.pair Ty.unit))).pair ((i64T).slice.pair Ty.unit))))))) 0 false [([115, 116, 97, 114, 116, 115], 7, 0, 0, [], (0, [], [], PUnit.unit), [s], PUnit.unit), ([101, 110, 100, 115], 7, 0, 0, [], (0, [], [], PUnit.unit), [e], PUnit.unit), ([97, 120, 101, 115], 7, 0, 0, [], (0, [], [], PUnit.unit), [k], PUnit.unit)]), (2, AObj.arr 9 Ty.str 0 false [[120]])])
    else 
      bif slB d s e k then 
        bif decide (tenE t d x = 0 ∧ d.set (axN k d) (slN d s e k) = d.set (axN k d) (slN d s e k)) && slB d s e k then some (AEnd.ret [(I t).pr ((AV.os 3 0).pr ((AV.os 4 0).pr (AV.d Ty.unit PUnit.unit))), I 0], [(0, AObj.arr 25 ((i64T).pair ((i64T).slice.pair ((i64T).slice.pair Ty.unit))) 0 false [(t, d, x, PUnit.unit)]), (1, AObj.arr 37 (Ty.str.pair ((i64T).pair ((i64T).pair ((i64T).pair (Ty.str.pair (((i64T).pair ((i64T).slice.pair ((i64T).slice.pair Ty.unit))).pair ((i64T).slice.pair Ty.unit))))))) 0 true [([115, 116, 97, 114, 116, 115], 7, 0, 0, [], (0, [], [], PUnit.unit), [s], PUnit.unit), ([101, 110, 100, 115], 7, 0, 0, [], (0, [], [], PUnit.unit), [e], PUnit.unit), ([97, 120, 101, 115], 7, 0, 0, [], (0, [], [], PUnit.unit), [k], PUnit.unit)]), (2, AObj.arr 9 Ty.str 0 false [[120]]), (3, AObj.arr 3 (i64T) 0 false (d.set (axN k d) (slN d s e k))), (4, AObj.arr 2 (i64T) 0 false (svL d x s e k))])
        else none
      else some (AEnd.ret [(I 0).pr (AV.nils.pr (AV.nils.pr (AV.d Ty.unit PUnit.unit))), I 4], [(0, AObj.arr 25 ((i64T).pair ((i64T).slice.pair ((i64T).slice.pair Ty.unit))) 0 false [(t, d, x, PUnit.unit)]), (1, AObj.arr 37 (Ty.str.pair ((i64T).pair ((i64T).pair ((i64T).pair (Ty.str.pair (((i64T).pair ((i64T).slice.pair ((i64T).slice.pair Ty.unit))).pair ((i64T).slice.pair Ty.unit))))))) 0 true [([115, 116, 97, 114, 116, 115], 7, 0, 0, [], (0, [], [], PUnit.unit), [s], PUnit.unit), ([101, 110, 100, 115], 7, 0, 0, [], (0, [], [], PUnit.unit), [e], PUnit.unit), ([97, 120, 101, 115], 7, 0, 0, [], (0, [], [], PUnit.unit), [k], PUnit.unit)]), (2, AObj.arr 9 Ty.str 0 false [[120]])])
  else none := by kernel_rfl
end Go.Proofs.XGT
namespace Go.Proofs.XGT
open Go.Vm Go
set_option maxRecDepth 100000
set_option maxHeartbeats 4000000
noncomputable def C_smxs : Code := codeOf Tryz.f33
noncomputable def cf_smxs : Cfg := ⟨26, 5, 1, [(4, [0, 1, 5])], true⟩
def smxsH (z4 : Bool) (xs : List Int) : LHp := [(0, .arr 3 i64T 0 z4 xs)]
theorem smxs_eqH (hl : Hl) (z4 : Bool) (xs : List Int) : runH g173 Tryz.f33 5 [(4, [0, 1, 5])] [4] hl [.os 0 0, .d (.slice i64T) xs] (smxsH z4 xs) ah =
  bif Int.ofNat xs.length != Int.ofNat xs.length then some (AEnd.ret [B false], [(0, AObj.arr 3 (i64T) 0 z4 xs)])
  else hl (cL (cL (cR (cL (cR (cR C_smxs)))))) _ { fr := mkFr 5 [(0, AV.os 0 0), (1, AV.d (i64T).slice xs), (5, I 0)], hp := [(0, AObj.arr 3 (i64T) 0 z4 xs)], nx := 2 } (blkK 0 (seqH g173 cf_smxs [4] hl (cR (cR (cR C_smxs))) (endC Tryz.prog 1 Tryz.f33.results.toList ah))) := by kernel_rfl
theorem smxs_eq (z4 : Bool) (xs : List Int) : runC g173 Tryz.f33 5 [(4, [0, 1, 5])] [.os 0 0, .d (.slice i64T) xs] (smxsH z4 xs) ah =
  bif Int.ofNat xs.length != Int.ofNat xs.length then some (AEnd.ret [B false], [(0, AObj.arr 3 (i64T) 0 z4 xs)])
  else (hlp g173 cf_smxs) (cL (cL (cR (cL (cR (cR C_smxs)))))) _ { fr := mkFr 5 [(0, AV.os 0 0), (1, AV.d (i64T).slice xs), (5, I 0)], hp := [(0, AObj.arr 3 (i64T) 0 z4 xs)], nx := 2 } (blkK 0 (seqH g173 cf_smxs [4] (hlp g173 cf_smxs) (cR (cR (cR C_smxs))) (endC Tryz.prog 1 Tryz.f33.results.toList ah))) := runH_runC.trans (smxs_eqH (hlp g173 cf_smxs) z4 xs)
def smxsSt (z4 : Bool) (xs : List Int) (i : Int) : LSt := ⟨mkFr 5 [(0, .os 0 0), (1, .d (.slice i64T) xs), (5, I i)], smxsH z4 xs, 2⟩
theorem smxs_stepH (hl : Hl) (z4 : Bool) (xs : List Int) (i : Int) (n : Nat) {R : Type} (k : AEx → LSt → Option R) : lpH g173 cf_smxs [4] hl (cL (cL (cR (cL (cR (cR C_smxs)))))) (n + 1) (smxsSt z4 xs i) k =
  bif decide (i < Int.ofNat xs.length) then (idx xs i).bind fun v1 =>
      (xs[i.toNat]?).bind fun v2 =>
        (idx xs i).bind fun v3 =>
          bif v2 != v3 then k AEx.ret { fr := mkFr 5 [(0, AV.os 0 0), (1, AV.d (i64T).slice xs), (4, B false), (5, I i), (11, I i), (12, AV.os 0 0), (13, I (Int.ofNat xs.length)), (14, B true), (17, AV.os 0 0), (18, I i), (19, AV.oe 0 0 i.toNat), (20, I v2), (21, AV.d (i64T).slice xs), (22, I i), (23, AV.ip (i64T) v3), (24, I v3), (25, B true)], hp := [(0, AObj.arr 3 (i64T) 0 z4 xs)], nx := 2 }
          else lpH g173 cf_smxs [4] hl (cL (cL (cR (cL (cR (cR C_smxs)))))) n { fr := mkFr 5 [(0, AV.os 0 0), (1, AV.d (i64T).slice xs), (5, I (IntKind.i64.wrap (i + 1)))], hp := [(0, AObj.arr 3 (i64T) 0 z4 xs)], nx := 2 } k
  else k (AEx.exit 0) { fr := mkFr 5 [(0, AV.os 0 0), (1, AV.d (i64T).slice xs), (5, I i), (11, I i), (12, AV.os 0 0), (13, I (Int.ofNat xs.length)), (14, B false)], hp := [(0, AObj.arr 3 (i64T) 0 z4 xs)], nx := 2 } := by kernel_rfl
theorem smxs_step (z4 : Bool) (xs : List Int) (i : Int) (n : Nat) {R : Type} (k : AEx → LSt → Option R) : lp g173 cf_smxs (cL (cL (cR (cL (cR (cR C_smxs)))))) (n + 1) (smxsSt z4 xs i) k =
  bif decide (i < Int.ofNat xs.length) then (idx xs i).bind fun v1 =>
      (xs[i.toNat]?).bind fun v2 =>
        (idx xs i).bind fun v3 =>
          bif v2 != v3 then k AEx.ret { fr := mkFr 5 [(0, AV.os 0 0), (1, AV.d (i64T).slice xs), (4, B false), (5, I i), (11, I i), (12, AV.os 0 0), (13, I (Int.ofNat xs.length)), (14, B true), (17, AV.os 0 0), (18, I i), (19, AV.oe 0 0 i.toNat), (20, I v2), (21, AV.d (i64T).slice xs), (22, I i), (23, AV.ip (i64T) v3), (24, I v3), (25, B true)], hp := [(0, AObj.arr 3 (i64T) 0 z4 xs)], nx := 2 }
          else lp g173 cf_smxs (cL (cL (cR (cL (cR (cR C_smxs)))))) n { fr := mkFr 5 [(0, AV.os 0 0), (1, AV.d (i64T).slice xs), (5, I (IntKind.i64.wrap (i + 1)))], hp := [(0, AObj.arr 3 (i64T) 0 z4 xs)], nx := 2 } k
  else k (AEx.exit 0) { fr := mkFr 5 [(0, AV.os 0 0), (1, AV.d (i64T).slice xs), (5, I i), (11, I i), (12, AV.os 0 0), (13, I (Int.ofNat xs.length)), (14, B false)], hp := [(0, AObj.arr 3 (i64T) 0 z4 xs)], nx := 2 } := by
  have h := smxs_stepH (hlp g173 cf_smxs) z4 xs i n k
  simp only [lpH_lp] at h
  exact h
noncomputable def smxsK : AEx → LSt → Option (AEnd × LHp) := (blkK 0 (seqH g173 cf_smxs [4] (hlp g173 cf_smxs) (cR (cR (cR C_smxs))) (endC Tryz.prog 1 Tryz.f33.results.toList ah)))
theorem smxs_lp (z4 : Bool) (xs : List Int) : runC g173 Tryz.f33 5 [(4, [0, 1, 5])] [.os 0 0, .d (.slice i64T) xs] (smxsH z4 xs) ah = lp g173 cf_smxs (cL (cL (cR (cL (cR (cR C_smxs)))))) fu (smxsSt z4 xs 0) smxsK := (smxs_eq z4 xs).trans (by rw [bne_self_eq_false, cond_false]; kernel_rfl)
theorem smxsK_exit (z4 : Bool) (xs : List Int) (i : Int) : smxsK (AEx.exit 0) ⟨mkFr 5 [(0, .os 0 0), (1, .d (.slice i64T) xs), (5, I i), (11, I i), (12, .os 0 0), (13, I (Int.ofNat xs.length)), (14, B false)], smxsH z4 xs, 2⟩ = some (.ret [B true], smxsH z4 xs) := by kernel_rfl
theorem smxs_run (z4 : Bool) (xs : List Int) (hl : xs.length ≤ maxLen) : runC g173 Tryz.f33 5 [(4, [0, 1, 5])] [.os 0 0, .d (.slice i64T) xs] (smxsH z4 xs) ah = some (.ret [B true], smxsH z4 xs) := by
  rw [smxs_lp]
  exact allP_lp (T := fun n s => lp g173 cf_smxs (cL (cL (cR (cL (cR (cR C_smxs)))))) n s smxsK) (xs := xs) (st := smxsSt z4 xs) (r := some (.ret [B true], smxsH z4 xs)) hl (fun i x hx hi hlt n => by
    rw [smxs_step, decide_eq_true (show (i : Int) < Int.ofNat xs.length from Int.ofNat_lt.2 hlt), hi, show xs[(i : Int).toNat]? = some x from hx]
    simp only [cond_true, Option.bind_some, bne_self_eq_false, cond_false]
    rfl) (fun n => by
    rw [smxs_step, decide_eq_false (show ¬ (Int.ofNat xs.length < Int.ofNat xs.length) from Int.lt_irrefl _)]
    exact smxsK_exit _ _ _)
def smxsF : List AV → LHp → Tq
  | [.os 0 0, .d (.slice (.int .i64)) ys], [(0, .arr 3 (.int .i64) 0 z4 xs)] => .br (decide (xs.length ≤ maxLen ∧ xs = ys)) (.leaf (.ret [B true]) (smxsH z4 xs)) .no
  | _, _ => .no
theorem smxsE_ok : FnE.OK e0.P e0.gam 33 (treeE smxsF) := by
  have h1 : FnE.OK e0.P e0.gam 33 (execFnC g173 Tryz.f33 5 [(4, [0, 1, 5])]) := y33_ok
  refine ⟨fun _ _ _ => Tq.eq _ _, fun args hs ae hs' h => ?_⟩
  have h' : (smxsF args hs).run ah = some (ae, hs') := h
  clear h
  unfold smxsF at h'
  split at h'
  · obtain ⟨hb, h2⟩ := Tq.br_no h'
    clear h'
    obtain ⟨hl, he⟩ := of_decide_eq_true hb
    subst he
    cases h2
    exact h1.okC (smxs_run _ _ hl)
  · cases h'
noncomputable def C_smxt : Code := codeOf Tryz.f18
noncomputable def cf_smxt : Cfg := ⟨46, 6, 2, [(4, [2, 3, 5])], true⟩
noncomputable def gsmx : Env := g174.add 33 (treeE smxsF)
theorem gsmx_good : gsmx.Good := g174_good.add smxsE_ok
def smxtH (z3 z4 : Bool) (xd dt : List Int) : LHp := [(0, .arr 2 i64T 0 z3 dt), (1, .arr 3 i64T 0 z4 xd)]
def smxtA (t : Int) : AV := .pr (I t) (.pr (.os 1 0) (.pr (.os 0 0) (.d .unit ())))
def smxtB (t : Int) (xd dt : List Int) : AV := .d (Y0) (t, xd, dt, ())
theorem smxt_eqH (hl : Hl) (z3 z4 : Bool) (t : Int) (xd dt : List Int) : runH gsmx Tryz.f18 6 [(4, [2, 3, 5])] [4] hl [smxtA t, smxtB t xd dt] (smxtH z3 z4 xd dt) ah =
  bif t != t then some (AEnd.ret [B false], [(0, AObj.arr 2 (i64T) 0 z3 dt), (1, AObj.arr 3 (i64T) 0 z4 xd)])
  else 
    bif decide (xd.length ≤ 9223372036854775807 ∧ xd = xd) then 
      bif Int.ofNat dt.length != Int.ofNat dt.length then some (AEnd.ret [B false], [(0, AObj.arr 2 (i64T) 0 z3 dt), (1, AObj.arr 3 (i64T) 0 z4 xd)])
      else hl (cL (cL (cR (cL (cR (cR C_smxt)))))) _ { fr := mkFr 6 [(2, AV.op 2 [] 0), (3, AV.op 3 [] 0), (5, I 0)], hp := [(0, AObj.arr 2 (i64T) 0 z3 dt), (1, AObj.arr 3 (i64T) 0 z4 xd), (2, AObj.box ((I t).pr ((AV.os 1 0).pr ((AV.os 0 0).pr (AV.d Ty.unit PUnit.unit))))), (3, AObj.box (AV.d ((i64T).pair ((i64T).slice.pair ((i64T).slice.pair Ty.unit))) (t, xd, dt, PUnit.unit)))], nx := 6 } (blkK 0 (seqH gsmx cf_smxt [4] hl (cR (cR (cR C_smxt))) (endC Tryz.prog 2 Tryz.f18.results.toList ah)))
    else none := by kernel_rfl
theorem smxt_eq (z3 z4 : Bool) (t : Int) (xd dt : List Int) : runC gsmx Tryz.f18 6 [(4, [2, 3, 5])] [smxtA t, smxtB t xd dt] (smxtH z3 z4 xd dt) ah =
  bif t != t then some (AEnd.ret [B false], [(0, AObj.arr 2 (i64T) 0 z3 dt), (1, AObj.arr 3 (i64T) 0 z4 xd)])
  else 
    bif decide (xd.length ≤ 9223372036854775807 ∧ xd = xd) then 
      bif Int.ofNat dt.length != Int.ofNat dt.length then some (AEnd.ret [B false], [(0, AObj.arr 2 (i64T) 0 z3 dt), (1, AObj.arr 3 (i64T) 0 z4 xd)])
      else (hlp gsmx cf_smxt) (cL (cL (cR (cL (cR (cR C_smxt)))))) _ { fr := mkFr 6 [(2, AV.op 2 [] 0), (3, AV.op 3 [] 0), (5, I 0)], hp := [(0, AObj.arr 2 (i64T) 0 z3 dt), (1, AObj.arr 3 (i64T) 0 z4 xd), (2, AObj.box ((I t).pr ((AV.os 1 0).pr ((AV.os 0 0).pr (AV.d Ty.unit PUnit.unit))))), (3, AObj.box (AV.d ((i64T).pair ((i64T).slice.pair ((i64T).slice.pair Ty.unit))) (t, xd, dt, PUnit.unit)))], nx := 6 } (blkK 0 (seqH gsmx cf_smxt [4] (hlp gsmx cf_smxt) (cR (cR (cR C_smxt))) (endC Tryz.prog 2 Tryz.f18.results.toList ah)))
    else none := runH_runC.trans (smxt_eqH (hlp gsmx cf_smxt) z3 z4 t xd dt)
def smxtSt (z3 z4 : Bool) (t : Int) (xd dt : List Int) (i : Int) : LSt := ⟨mkFr 6 [(2, .op 2 [] 0), (3, .op 3 [] 0), (5, I i)], smxtH z3 z4 xd dt ++ [(2, .box (smxtA t)), (3, .box (smxtB t xd dt))], 6⟩
theorem smxt_stepH (hl : Hl) (z3 z4 : Bool) (t : Int) (xd dt : List Int) (i : Int) (n : Nat) {R : Type} (k : AEx → LSt → Option R) : lpH gsmx cf_smxt [4] hl (cL (cL (cR (cL (cR (cR C_smxt)))))) (n + 1) (smxtSt z3 z4 t xd dt i) k =
  bif decide (i < Int.ofNat dt.length) then (idx dt i).bind fun v1 =>
      (dt[i.toNat]?).bind fun v2 =>
        (idx dt i).bind fun v3 =>
          bif v2 != v3 then k AEx.ret { fr := mkFr 6 [(2, AV.op 2 [] 0), (3, AV.op 3 [] 0), (4, B false), (5, I i), (28, I i), (29, AV.op 2 [2] 2), (30, AV.os 0 0), (31, I (Int.ofNat dt.length)), (32, B true), (35, AV.op 2 [2] 2), (36, AV.os 0 0), (37, I i), (38, AV.oe 0 0 i.toNat), (39, I v2), (40, AV.op 3 [2] 2), (41, AV.d (i64T).slice dt), (42, I i), (43, AV.ip (i64T) v3), (44, I v3), (45, B true)], hp := [(0, AObj.arr 2 (i64T) 0 z3 dt), (1, AObj.arr 3 (i64T) 0 z4 xd), (2, AObj.box ((I t).pr ((AV.os 1 0).pr ((AV.os 0 0).pr (AV.d Ty.unit PUnit.unit))))), (3, AObj.box (AV.d ((i64T).pair ((i64T).slice.pair ((i64T).slice.pair Ty.unit))) (t, xd, dt, PUnit.unit)))], nx := 6 }
          else lpH gsmx cf_smxt [4] hl (cL (cL (cR (cL (cR (cR C_smxt)))))) n { fr := mkFr 6 [(2, AV.op 2 [] 0), (3, AV.op 3 [] 0), (5, I (IntKind.i64.wrap (i + 1)))], hp := [(0, AObj.arr 2 (i64T) 0 z3 dt), (1, AObj.arr 3 (i64T) 0 z4 xd), (2, AObj.box ((I t).pr ((AV.os 1 0).pr ((AV.os 0 0).pr (AV.d Ty.unit PUnit.unit))))), (3, AObj.box (AV.d ((i64T).pair ((i64T).slice.pair ((i64T).slice.pair Ty.unit))) (t, xd, dt, PUnit.unit)))], nx := 6 } k
  else k (AEx.exit 0) { fr := mkFr 6 [(2, AV.op 2 [] 0), (3, AV.op 3 [] 0), (5, I i), (28, I i), (29, AV.op 2 [2] 2), (30, AV.os 0 0), (31, I (Int.ofNat dt.length)), (32, B false)], hp := [(0, AObj.arr 2 (i64T) 0 z3 dt), (1, AObj.arr 3 (i64T) 0 z4 xd), (2, AObj.box ((I t).pr ((AV.os 1 0).pr ((AV.os 0 0).pr (AV.d Ty.unit PUnit.unit))))), (3, AObj.box (AV.d ((i64T).pair ((i64T).slice.pair ((i64T).slice.pair Ty.unit))) (t, xd, dt, PUnit.unit)))], nx := 6 } := by kernel_rfl
theorem smxt_step (z3 z4 : Bool) (t : Int) (xd dt : List Int) (i : Int) (n : Nat) {R : Type} (k : AEx → LSt → Option R) : lp gsmx cf_smxt (cL (cL (cR (cL (cR (cR C_smxt)))))) (n + 1) (smxtSt z3 z4 t xd dt i) k =
  bif decide (i < Int.ofNat dt.length) then (idx dt i).bind fun v1 =>
      (dt[i.toNat]?).bind fun v2 =>
        (idx dt i).bind fun v3 =>
          bif v2 != v3 then k AEx.ret { fr := mkFr 6 [(2, AV.op 2 [] 0), (3, AV.op 3 [] 0), (4, B false), (5, I i), (28, I i), (29, AV.op 2 [2] 2), (30, AV.os 0 0), (31, I (Int.ofNat dt.length)), (32, B true), (35, AV.op 2 [2] 2), (36, AV.os 0 0), (37, I i), (38, AV.oe 0 0 i.toNat), (39, I v2), (40, AV.op 3 [2] 2), (41, AV.d (i64T).slice dt), (42, I i), (43, AV.ip (i64T) v3), (44, I v3), (45, B true)], hp := [(0, AObj.arr 2 (i64T) 0 z3 dt), (1, AObj.arr 3 (i64T) 0 z4 xd), (2, AObj.box ((I t).pr ((AV.os 1 0).pr ((AV.os 0 0).pr (AV.d Ty.unit PUnit.unit))))), (3, AObj.box (AV.d ((i64T).pair ((i64T).slice.pair ((i64T).slice.pair Ty.unit))) (t, xd, dt, PUnit.unit)))], nx := 6 }
          else lp gsmx cf_smxt (cL (cL (cR (cL (cR (cR C_smxt)))))) n { fr := mkFr 6 [(2, AV.op 2 [] 0), (3, AV.op 3 [] 0), (5, I (IntKind.i64.wrap (i + 1)))], hp := [(0, AObj.arr 2 (i64T) 0 z3 dt), (1, AObj.arr 3 (i64T) 0 z4 xd), (2, AObj.box ((I t).pr ((AV.os 1 0).pr ((AV.os 0 0).pr (AV.d Ty.unit PUnit.unit))))), (3, AObj.box (AV.d ((i64T).pair ((i64T).slice.pair ((i64T).slice.pair Ty.unit))) (t, xd, dt, PUnit.unit)))], nx := 6 } k
  else k (AEx.exit 0) { fr := mkFr 6 [(2, AV.op 2 [] 0), (3, AV.op 3 [] 0), (5, I i), (28, I i), (29, AV.op 2 [2] 2), (30, AV.os 0 0), (31, I (Int.ofNat dt.length)), (32, B false)], hp := [(0, AObj.arr 2 (i64T) 0 z3 dt), (1, AObj.arr 3 (i64T) 0 z4 xd), (2, AObj.box ((I t).pr ((AV.os 1 0).pr ((AV.os 0 0).pr (AV.d Ty.unit PUnit.unit))))), (3, AObj.box (AV.d ((i64T).pair ((i64T).slice.pair ((i64T).slice.pair Ty.unit))) (t, xd, dt, PUnit.unit)))], nx := 6 } := by
  have h := smxt_stepH (hlp gsmx cf_smxt) z3 z4 t xd dt i n k
  simp only [lpH_lp] at h
  exact h
noncomputable def smxtK : AEx → LSt → Option (AEnd × LHp) := (blkK 0 (seqH gsmx cf_smxt [4] (hlp gsmx cf_smxt) (cR (cR (cR C_smxt))) (endC Tryz.prog 2 Tryz.f18.results.toList ah)))
theorem smxt_lp (z3 z4 : Bool) (t : Int) (xd dt : List Int) (hl : xd.length ≤ maxLen) : runC gsmx Tryz.f18 6 [(4, [2, 3, 5])] [smxtA t, smxtB t xd dt] (smxtH z3 z4 xd dt) ah = lp gsmx cf_smxt (cL (cL (cR (cL (cR (cR C_smxt)))))) fu (smxtSt z3 z4 t xd dt 0) smxtK := (smxt_eq z3 z4 t xd dt).trans (by rw [bne_self_eq_false, bne_self_eq_false, decide_eq_true (show xd.length ≤ 9223372036854775807 ∧ xd = xd from ⟨hl, rfl⟩), cond_false, cond_false, cond_true]; kernel_rfl)
theorem smxtK_exit (z3 z4 : Bool) (t : Int) (xd dt : List Int) (i : Int) : smxtK (AEx.exit 0) ⟨mkFr 6 [(2, .op 2 [] 0), (3, .op 3 [] 0), (5, I i), (28, I i), (29, AV.op 2 [2] 2), (30, AV.os 0 0), (31, I (Int.ofNat dt.length)), (32, B false)], smxtH z3 z4 xd dt ++ [(2, .box (smxtA t)), (3, .box (smxtB t xd dt))], 6⟩ = some (.ret [B true], smxtH z3 z4 xd dt) := by kernel_rfl
theorem smxt_run (z3 z4 : Bool) (t : Int) (xd dt : List Int) (h1 : xd.length ≤ maxLen) (h2 : dt.length ≤ maxLen) : runC gsmx Tryz.f18 6 [(4, [2, 3, 5])] [smxtA t, smxtB t xd dt] (smxtH z3 z4 xd dt) ah = some (.ret [B true], smxtH z3 z4 xd dt) := by
  rw [smxt_lp z3 z4 t xd dt h1]
  exact allP_lp (T := fun n s => lp gsmx cf_smxt (cL (cL (cR (cL (cR (cR C_smxt)))))) n s smxtK) (xs := dt) (st := smxtSt z3 z4 t xd dt) (r := some (.ret [B true], smxtH z3 z4 xd dt)) h2 (fun i x hx hi hlt n => by
    rw [smxt_step, decide_eq_true (show (i : Int) < Int.ofNat dt.length from Int.ofNat_lt.2 hlt), hi]
    simp only [show dt[(i : Int).toNat]? = some x from hx, cond_true, Option.bind_some, bne_self_eq_false, cond_false]
    rfl) (fun n => by
    rw [smxt_step, decide_eq_false (show ¬ (Int.ofNat dt.length < Int.ofNat dt.length) from Int.lt_irrefl _)]
    exact smxtK_exit _ _ _ _ _ _)
def smxtF : List AV → LHp → Tq
  | [.pr (.d (.int .i64) t) (.pr (.os 1 0) (.pr (.os 0 0) (.d .unit ()))), .d ((.pair (.int .i64) (.pair (.slice (.int .i64)) (.pair (.slice (.int .i64)) .unit)))) (t2, xd2, dt2, ())], [(0, .arr 2 (.int .i64) 0 z3 dt), (1, .arr 3 (.int .i64) 0 z4 xd)] =>
    .br (decide (xd.length ≤ maxLen ∧ dt.length ≤ maxLen ∧ t = t2 ∧ xd = xd2 ∧ dt = dt2)) (.leaf (.ret [B true]) (smxtH z3 z4 xd dt)) .no
  | _, _ => .no
theorem smxtE_ok : FnE.OK e0.P e0.gam 18 (treeE smxtF) := by
  have h1 : FnE.OK e0.P e0.gam 18 (execFnC gsmx Tryz.f18 6 [(4, [2, 3, 5])]) := execFnC_ok gsmx_good hmix Tryz.func18 Tryz.call18 (by decide +kernel) rfl
  refine ⟨fun _ _ _ => Tq.eq _ _, fun args hs ae hs' h => ?_⟩
  have h' : (smxtF args hs).run ah = some (ae, hs') := h
  clear h
  unfold smxtF at h'
  split at h'
  · obtain ⟨hb, h2⟩ := Tq.br_no h'
    clear h'
    obtain ⟨hl, hl2, he1, he2, he3⟩ := of_decide_eq_true hb
    subst he1 he2 he3
    cases h2
    exact h1.okC (smxt_run _ _ _ _ _ hl hl2)
  · cases h'
end Go.Proofs.XGT
