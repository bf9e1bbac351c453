/- conv.two: sums, quotients, the greater of two. -/
import Derived.Test.YtbijfcooljoogaaGreatDoorGUm
import Derived.Test.YtbijfcooljoogaaGreatDoorWH

namespace Go.Proofs.XGT
open Go.Vm Go
set_option maxRecDepth 100000
set_option maxHeartbeats 4000000
noncomputable def C_two : Code := codeOf Tryz.f60
noncomputable def cf_two : Cfg := ⟨17, 5, 0, [], true⟩
theorem add_eq (x y : Int) : runC g158 Tryz.f60 5 [] [.d .str [65, 100, 100], I x, I y] [] ah =
  bif !numOk 1 x then some (AEnd.ret [I 0], [])
  else 
    bif !numOk 1 y then some (AEnd.ret [I 0], [])
    else 
      bif (FloatKind.f32.format.read (canonF FloatKind.f32 (IntKind.u32.wrap x).toNat)).order (FloatKind.f32.format.read (canonF FloatKind.f32 (IntKind.u32.wrap x).toNat)) != some Ordering.eq then 
        bif (FloatKind.f32.format.read (fop BinOp.add FloatKind.f32 (canonF FloatKind.f32 (IntKind.u32.wrap x).toNat) (canonF FloatKind.f32 (IntKind.u32.wrap y).toNat))).order (FloatKind.f32.format.read (fop BinOp.add FloatKind.f32 (canonF FloatKind.f32 (IntKind.u32.wrap x).toNat) (canonF FloatKind.f32 (IntKind.u32.wrap y).toNat))) != some Ordering.eq then some (AEnd.ret [I 2143289344], [])
        else 
          bif fNaN FloatKind.f32 (fop BinOp.add FloatKind.f32 (canonF FloatKind.f32 (IntKind.u32.wrap x).toNat) (canonF FloatKind.f32 (IntKind.u32.wrap y).toNat)) then none
          else some (AEnd.ret [I (IntKind.i64.wrap (Int.ofNat (fop BinOp.add FloatKind.f32 (canonF FloatKind.f32 (IntKind.u32.wrap x).toNat) (canonF FloatKind.f32 (IntKind.u32.wrap y).toNat))))], [])
      else 
        bif (FloatKind.f32.format.read (fop BinOp.add FloatKind.f32 (canonF FloatKind.f32 (IntKind.u32.wrap x).toNat) (canonF FloatKind.f32 (IntKind.u32.wrap y).toNat))).order (FloatKind.f32.format.read (fop BinOp.add FloatKind.f32 (canonF FloatKind.f32 (IntKind.u32.wrap x).toNat) (canonF FloatKind.f32 (IntKind.u32.wrap y).toNat))) != some Ordering.eq then some (AEnd.ret [I 2143289344], [])
        else 
          bif fNaN FloatKind.f32 (fop BinOp.add FloatKind.f32 (canonF FloatKind.f32 (IntKind.u32.wrap x).toNat) (canonF FloatKind.f32 (IntKind.u32.wrap y).toNat)) then none
          else some (AEnd.ret [I (IntKind.i64.wrap (Int.ofNat (fop BinOp.add FloatKind.f32 (canonF FloatKind.f32 (IntKind.u32.wrap x).toNat) (canonF FloatKind.f32 (IntKind.u32.wrap y).toNat))))], []) := by kernel_rfl
theorem max_eq (x y : Int) : runC g158 Tryz.f60 5 [] [.d .str [77, 97, 120], I x, I y] [] ah =
  bif !numOk 1 x then some (AEnd.ret [I 0], [])
  else 
    bif !numOk 1 y then some (AEnd.ret [I 0], [])
    else 
      bif (FloatKind.f32.format.read (canonF FloatKind.f32 (IntKind.u32.wrap x).toNat)).order (FloatKind.f32.format.read (canonF FloatKind.f32 (IntKind.u32.wrap x).toNat)) != some Ordering.eq then some (AEnd.ret [I 2143289344], [])
      else 
        bif (FloatKind.f32.format.read (canonF FloatKind.f32 (IntKind.u32.wrap y).toNat)).order (FloatKind.f32.format.read (canonF FloatKind.f32 (IntKind.u32.wrap y).toNat)) != some Ordering.eq then some (AEnd.ret [I 2143289344], [])
        else 
          bif (FloatKind.f32.format.read (canonF FloatKind.f32 (IntKind.u32.wrap x).toNat)).order (FloatKind.f32.format.read (canonF FloatKind.f32 (IntKind.u32.wrap y).toNat)) == some Ordering.eq then some (AEnd.ret [I (IntKind.i64.wrap (Int.ofNat (BitVec.ofInt 64 x &&& BitVec.ofInt 64 y).toNat))], [])
          else 
            bif (FloatKind.f32.format.read (canonF FloatKind.f32 (IntKind.u32.wrap x).toNat)).order (FloatKind.f32.format.read (canonF FloatKind.f32 (IntKind.u32.wrap y).toNat)) == some Ordering.gt then some (AEnd.ret [I x], [])
            else some (AEnd.ret [I y], []) := by kernel_rfl
theorem div_eq (x y : Int) : runC g158 Tryz.f60 5 [] [.d .str [68, 105, 118], I x, I y] [] ah =
  bif !numOk 1 x then some (AEnd.ret [I 0], [])
  else 
    bif !numOk 1 y then some (AEnd.ret [I 0], [])
    else 
      bif (FloatKind.f32.format.read (canonF FloatKind.f32 (IntKind.u32.wrap x).toNat)).order (FloatKind.f32.format.read (canonF FloatKind.f32 (IntKind.u32.wrap x).toNat)) != some Ordering.eq then 
        bif (FloatKind.f32.format.read (fop BinOp.quo FloatKind.f32 (canonF FloatKind.f32 (IntKind.u32.wrap x).toNat) (canonF FloatKind.f32 (IntKind.u32.wrap y).toNat))).order (FloatKind.f32.format.read (fop BinOp.quo FloatKind.f32 (canonF FloatKind.f32 (IntKind.u32.wrap x).toNat) (canonF FloatKind.f32 (IntKind.u32.wrap y).toNat))) != some Ordering.eq then some (AEnd.ret [I 2143289344], [])
        else 
          bif fNaN FloatKind.f32 (fop BinOp.quo FloatKind.f32 (canonF FloatKind.f32 (IntKind.u32.wrap x).toNat) (canonF FloatKind.f32 (IntKind.u32.wrap y).toNat)) then none
          else some (AEnd.ret [I (IntKind.i64.wrap (Int.ofNat (fop BinOp.quo FloatKind.f32 (canonF FloatKind.f32 (IntKind.u32.wrap x).toNat) (canonF FloatKind.f32 (IntKind.u32.wrap y).toNat))))], [])
      else 
        bif (FloatKind.f32.format.read (fop BinOp.quo FloatKind.f32 (canonF FloatKind.f32 (IntKind.u32.wrap x).toNat) (canonF FloatKind.f32 (IntKind.u32.wrap y).toNat))).order (FloatKind.f32.format.read (fop BinOp.quo FloatKind.f32 (canonF FloatKind.f32 (IntKind.u32.wrap x).toNat) (canonF FloatKind.f32 (IntKind.u32.wrap y).toNat))) != some Ordering.eq then some (AEnd.ret [I 2143289344], [])
        else 
          bif fNaN FloatKind.f32 (fop BinOp.quo FloatKind.f32 (canonF FloatKind.f32 (IntKind.u32.wrap x).toNat) (canonF FloatKind.f32 (IntKind.u32.wrap y).toNat)) then none
          else some (AEnd.ret [I (IntKind.i64.wrap (Int.ofNat (fop BinOp.quo FloatKind.f32 (canonF FloatKind.f32 (IntKind.u32.wrap x).toNat) (canonF FloatKind.f32 (IntKind.u32.wrap y).toNat))))], []) := by kernel_rfl
/-- the word of a number that came in -/
def cw (x : Int) : Nat := canonF FloatKind.f32 (IntKind.u32.wrap x).toNat
def resW (z : Nat) : Int := bif fNaN .f32 z then 2143289344 else IntKind.i64.wrap (Int.ofNat z)
/-- what a sum (quotient) of two words is, told of their numbers -/
def binW (op : BinOp) (x y : Int) : Int := bif numOk 1 x && numOk 1 y then resW (fop op .f32 (cw x) (cw y)) else 0
def rdW (x : Int) : Ieee.Datum := FloatKind.f32.format.read (cw x)
def maxW (x y : Int) : Int :=
  bif numOk 1 x && numOk 1 y then
    bif (rdW x).isNaN || (rdW y).isNaN then 2143289344
    else bif (rdW x).order (rdW y) == some .eq then IntKind.i64.wrap (Int.ofNat (BitVec.ofInt 64 x &&& BitVec.ofInt 64 y).toNat)
    else bif (rdW x).order (rdW y) == some .gt then x else y
  else 0
theorem order_self (d : Ieee.Datum) : (d.order d != some Ordering.eq) = d.isNaN := by
  cases d with
  | number s m e =>
    simp [Ieee.Datum.order, Ieee.Datum.isNaN, Int.min_self, Std.ReflCmp.compare_self]
  | infinity s =>
    cases s <;> simp [Ieee.Datum.order, Ieee.Datum.isNaN]
  | _ => simp [Ieee.Datum.order, Ieee.Datum.isNaN]
theorem bin_fin (op : BinOp) (x y : Int) : (bif (FloatKind.f32.format.read (fop op .f32 (cw x) (cw y))).order (FloatKind.f32.format.read (fop op .f32 (cw x) (cw y))) != some Ordering.eq then (some (AEnd.ret [I 2143289344], []) : Option (AEnd × LHp)) else bif fNaN .f32 (fop op .f32 (cw x) (cw y)) then none else some (AEnd.ret [I (IntKind.i64.wrap (Int.ofNat (fop op .f32 (cw x) (cw y))))], [])) = some (.ret [I (resW (fop op .f32 (cw x) (cw y)))], []) := by
  rw [order_self]
  unfold resW
  show (bif fNaN .f32 _ then _ else bif fNaN .f32 _ then _ else _) = _
  cases fNaN .f32 (fop op .f32 (cw x) (cw y)) <;> rfl
theorem add_run (x y : Int) : runC g158 Tryz.f60 5 [] [.d .str [65, 100, 100], I x, I y] [] ah = some (.ret [I (binW .add x y)], []) := by
  rw [add_eq]
  have h := bin_fin .add x y
  unfold cw at h
  unfold binW cw
  cases numOk 1 x with
  | false => rfl
  | true =>
    cases numOk 1 y with
    | false => rfl
    | true =>
      simp only [Bool.not_true, cond_false, Bool.and_true, cond_true]
      cases _ != some Ordering.eq with
      | false => exact h
      | true => exact h
theorem div_run (x y : Int) : runC g158 Tryz.f60 5 [] [.d .str [68, 105, 118], I x, I y] [] ah = some (.ret [I (binW .quo x y)], []) := by
  rw [div_eq]
  have h := bin_fin .quo x y
  unfold cw at h
  unfold binW cw
  cases numOk 1 x with
  | false => rfl
  | true =>
    cases numOk 1 y with
    | false => rfl
    | true =>
      simp only [Bool.not_true, cond_false, Bool.and_true, cond_true]
      cases (FloatKind.f32.format.read (canonF FloatKind.f32 (IntKind.u32.wrap x).toNat)).order (FloatKind.f32.format.read (canonF FloatKind.f32 (IntKind.u32.wrap x).toNat)) != some Ordering.eq with
      | false => exact h
      | true => exact h
theorem max_run (x y : Int) : runC g158 Tryz.f60 5 [] [.d .str [77, 97, 120], I x, I y] [] ah = some (.ret [I (maxW x y)], []) := by
  rw [max_eq, order_self, order_self]
  unfold maxW rdW cw
  cases numOk 1 x with
  | false => rfl
  | true =>
    cases numOk 1 y with
    | false => rfl
    | true =>
      simp only [Bool.not_true, cond_false, Bool.and_true, cond_true]
      cases (FloatKind.f32.format.read (canonF FloatKind.f32 (IntKind.u32.wrap x).toNat)).isNaN with
      | true => rfl
      | false =>
        cases (FloatKind.f32.format.read (canonF FloatKind.f32 (IntKind.u32.wrap y).toNat)).isNaN with
        | true => rfl
        | false =>
          simp only [Bool.false_or, cond_false]
          cases (FloatKind.f32.format.read (canonF FloatKind.f32 (IntKind.u32.wrap x).toNat)).order (FloatKind.f32.format.read (canonF FloatKind.f32 (IntKind.u32.wrap y).toNat)) == some Ordering.eq with
          | true => rfl
          | false =>
            cases (FloatKind.f32.format.read (canonF FloatKind.f32 (IntKind.u32.wrap x).toNat)).order (FloatKind.f32.format.read (canonF FloatKind.f32 (IntKind.u32.wrap y).toNat)) == some Ordering.gt <;> rfl
def twoF : List AV → LHp → Tq
  | [.d .str op, .d (.int .i64) x, .d (.int .i64) y], [] =>
    .br (decide (op = [65, 100, 100])) (.leaf (.ret [I (binW .add x y)]) []) (.br (decide (op = [77, 97, 120])) (.leaf (.ret [I (maxW x y)]) []) (.br (decide (op = [68, 105, 118])) (.leaf (.ret [I (binW .quo x y)]) []) .no))
  | _, _ => .no
theorem twoE_ok : FnE.OK e0.P e0.gam 60 (treeE twoF) := by
  have h1 : FnE.OK e0.P e0.gam 60 (execFnC g158 Tryz.f60 5 []) := y60_ok
  refine ⟨fun _ _ _ => Tq.eq _ _, fun args hs ae hs' h => ?_⟩
  have h' : (twoF args hs).run ah = some (ae, hs') := h
  clear h
  unfold twoF at h'
  split at h'
  · rename_i op x y
    simp only [Tq.run] at h'
    by_cases c1 : op = [65, 100, 100]
    · subst c1
      cases h'
      exact h1.okC (add_run x y)
    · rw [decide_eq_false c1] at h'
      by_cases c2 : op = [77, 97, 120]
      · subst c2
        cases h'
        exact h1.okC (max_run x y)
      · rw [decide_eq_false c2] at h'
        by_cases c3 : op = [68, 105, 118]
        · subst c3
          cases h'
          exact h1.okC (div_run x y)
        · rw [decide_eq_false c3] at h'
          cases h'
  · cases h'
end Go.Proofs.XGT
/- conv.together over the places of a window that stands wholly in the picture. -/
namespace Go.Proofs.XGT
open Go.Vm Go
set_option maxRecDepth 100000
set_option maxHeartbeats 4000000
noncomputable def C_tog : Code := codeOf Tryz.f62
noncomputable def cf_tog : Cfg := ⟨46, 6, 3, [(3, [0, 1, 2, 3, 4, 7, 8, 9, 14, 15, 16, 17, 18, 20, 21, 22, 23, 24, 26, 27, 28, 29, 30, 32, 33, 34])], true⟩
noncomputable def C_plc : Code := codeOf Tryz.f99
noncomputable def cf_plc : Cfg := ⟨80, 7, 8, [(1, [0, 1, 2, 3, 12, 13])], true⟩
noncomputable def gA : Env := g159.add 60 (treeE twoF)
theorem gA_good : gA.Good := g159_good.add twoE_ok
noncomputable def gR : Env := gA.withRound (roundC gA [])
theorem gR_good : gR.Good := gA_good.withRound (roundC_ok gA_good hmix [])
noncomputable def gT (F : FnE) : Env := (g165.add 60 (treeE twoF)).add 99 F
def win1 (h w kh kw pl pe : Int) : AV := .d (Y4) (h, w, kh, kw, [1, 1], [1, 1], 0, 0, pl, pe, ())
def hpW (hh ww kh kw pl pe h w : Int) : LHp := [(0, .box (I w)), (1, .box (I h)), (2, .box (win1 hh ww kh kw pl pe))]
def plcA : AV := .fn (.func 99) [] [.op 2 [] 0, .op 1 [] 0, .op 0 [] 0]
theorem tog_eqH (hl : Hl) (F : FnE) (op : List UInt8) (pic : List Int) (hh ww kh kw pl pe h w : Int) : runQ (gT F) Tryz.f62 6 [(3, [0, 1, 2, 3, 4, 7, 8, 9, 14, 15, 16, 17, 18, 20, 21, 22, 23, 24, 26, 27, 28, 29, 30, 32, 33, 34])] hl [.d .str op, .d (.slice i64T) pic, plcA] (hpW hh ww kh kw pl pe h w) ah =
  hl (cL (cR (cL (cR (cR C_tog))))) _ { fr := mkFr 6 [(0, AV.d Ty.str op), (1, AV.d (i64T).slice pic), (2, AV.fn (Fn.func 99) [] [AV.op 2 [] 0, AV.op 1 [] 0, AV.op 0 [] 0]), (3, AV.op 3 [] 0), (4, AV.op 4 [] 0), (6, I 0), (7, AV.op 5 [] 0), (8, AV.op 6 [] 0), (13, AV.fn (Fn.func 99) [] [AV.op 2 [] 0, AV.op 1 [] 0, AV.op 0 [] 0])], hp := [(6, AObj.box (I 0)), (5, AObj.box (I 0)), (6, AObj.box (I 0)), (5, AObj.box (I 0)), (4, AObj.box (AV.d (i64T).slice pic)), (3, AObj.box (AV.d Ty.str op)), (0, AObj.box (I w)), (1, AObj.box (I h)), (2, AObj.box (AV.d ((i64T).pair ((i64T).pair ((i64T).pair ((i64T).pair ((Ty.arr 2 (i64T)).pair ((Ty.arr 2 (i64T)).pair ((i64T).pair ((i64T).pair ((i64T).pair ((i64T).pair Ty.unit)))))))))) (hh, ww, kh, kw, [1, 1], [1, 1], 0, 0, pl, pe, PUnit.unit)))], nx := 7 } (blkK 0 (seqQ (gT F) cf_tog hl (cR (cR (cR C_tog))) (endC Tryz.prog 3 Tryz.f62.results.toList ah))) := by kernel_rfl
theorem tog_eq (F : FnE) (op : List UInt8) (pic : List Int) (hh ww kh kw pl pe h w : Int) : runC (gT F) Tryz.f62 6 [(3, [0, 1, 2, 3, 4, 7, 8, 9, 14, 15, 16, 17, 18, 20, 21, 22, 23, 24, 26, 27, 28, 29, 30, 32, 33, 34])] [.d .str op, .d (.slice i64T) pic, plcA] (hpW hh ww kh kw pl pe h w) ah =
  (rfp (gT F) cf_tog) (cL (cR (cL (cR (cR C_tog))))) _ { fr := mkFr 6 [(0, AV.d Ty.str op), (1, AV.d (i64T).slice pic), (2, AV.fn (Fn.func 99) [] [AV.op 2 [] 0, AV.op 1 [] 0, AV.op 0 [] 0]), (3, AV.op 3 [] 0), (4, AV.op 4 [] 0), (6, I 0), (7, AV.op 5 [] 0), (8, AV.op 6 [] 0), (13, AV.fn (Fn.func 99) [] [AV.op 2 [] 0, AV.op 1 [] 0, AV.op 0 [] 0])], hp := [(6, AObj.box (I 0)), (5, AObj.box (I 0)), (6, AObj.box (I 0)), (5, AObj.box (I 0)), (4, AObj.box (AV.d (i64T).slice pic)), (3, AObj.box (AV.d Ty.str op)), (0, AObj.box (I w)), (1, AObj.box (I h)), (2, AObj.box (AV.d ((i64T).pair ((i64T).pair ((i64T).pair ((i64T).pair ((Ty.arr 2 (i64T)).pair ((Ty.arr 2 (i64T)).pair ((i64T).pair ((i64T).pair ((i64T).pair ((i64T).pair Ty.unit)))))))))) (hh, ww, kh, kw, [1, 1], [1, 1], 0, 0, pl, pe, PUnit.unit)))], nx := 7 } (blkK 0 (seqQ (gT F) cf_tog (rfp (gT F) cf_tog) (cR (cR (cR C_tog))) (endC Tryz.prog 3 Tryz.f62.results.toList ah))) := runQ_runC.trans (tog_eqH (rfp (gT F) cf_tog) F op pic hh ww kh kw pl pe h w)
def frT (op : List UInt8) (pic : List Int) : Tr := mkFr 6 [(0, .d .str op), (1, .d (.slice i64T) pic), (2, plcA), (3, .op 3 [] 0), (4, .op 4 [] 0), (6, I 0), (7, .op 5 [] 0), (8, .op 6 [] 0), (13, plcA)]
def hpT1 (op : List UInt8) (pic : List Int) (hh ww kh kw pl pe h w : Int) : LHp := [(6, .box (I 0)), (5, .box (I 0)), (6, .box (I 0)), (5, .box (I 0)), (4, .box (.d (.slice i64T) pic)), (3, .box (.d .str op))] ++ hpW hh ww kh kw pl pe h w
def rfLC (cf : Cfg) : Code → LoopC
  | .rangeFunc _ ps a b => ⟨cf.depth, ps, a, b, cf.n⟩
  | _ => ⟨0, #[], .skip, .skip, 0⟩
noncomputable def LC_tog : LoopC := rfLC cf_tog (cL (cR (cL (cR (cR C_tog)))))
def frec (op : List UInt8) (pic : List Int) : List (Nat × AV) := [(0, .d .str op), (1, .d (.slice i64T) pic), (2, .fn (.func 99) [] [.op 6 [] 0, .op 5 [] 0, .op 4 [] 0]), (3, .op 3 [] 0), (4, .op 2 [] 0), (7, .op 1 [] 0), (8, .op 0 [] 0)]
noncomputable def hpY (op : List UInt8) (pic : List Int) (hh ww kh kw pl pe h w m s : Int) : LHp := [(0, .box (I s)), (1, .box (I m)), (2, .box (.d (.slice i64T) pic)), (3, .box (.d .str op)), (4, .box (I w)), (5, .box (I h)), (6, .box (win1 hh ww kh kw pl pe)), (7, .rc (.loop LC_tog (frec op pic) .ready))]
theorem plc_eqH (hl : Hl) (op : List UInt8) (pic : List Int) (hh ww kh kw pl pe h w m s : Int) : runH gR Tryz.f99 7 [(1, [0, 1, 2, 3, 12, 13])] [1] hl [.ref 7, .op 6 [] 0, .op 5 [] 0, .op 4 [] 0] (hpY op pic hh ww kh kw pl pe h w m s) ah =
  hl (cL (cL (cR C_plc))) _ { fr := mkFr 7 [(0, AV.ref 7), (1, AV.op 6 [] 0), (2, AV.op 5 [] 0), (3, AV.op 4 [] 0), (12, I (IntKind.i64.wrap (kh * kw))), (13, I 0)], hp := [(0, AObj.box (I s)), (1, AObj.box (I m)), (2, AObj.box (AV.d (i64T).slice pic)), (3, AObj.box (AV.d Ty.str op)), (4, AObj.box (I w)), (5, AObj.box (I h)), (6, AObj.box (AV.d ((i64T).pair ((i64T).pair ((i64T).pair ((i64T).pair ((Ty.arr 2 (i64T)).pair ((Ty.arr 2 (i64T)).pair ((i64T).pair ((i64T).pair ((i64T).pair ((i64T).pair Ty.unit)))))))))) (hh, ww, kh, kw, [1, 1], [1, 1], 0, 0, pl, pe, PUnit.unit))), (7, AObj.rc (ARec.loop LC_tog [(0, AV.d Ty.str op), (1, AV.d (i64T).slice pic), (2, AV.fn (Fn.func 99) [] [AV.op 6 [] 0, AV.op 5 [] 0, AV.op 4 [] 0]), (3, AV.op 3 [] 0), (4, AV.op 2 [] 0), (7, AV.op 1 [] 0), (8, AV.op 0 [] 0)] LSta.ready))], nx := 16 } (blkK 0 (endC Tryz.prog 8 Tryz.f99.results.toList ah)) := by kernel_rfl
theorem plc_eq (op : List UInt8) (pic : List Int) (hh ww kh kw pl pe h w m s : Int) : runC gR Tryz.f99 7 [(1, [0, 1, 2, 3, 12, 13])] [.ref 7, .op 6 [] 0, .op 5 [] 0, .op 4 [] 0] (hpY op pic hh ww kh kw pl pe h w m s) ah =
  (hlp gR cf_plc) (cL (cL (cR C_plc))) _ { fr := mkFr 7 [(0, AV.ref 7), (1, AV.op 6 [] 0), (2, AV.op 5 [] 0), (3, AV.op 4 [] 0), (12, I (IntKind.i64.wrap (kh * kw))), (13, I 0)], hp := [(0, AObj.box (I s)), (1, AObj.box (I m)), (2, AObj.box (AV.d (i64T).slice pic)), (3, AObj.box (AV.d Ty.str op)), (4, AObj.box (I w)), (5, AObj.box (I h)), (6, AObj.box (AV.d ((i64T).pair ((i64T).pair ((i64T).pair ((i64T).pair ((Ty.arr 2 (i64T)).pair ((Ty.arr 2 (i64T)).pair ((i64T).pair ((i64T).pair ((i64T).pair ((i64T).pair Ty.unit)))))))))) (hh, ww, kh, kw, [1, 1], [1, 1], 0, 0, pl, pe, PUnit.unit))), (7, AObj.rc (ARec.loop LC_tog [(0, AV.d Ty.str op), (1, AV.d (i64T).slice pic), (2, AV.fn (Fn.func 99) [] [AV.op 6 [] 0, AV.op 5 [] 0, AV.op 4 [] 0]), (3, AV.op 3 [] 0), (4, AV.op 2 [] 0), (7, AV.op 1 [] 0), (8, AV.op 0 [] 0)] LSta.ready))], nx := 16 } (blkK 0 (endC Tryz.prog 8 Tryz.f99.results.toList ah)) := runH_runC.trans (plc_eqH (hlp gR cf_plc) op pic hh ww kh kw pl pe h w m s)
noncomputable def stY (op : List UInt8) (pic : List Int) (hh ww kh kw pl pe h w N i m s : Int) : LSt := ⟨mkFr 7 [(0, .ref 7), (1, .op 6 [] 0), (2, .op 5 [] 0), (3, .op 4 [] 0), (12, I N), (13, I i)], hpY op pic hh ww kh kw pl pe h w m s, 16⟩
theorem plc_stepH (hl : Hl) (op : List UInt8) (pic : List Int) (hh ww kh kw pl pe h w N i m s : Int) (n : Nat) {R : Type} (k : AEx → LSt → Option R) : lpH gR cf_plc [1] hl (cL (cL (cR C_plc))) (n + 1) (stY op pic hh ww kh kw pl pe h w N i m s) k =
  bif decide (i < N) then (if kw = 0 then none else some (IntKind.i64.wrap (i.tdiv kw))).bind fun v1 =>
      (if kw = 0 then none else some (i.tmod kw)).bind fun v2 =>
        bif decide (IntKind.i64.wrap (IntKind.i64.wrap (IntKind.i64.wrap (h * 1) - 0) + IntKind.i64.wrap (v1 * 1)) < 0) then lpH gR cf_plc [1] hl (cL (cL (cR C_plc))) n { fr := mkFr 7 [(0, AV.ref 7), (1, AV.op 6 [] 0), (2, AV.op 5 [] 0), (3, AV.op 4 [] 0), (12, I N), (13, I (IntKind.i64.wrap (i + 1)))], hp := [(0, AObj.box (I s)), (1, AObj.box (I m)), (2, AObj.box (AV.d (i64T).slice pic)), (3, AObj.box (AV.d Ty.str op)), (4, AObj.box (I w)), (5, AObj.box (I h)), (6, AObj.box (AV.d ((i64T).pair ((i64T).pair ((i64T).pair ((i64T).pair ((Ty.arr 2 (i64T)).pair ((Ty.arr 2 (i64T)).pair ((i64T).pair ((i64T).pair ((i64T).pair ((i64T).pair Ty.unit)))))))))) (hh, ww, kh, kw, [1, 1], [1, 1], 0, 0, pl, pe, PUnit.unit))), (7, AObj.rc (ARec.loop LC_tog [(0, AV.d Ty.str op), (1, AV.d (i64T).slice pic), (2, AV.fn (Fn.func 99) [] [AV.op 6 [] 0, AV.op 5 [] 0, AV.op 4 [] 0]), (3, AV.op 3 [] 0), (4, AV.op 2 [] 0), (7, AV.op 1 [] 0), (8, AV.op 0 [] 0)] LSta.ready))], nx := 16 } k
        else 
          bif decide (IntKind.i64.wrap (IntKind.i64.wrap (IntKind.i64.wrap (h * 1) - 0) + IntKind.i64.wrap (v1 * 1)) ≥ hh) then lpH gR cf_plc [1] hl (cL (cL (cR C_plc))) n { fr := mkFr 7 [(0, AV.ref 7), (1, AV.op 6 [] 0), (2, AV.op 5 [] 0), (3, AV.op 4 [] 0), (12, I N), (13, I (IntKind.i64.wrap (i + 1)))], hp := [(0, AObj.box (I s)), (1, AObj.box (I m)), (2, AObj.box (AV.d (i64T).slice pic)), (3, AObj.box (AV.d Ty.str op)), (4, AObj.box (I w)), (5, AObj.box (I h)), (6, AObj.box (AV.d ((i64T).pair ((i64T).pair ((i64T).pair ((i64T).pair ((Ty.arr 2 (i64T)).pair ((Ty.arr 2 (i64T)).pair ((i64T).pair ((i64T).pair ((i64T).pair ((i64T).pair Ty.unit)))))))))) (hh, ww, kh, kw, [1, 1], [1, 1], 0, 0, pl, pe, PUnit.unit))), (7, AObj.rc (ARec.loop LC_tog [(0, AV.d Ty.str op), (1, AV.d (i64T).slice pic), (2, AV.fn (Fn.func 99) [] [AV.op 6 [] 0, AV.op 5 [] 0, AV.op 4 [] 0]), (3, AV.op 3 [] 0), (4, AV.op 2 [] 0), (7, AV.op 1 [] 0), (8, AV.op 0 [] 0)] LSta.ready))], nx := 16 } k
          else 
            bif decide (IntKind.i64.wrap (IntKind.i64.wrap (IntKind.i64.wrap (w * 1) - 0) + IntKind.i64.wrap (v2 * 1)) < 0) then lpH gR cf_plc [1] hl (cL (cL (cR C_plc))) n { fr := mkFr 7 [(0, AV.ref 7), (1, AV.op 6 [] 0), (2, AV.op 5 [] 0), (3, AV.op 4 [] 0), (12, I N), (13, I (IntKind.i64.wrap (i + 1)))], hp := [(0, AObj.box (I s)), (1, AObj.box (I m)), (2, AObj.box (AV.d (i64T).slice pic)), (3, AObj.box (AV.d Ty.str op)), (4, AObj.box (I w)), (5, AObj.box (I h)), (6, AObj.box (AV.d ((i64T).pair ((i64T).pair ((i64T).pair ((i64T).pair ((Ty.arr 2 (i64T)).pair ((Ty.arr 2 (i64T)).pair ((i64T).pair ((i64T).pair ((i64T).pair ((i64T).pair Ty.unit)))))))))) (hh, ww, kh, kw, [1, 1], [1, 1], 0, 0, pl, pe, PUnit.unit))), (7, AObj.rc (ARec.loop LC_tog [(0, AV.d Ty.str op), (1, AV.d (i64T).slice pic), (2, AV.fn (Fn.func 99) [] [AV.op 6 [] 0, AV.op 5 [] 0, AV.op 4 [] 0]), (3, AV.op 3 [] 0), (4, AV.op 2 [] 0), (7, AV.op 1 [] 0), (8, AV.op 0 [] 0)] LSta.ready))], nx := 16 } k
            else 
              bif decide (IntKind.i64.wrap (IntKind.i64.wrap (IntKind.i64.wrap (w * 1) - 0) + IntKind.i64.wrap (v2 * 1)) ≥ ww) then lpH gR cf_plc [1] hl (cL (cL (cR C_plc))) n { fr := mkFr 7 [(0, AV.ref 7), (1, AV.op 6 [] 0), (2, AV.op 5 [] 0), (3, AV.op 4 [] 0), (12, I N), (13, I (IntKind.i64.wrap (i + 1)))], hp := [(0, AObj.box (I s)), (1, AObj.box (I m)), (2, AObj.box (AV.d (i64T).slice pic)), (3, AObj.box (AV.d Ty.str op)), (4, AObj.box (I w)), (5, AObj.box (I h)), (6, AObj.box (AV.d ((i64T).pair ((i64T).pair ((i64T).pair ((i64T).pair ((Ty.arr 2 (i64T)).pair ((Ty.arr 2 (i64T)).pair ((i64T).pair ((i64T).pair ((i64T).pair ((i64T).pair Ty.unit)))))))))) (hh, ww, kh, kw, [1, 1], [1, 1], 0, 0, pl, pe, PUnit.unit))), (7, AObj.rc (ARec.loop LC_tog [(0, AV.d Ty.str op), (1, AV.d (i64T).slice pic), (2, AV.fn (Fn.func 99) [] [AV.op 6 [] 0, AV.op 5 [] 0, AV.op 4 [] 0]), (3, AV.op 3 [] 0), (4, AV.op 2 [] 0), (7, AV.op 1 [] 0), (8, AV.op 0 [] 0)] LSta.ready))], nx := 16 } k
              else (idx pic (IntKind.i64.wrap (IntKind.i64.wrap (IntKind.i64.wrap (IntKind.i64.wrap (IntKind.i64.wrap (h * 1) - 0) + IntKind.i64.wrap (v1 * 1)) * ww) + IntKind.i64.wrap (IntKind.i64.wrap (IntKind.i64.wrap (w * 1) - 0) + IntKind.i64.wrap (v2 * 1))))).bind fun v7 =>
                  bif !op == [77, 97, 120, 80, 111, 111, 108] then lpH gR cf_plc [1] hl (cL (cL (cR C_plc))) n { fr := mkFr 7 [(0, AV.ref 7), (1, AV.op 6 [] 0), (2, AV.op 5 [] 0), (3, AV.op 4 [] 0), (12, I N), (13, I (IntKind.i64.wrap (i + 1)))], hp := [(0, AObj.box (I (binW BinOp.add s v7))), (1, AObj.box (I (IntKind.i64.wrap (m + 1)))), (2, AObj.box (AV.d (i64T).slice pic)), (3, AObj.box (AV.d Ty.str op)), (4, AObj.box (I w)), (5, AObj.box (I h)), (6, AObj.box (AV.d ((i64T).pair ((i64T).pair ((i64T).pair ((i64T).pair ((Ty.arr 2 (i64T)).pair ((Ty.arr 2 (i64T)).pair ((i64T).pair ((i64T).pair ((i64T).pair ((i64T).pair Ty.unit)))))))))) (hh, ww, kh, kw, [1, 1], [1, 1], 0, 0, pl, pe, PUnit.unit))), (7, AObj.rc (ARec.loop LC_tog [(0, AV.d Ty.str op), (1, AV.d (i64T).slice pic), (2, AV.fn (Fn.func 99) [] [AV.op 6 [] 0, AV.op 5 [] 0, AV.op 4 [] 0]), (3, AV.op 3 [] 0), (4, AV.op 2 [] 0), (7, AV.op 1 [] 0), (8, AV.op 0 [] 0)] LSta.ready))], nx := 16 } k
                  else 
                    bif m == 0 then lpH gR cf_plc [1] hl (cL (cL (cR C_plc))) n { fr := mkFr 7 [(0, AV.ref 7), (1, AV.op 6 [] 0), (2, AV.op 5 [] 0), (3, AV.op 4 [] 0), (12, I N), (13, I (IntKind.i64.wrap (i + 1)))], hp := [(0, AObj.box (I v7)), (1, AObj.box (I (IntKind.i64.wrap (m + 1)))), (2, AObj.box (AV.d (i64T).slice pic)), (3, AObj.box (AV.d Ty.str op)), (4, AObj.box (I w)), (5, AObj.box (I h)), (6, AObj.box (AV.d ((i64T).pair ((i64T).pair ((i64T).pair ((i64T).pair ((Ty.arr 2 (i64T)).pair ((Ty.arr 2 (i64T)).pair ((i64T).pair ((i64T).pair ((i64T).pair ((i64T).pair Ty.unit)))))))))) (hh, ww, kh, kw, [1, 1], [1, 1], 0, 0, pl, pe, PUnit.unit))), (7, AObj.rc (ARec.loop LC_tog [(0, AV.d Ty.str op), (1, AV.d (i64T).slice pic), (2, AV.fn (Fn.func 99) [] [AV.op 6 [] 0, AV.op 5 [] 0, AV.op 4 [] 0]), (3, AV.op 3 [] 0), (4, AV.op 2 [] 0), (7, AV.op 1 [] 0), (8, AV.op 0 [] 0)] LSta.ready))], nx := 16 } k
                    else lpH gR cf_plc [1] hl (cL (cL (cR C_plc))) n { fr := mkFr 7 [(0, AV.ref 7), (1, AV.op 6 [] 0), (2, AV.op 5 [] 0), (3, AV.op 4 [] 0), (12, I N), (13, I (IntKind.i64.wrap (i + 1)))], hp := [(0, AObj.box (I (maxW s v7))), (1, AObj.box (I (IntKind.i64.wrap (m + 1)))), (2, AObj.box (AV.d (i64T).slice pic)), (3, AObj.box (AV.d Ty.str op)), (4, AObj.box (I w)), (5, AObj.box (I h)), (6, AObj.box (AV.d ((i64T).pair ((i64T).pair ((i64T).pair ((i64T).pair ((Ty.arr 2 (i64T)).pair ((Ty.arr 2 (i64T)).pair ((i64T).pair ((i64T).pair ((i64T).pair ((i64T).pair Ty.unit)))))))))) (hh, ww, kh, kw, [1, 1], [1, 1], 0, 0, pl, pe, PUnit.unit))), (7, AObj.rc (ARec.loop LC_tog [(0, AV.d Ty.str op), (1, AV.d (i64T).slice pic), (2, AV.fn (Fn.func 99) [] [AV.op 6 [] 0, AV.op 5 [] 0, AV.op 4 [] 0]), (3, AV.op 3 [] 0), (4, AV.op 2 [] 0), (7, AV.op 1 [] 0), (8, AV.op 0 [] 0)] LSta.ready))], nx := 16 } k
  else k (AEx.exit 0) { fr := mkFr 7 [(0, AV.ref 7), (1, AV.op 6 [] 0), (2, AV.op 5 [] 0), (3, AV.op 4 [] 0), (12, I N), (13, I i), (14, B false)], hp := [(0, AObj.box (I s)), (1, AObj.box (I m)), (2, AObj.box (AV.d (i64T).slice pic)), (3, AObj.box (AV.d Ty.str op)), (4, AObj.box (I w)), (5, AObj.box (I h)), (6, AObj.box (AV.d ((i64T).pair ((i64T).pair ((i64T).pair ((i64T).pair ((Ty.arr 2 (i64T)).pair ((Ty.arr 2 (i64T)).pair ((i64T).pair ((i64T).pair ((i64T).pair ((i64T).pair Ty.unit)))))))))) (hh, ww, kh, kw, [1, 1], [1, 1], 0, 0, pl, pe, PUnit.unit))), (7, AObj.rc (ARec.loop LC_tog [(0, AV.d Ty.str op), (1, AV.d (i64T).slice pic), (2, AV.fn (Fn.func 99) [] [AV.op 6 [] 0, AV.op 5 [] 0, AV.op 4 [] 0]), (3, AV.op 3 [] 0), (4, AV.op 2 [] 0), (7, AV.op 1 [] 0), (8, AV.op 0 [] 0)] LSta.ready))], nx := 16 } := by kernel_rfl
theorem plc_step (op : List UInt8) (pic : List Int) (hh ww kh kw pl pe h w N i m s : Int) (n : Nat) {R : Type} (k : AEx → LSt → Option R) : lp gR cf_plc (cL (cL (cR C_plc))) (n + 1) (stY op pic hh ww kh kw pl pe h w N i m s) k =
  bif decide (i < N) then (if kw = 0 then none else some (IntKind.i64.wrap (i.tdiv kw))).bind fun v1 =>
      (if kw = 0 then none else some (i.tmod kw)).bind fun v2 =>
        bif decide (IntKind.i64.wrap (IntKind.i64.wrap (IntKind.i64.wrap (h * 1) - 0) + IntKind.i64.wrap (v1 * 1)) < 0) then lp gR cf_plc (cL (cL (cR C_plc))) n { fr := mkFr 7 [(0, AV.ref 7), (1, AV.op 6 [] 0), (2, AV.op 5 [] 0), (3, AV.op 4 [] 0), (12, I N), (13, I (IntKind.i64.wrap (i + 1)))], hp := [(0, AObj.box (I s)), (1, AObj.box (I m)), (2, AObj.box (AV.d (i64T).slice pic)), (3, AObj.box (AV.d Ty.str op)), (4, AObj.box (I w)), (5, AObj.box (I h)), (6, AObj.box (AV.d ((i64T).pair ((i64T).pair ((i64T).pair ((i64T).pair ((Ty.arr 2 (i64T)).pair ((Ty.arr 2 (i64T)).pair ((i64T).pair ((i64T).pair ((i64T).pair ((i64T).pair Ty.unit)))))))))) (hh, ww, kh, kw, [1, 1], [1, 1], 0, 0, pl, pe, PUnit.unit))), (7, AObj.rc (ARec.loop LC_tog [(0, AV.d Ty.str op), (1, AV.d (i64T).slice pic), (2, AV.fn (Fn.func 99) [] [AV.op 6 [] 0, AV.op 5 [] 0, AV.op 4 [] 0]), (3, AV.op 3 [] 0), (4, AV.op 2 [] 0), (7, AV.op 1 [] 0), (8, AV.op 0 [] 0)] LSta.ready))], nx := 16 } k
        else 
          bif decide (IntKind.i64.wrap (IntKind.i64.wrap (IntKind.i64.wrap (h * 1) - 0) + IntKind.i64.wrap (v1 * 1)) ≥ hh) then lp gR cf_plc (cL (cL (cR C_plc))) n { fr := mkFr 7 [(0, AV.ref 7), (1, AV.op 6 [] 0), (2, AV.op 5 [] 0), (3, AV.op 4 [] 0), (12, I N), (13, I (IntKind.i64.wrap (i + 1)))], hp := [(0, AObj.box (I s)), (1, AObj.box (I m)), (2, AObj.box (AV.d (i64T).slice pic)), (3, AObj.box (AV.d Ty.str op)), (4, AObj.box (I w)), (5, AObj.box (I h)), (6, AObj.box (AV.d ((i64T).pair ((i64T).pair ((i64T).pair ((i64T).pair ((Ty.arr 2 (i64T)).pair ((Ty.arr 2 (i64T)).pair ((i64T).pair ((i64T).pair ((i64T).pair ((i64T).pair Ty.unit)))))))))) (hh, ww, kh, kw, [1, 1], [1, 1], 0, 0, pl, pe, PUnit.unit))), (7, AObj.rc (ARec.loop LC_tog [(0, AV.d Ty.str op), (1, AV.d (i64T).slice pic), (2, AV.fn (Fn.func 99) [] [AV.op 6 [] 0, AV.op 5 [] 0, AV.op 4 [] 0]), (3, AV.op 3 [] 0), (4, AV.op 2 [] 0), (7, AV.op 1 [] 0), (8, AV.op 0 [] 0)] LSta.ready))], nx := 16 } k
          else 
            bif decide (IntKind.i64.wrap (IntKind.i64.wrap (IntKind.i64.wrap (w * 1) - 0) + IntKind.i64.wrap (v2 * 1)) < 0) then lp gR cf_plc (cL (cL (cR C_plc))) n { fr := mkFr 7 [(0, AV.ref 7), (1, AV.op 6 [] 0), (2, AV.op 5 [] 0), (3, AV.op 4 [] 0), (12, I N), (13, I (IntKind.i64.wrap (i + 1)))], hp := [(0, AObj.box (I s)), (1, AObj.box (I m)), (2, AObj.box (AV.d (i64T).slice pic)), (3, AObj.box (AV.d Ty.str op)), (4, AObj.box (I w)), (5, AObj.box (I h)), (6, AObj.box (AV.d ((i64T).pair ((i64T).pair ((i64T).pair ((i64T).pair ((Ty.arr 2 (i64T)).pair ((Ty.arr 2 (i64T)).pair ((i64T).pair ((i64T).pair ((i64T).pair ((i64T).pair Ty.unit)))))))))) (hh, ww, kh, kw, [1, 1], [1, 1], 0, 0, pl, pe, PUnit.unit))), (7, AObj.rc (ARec.loop LC_tog [(0, AV.d Ty.str op), (1, AV.d (i64T).slice pic), (2, AV.fn (Fn.func 99) [] [AV.op 6 [] 0, AV.op 5 [] 0, AV.op 4 [] 0]), (3, AV.op 3 [] 0), (4, AV.op 2 [] 0), (7, AV.op 1 [] 0), (8, AV.op 0 [] 0)] LSta.ready))], nx := 16 } k
            else 
              bif decide (IntKind.i64.wrap (IntKind.i64.wrap (IntKind.i64.wrap (w * 1) - 0) + IntKind.i64.wrap (v2 * 1)) ≥ ww) then lp gR cf_plc (cL (cL (cR C_plc))) n { fr := mkFr 7 [(0, AV.ref 7), (1, AV.op 6 [] 0), (2, AV.op 5 [] 0), (3, AV.op 4 [] 0), (12, I N), (13, I (IntKind.i64.wrap (i + 1)))], hp := [(0, AObj.box (I s)), (1, AObj.box (I m)), (2, AObj.box (AV.d (i64T).slice pic)), (3, AObj.box (AV.d Ty.str op)), (4, AObj.box (I w)), (5, AObj.box (I h)), (6, AObj.box (AV.d ((i64T).pair ((i64T).pair ((i64T).pair ((i64T).pair ((Ty.arr 2 (i64T)).pair ((Ty.arr 2 (i64T)).pair ((i64T).pair ((i64T).pair ((i64T).pair ((i64T).pair Ty.unit)))))))))) (hh, ww, kh, kw, [1, 1], [1, 1], 0, 0, pl, pe, PUnit.unit))), (7, AObj.rc (ARec.loop LC_tog [(0, AV.d Ty.str op), (1, AV.d (i64T).slice pic), (2, AV.fn (Fn.func 99) [] [AV.op 6 [] 0, AV.op 5 [] 0, AV.op 4 [] 0]), (3, AV.op 3 [] 0), (4, AV.op 2 [] 0), (7, AV.op 1 [] 0), (8, AV.op 0 [] 0)] LSta.ready))], nx := 16 } k
              else (idx pic (IntKind.i64.wrap (IntKind.i64.wrap (IntKind.i64.wrap (IntKind.i64.wrap (IntKind.i64.wrap (h * 1) - 0) + IntKind.i64.wrap (v1 * 1)) * ww) + IntKind.i64.wrap (IntKind.i64.wrap (IntKind.i64.wrap (w * 1) - 0) + IntKind.i64.wrap (v2 * 1))))).bind fun v7 =>
                  bif !op == [77, 97, 120, 80, 111, 111, 108] then lp gR cf_plc (cL (cL (cR C_plc))) n { fr := mkFr 7 [(0, AV.ref 7), (1, AV.op 6 [] 0), (2, AV.op 5 [] 0), (3, AV.op 4 [] 0), (12, I N), (13, I (IntKind.i64.wrap (i + 1)))], hp := [(0, AObj.box (I (binW BinOp.add s v7))), (1, AObj.box (I (IntKind.i64.wrap (m + 1)))), (2, AObj.box (AV.d (i64T).slice pic)), (3, AObj.box (AV.d Ty.str op)), (4, AObj.box (I w)), (5, AObj.box (I h)), (6, AObj.box (AV.d ((i64T).pair ((i64T).pair ((i64T).pair ((i64T).pair ((Ty.arr 2 (i64T)).pair ((Ty.arr 2 (i64T)).pair ((i64T).pair ((i64T).pair ((i64T).pair ((i64T).pair Ty.unit)))))))))) (hh, ww, kh, kw, [1, 1], [1, 1], 0, 0, pl, pe, PUnit.unit))), (7, AObj.rc (ARec.loop LC_tog [(0, AV.d Ty.str op), (1, AV.d (i64T).slice pic), (2, AV.fn (Fn.func 99) [] [AV.op 6 [] 0, AV.op 5 [] 0, AV.op 4 [] 0]), (3, AV.op 3 [] 0), (4, AV.op 2 [] 0), (7, AV.op 1 [] 0), (8, AV.op 0 [] 0)] LSta.ready))], nx := 16 } k
                  else 
                    bif m == 0 then lp gR cf_plc (cL (cL (cR C_plc))) n { fr := mkFr 7 [(0, AV.ref 7), (1, AV.op 6 [] 0), (2, AV.op 5 [] 0), (3, AV.op 4 [] 0), (12, I N), (13, I (IntKind.i64.wrap (i + 1)))], hp := [(0, AObj.box (I v7)), (1, AObj.box (I (IntKind.i64.wrap (m + 1)))), (2, AObj.box (AV.d (i64T).slice pic)), (3, AObj.box (AV.d Ty.str op)), (4, AObj.box (I w)), (5, AObj.box (I h)), (6, AObj.box (AV.d ((i64T).pair ((i64T).pair ((i64T).pair ((i64T).pair ((Ty.arr 2 (i64T)).pair ((Ty.arr 2 (i64T)).pair ((i64T).pair ((i64T).pair ((i64T).pair ((i64T).pair Ty.unit)))))))))) (hh, ww, kh, kw, [1, 1], [1, 1], 0, 0, pl, pe, PUnit.unit))), (7, AObj.rc (ARec.loop LC_tog [(0, AV.d Ty.str op), (1, AV.d (i64T).slice pic), (2, AV.fn (Fn.func 99) [] [AV.op 6 [] 0, AV.op 5 [] 0, AV.op 4 [] 0]), (3, AV.op 3 [] 0), (4, AV.op 2 [] 0), (7, AV.op 1 [] 0), (8, AV.op 0 [] 0)] LSta.ready))], nx := 16 } k
                    else lp gR cf_plc (cL (cL (cR C_plc))) n { fr := mkFr 7 [(0, AV.ref 7), (1, AV.op 6 [] 0), (2, AV.op 5 [] 0), (3, AV.op 4 [] 0), (12, I N), (13, I (IntKind.i64.wrap (i + 1)))], hp := [(0, AObj.box (I (maxW s v7))), (1, AObj.box (I (IntKind.i64.wrap (m + 1)))), (2, AObj.box (AV.d (i64T).slice pic)), (3, AObj.box (AV.d Ty.str op)), (4, AObj.box (I w)), (5, AObj.box (I h)), (6, AObj.box (AV.d ((i64T).pair ((i64T).pair ((i64T).pair ((i64T).pair ((Ty.arr 2 (i64T)).pair ((Ty.arr 2 (i64T)).pair ((i64T).pair ((i64T).pair ((i64T).pair ((i64T).pair Ty.unit)))))))))) (hh, ww, kh, kw, [1, 1], [1, 1], 0, 0, pl, pe, PUnit.unit))), (7, AObj.rc (ARec.loop LC_tog [(0, AV.d Ty.str op), (1, AV.d (i64T).slice pic), (2, AV.fn (Fn.func 99) [] [AV.op 6 [] 0, AV.op 5 [] 0, AV.op 4 [] 0]), (3, AV.op 3 [] 0), (4, AV.op 2 [] 0), (7, AV.op 1 [] 0), (8, AV.op 0 [] 0)] LSta.ready))], nx := 16 } k
  else k (AEx.exit 0) { fr := mkFr 7 [(0, AV.ref 7), (1, AV.op 6 [] 0), (2, AV.op 5 [] 0), (3, AV.op 4 [] 0), (12, I N), (13, I i), (14, B false)], hp := [(0, AObj.box (I s)), (1, AObj.box (I m)), (2, AObj.box (AV.d (i64T).slice pic)), (3, AObj.box (AV.d Ty.str op)), (4, AObj.box (I w)), (5, AObj.box (I h)), (6, AObj.box (AV.d ((i64T).pair ((i64T).pair ((i64T).pair ((i64T).pair ((Ty.arr 2 (i64T)).pair ((Ty.arr 2 (i64T)).pair ((i64T).pair ((i64T).pair ((i64T).pair ((i64T).pair Ty.unit)))))))))) (hh, ww, kh, kw, [1, 1], [1, 1], 0, 0, pl, pe, PUnit.unit))), (7, AObj.rc (ARec.loop LC_tog [(0, AV.d Ty.str op), (1, AV.d (i64T).slice pic), (2, AV.fn (Fn.func 99) [] [AV.op 6 [] 0, AV.op 5 [] 0, AV.op 4 [] 0]), (3, AV.op 3 [] 0), (4, AV.op 2 [] 0), (7, AV.op 1 [] 0), (8, AV.op 0 [] 0)] LSta.ready))], nx := 16 } := by
  have h := plc_stepH (hlp gR cf_plc) op pic hh ww kh kw pl pe h w N i m s n k
  simp only [lpH_lp] at h
  exact h
end Go.Proofs.XGT
/- conv.together over the places of a window that stands wholly in the picture: the fold of what stands there. -/
namespace Go.Proofs.XGT
open Go.Vm Go
set_option maxRecDepth 100000
set_option maxHeartbeats 400000
def strMPool : List UInt8 := [77, 97, 120, 80, 111, 111, 108]
/-- what a place's number does to what has come together -/
def stepS (op : List UInt8) (i : Nat) (s x : Int) : Int := bif !op == [77, 97, 120, 80, 111, 111, 108] then binW .add s x else bif (i : Int) == 0 then x else maxW s x
/-- the number that stands at place i of a window's kernel -/
def spotI (W KW h w i : Nat) : Nat := (h + i / KW) * W + (w + i % KW)
theorem idx_nat2 {α : Type} {xs : List α} {i : Nat} {x : α} (h : xs[i]? = some x) : idx xs (i : Int) = some x := by
  unfold idx
  rw [if_pos (by omega), Int.toNat_natCast, h]
theorem plc_one {op : List UInt8} {pic : List Int} {pl pe : Int} {H W KH KW h w i : Nat} (hi : i < KH * KW) (hh : h + KH ≤ H) (hw : w + KW ≤ W) (hH : H ≤ 65536) (hW : W ≤ 65536) {x s : Int} (hx : pic[spotI W KW h w i]? = some x) (n : Nat) {R : Type} (k : AEx → LSt → Option R) :
    lp gR cf_plc (cL (cL (cR C_plc))) (n + 1) (stY op pic H W KH KW pl pe h w ((KH * KW : Nat) : Int) i i s) k = lp gR cf_plc (cL (cL (cR C_plc))) n (stY op pic H W KH KW pl pe h w ((KH * KW : Nat) : Int) ((i + 1 : Nat) : Int) ((i + 1 : Nat) : Int) (stepS op i s x)) k := by
  have hkw : 1 ≤ KW := by
    rcases Nat.eq_zero_or_pos KW with h0 | h0
    · rw [h0, Nat.mul_zero] at hi; omega
    · exact h0
  have hdiv : i / KW < KH := Nat.div_lt_of_lt_mul (by rw [Nat.mul_comm]; exact hi)
  have hmod : i % KW < KW := Nat.mod_lt _ hkw
  have hb : KH * KW ≤ 65536 * 65536 := Nat.mul_le_mul (by omega) (by omega)
  have hsp : spotI W KW h w i = (h + i / KW) * W + (w + i % KW) := rfl
  have e1 : (i : Int).tdiv KW = ((i / KW : Nat) : Int) := (Int.ofNat_tdiv _ _).symm
  have e2 : (i : Int).tmod KW = ((i % KW : Nat) : Int) := (Int.ofNat_tmod _ _).symm
  generalize i / KW = q at *
  generalize i % KW = r at *
  have hb2 : (h + q) * W ≤ 65536 * 65536 := Nat.mul_le_mul (by omega) (by omega)
  have e0 : IntKind.i64.wrap ((i : Int) + 1) = ((i + 1 : Nat) : Int) := by rw [wrap64 (by omega) (by omega)]; omega
  have g1 : IntKind.i64.wrap (h : Int) = h := wrap64 (by omega) (by omega)
  have g2 : IntKind.i64.wrap (w : Int) = w := wrap64 (by omega) (by omega)
  have g3 : IntKind.i64.wrap (q : Int) = q := wrap64 (by omega) (by omega)
  have g4 : IntKind.i64.wrap (r : Int) = r := wrap64 (by omega) (by omega)
  have g5 : IntKind.i64.wrap ((h : Int) + (q : Int)) = ((h + q : Nat) : Int) := by rw [wrap64 (by omega) (by omega)]; omega
  have g6 : IntKind.i64.wrap ((w : Int) + (r : Int)) = ((w + r : Nat) : Int) := by rw [wrap64 (by omega) (by omega)]; omega
  have g7 : IntKind.i64.wrap (((h + q : Nat) : Int) * (W : Int)) = (((h + q) * W : Nat) : Int) := by
    rw [← Int.natCast_mul]
    exact wrap64 (by omega) (by omega)
  have g8 : IntKind.i64.wrap ((((h + q) * W : Nat) : Int) + ((w + r : Nat) : Int)) = (((h + q) * W + (w + r) : Nat) : Int) := by
    rw [wrap64 (by omega) (by omega)]
    omega
  rw [hsp] at hx
  have hk0 : ¬ ((KW : Int) = 0) := by omega
  rw [plc_step, decide_eq_true (show (i : Int) < ((KH * KW : Nat) : Int) by omega)]
  simp only [cond_true, if_neg hk0, Option.bind_some, e0, e1, e2, g1, g2, g3, g4, g5, g6, g7, g8, Int.mul_one, Int.sub_zero]
  rw [decide_eq_false (show ¬ (((h + q : Nat) : Int) < 0) by omega), decide_eq_false (show ¬ (((h + q : Nat) : Int) ≥ (H : Int)) by omega), decide_eq_false (show ¬ (((w + r : Nat) : Int) < 0) by omega), decide_eq_false (show ¬ (((w + r : Nat) : Int) ≥ (W : Int)) by omega), idx_nat2 hx]
  simp only [cond_false, Option.bind_some]
  unfold stepS
  cases !op == [77, 97, 120, 80, 111, 111, 108] with
  | true => rfl
  | false =>
    simp only [cond_false]
    cases (i : Int) == 0 <;> rfl
/-- what comes together of a window's first numbers -/
def togF (op : List UInt8) (pic : List Int) (W KW h w : Nat) : Nat → Int
  | 0 => 0
  | i + 1 => stepS op i (togF op pic W KW h w i) (pic.getD (spotI W KW h w i) 0)
theorem spot_lt {pic : List Int} {H W KH KW h w i : Nat} (hi : i < KH * KW) (hh : h + KH ≤ H) (hw : w + KW ≤ W) (hp : H * W ≤ pic.length) : pic[spotI W KW h w i]? = some (pic.getD (spotI W KW h w i) 0) := by
  have hkw : 1 ≤ KW := by
    rcases Nat.eq_zero_or_pos KW with h0 | h0
    · rw [h0, Nat.mul_zero] at hi; omega
    · exact h0
  have hdiv : i / KW < KH := Nat.div_lt_of_lt_mul (by rw [Nat.mul_comm]; exact hi)
  have hmod : i % KW < KW := Nat.mod_lt _ hkw
  have h1 : (h + i / KW + 1) * W ≤ H * W := Nat.mul_le_mul_right _ (by omega)
  have h2 : spotI W KW h w i < pic.length := by
    unfold spotI
    rw [Nat.add_mul _ 1, Nat.one_mul] at h1
    omega
  rw [List.getElem?_eq_getElem h2, List.getD_eq_getElem?_getD, List.getElem?_eq_getElem h2]
  rfl
theorem plc_all {op : List UInt8} {pic : List Int} {pl pe : Int} {H W KH KW h w : Nat} (hh : h + KH ≤ H) (hw : w + KW ≤ W) (hH : H ≤ 65536) (hW : W ≤ 65536) (hp : H * W ≤ pic.length) {R : Type} (k : AEx → LSt → Option R) :
    ∀ (r i m : Nat), i + r = KH * KW → r < m →
    lp gR cf_plc (cL (cL (cR C_plc))) m (stY op pic H W KH KW pl pe h w ((KH * KW : Nat) : Int) i i (togF op pic W KW h w i)) k =
      lp gR cf_plc (cL (cL (cR C_plc))) (m - r) (stY op pic H W KH KW pl pe h w ((KH * KW : Nat) : Int) ((KH * KW : Nat) : Int) ((KH * KW : Nat) : Int) (togF op pic W KW h w (KH * KW))) k := by
  intro r
  induction r with
  | zero =>
    intro i m hi hm
    obtain rfl : i = KH * KW := by omega
    rfl
  | succ r ih =>
    intro i m hi hm
    obtain ⟨m, rfl⟩ : ∃ m', m = m' + 1 := ⟨m - 1, by omega⟩
    rw [plc_one (by omega) hh hw hH hW (spot_lt (by omega) hh hw hp), show m + 1 - (r + 1) = m - r by omega]
    exact ih (i + 1) m (by omega) (by omega)
end Go.Proofs.XGT
/- conv.together, told. -/
namespace Go.Proofs.XGT
open Go.Vm Go
set_option maxRecDepth 100000
set_option maxHeartbeats 4000000
noncomputable def plcE : FnE := execFnC gR Tryz.f99 7 [(1, [0, 1, 2, 3, 12, 13])]
theorem plcE_ok : FnE.OK e0.P e0.gam 99 plcE := execFnC_ok gR_good hmix Tryz.func99 Tryz.call99 (by decide +kernel) rfl
noncomputable def YK0 : AEx → LSt → Option (AEnd × LHp) := blkK 0 (endC Tryz.prog 8 Tryz.f99.results.toList ah)
theorem plc_lp (op : List UInt8) (pic : List Int) (hh ww kh kw pl pe h w m s : Int) : runC gR Tryz.f99 7 [(1, [0, 1, 2, 3, 12, 13])] [.ref 7, .op 6 [] 0, .op 5 [] 0, .op 4 [] 0] (hpY op pic hh ww kh kw pl pe h w m s) ah = lp gR cf_plc (cL (cL (cR C_plc))) fu (stY op pic hh ww kh kw pl pe h w (IntKind.i64.wrap (kh * kw)) ((0 : Nat) : Int) m s) YK0 := (plc_eq op pic hh ww kh kw pl pe h w m s).trans (by kernel_rfl)
theorem YK0_exit (op : List UInt8) (pic : List Int) (hh ww kh kw pl pe h w N i m s : Int) : YK0 (AEx.exit 0) ⟨mkFr 7 [(0, .ref 7), (1, .op 6 [] 0), (2, .op 5 [] 0), (3, .op 4 [] 0), (12, I N), (13, I i), (14, B false)], hpY op pic hh ww kh kw pl pe h w m s, 16⟩ = some (.ret [], hpY op pic hh ww kh kw pl pe h w m s) := by kernel_rfl
theorem plc_run {op : List UInt8} {pic : List Int} {pl pe : Int} {H W KH KW h w : Nat} (hh : h + KH ≤ H) (hw : w + KW ≤ W) (hH : H ≤ 65536) (hW : W ≤ 65536) (hp : H * W ≤ pic.length) :
    runC gR Tryz.f99 7 [(1, [0, 1, 2, 3, 12, 13])] [.ref 7, .op 6 [] 0, .op 5 [] 0, .op 4 [] 0] (hpY op pic H W KH KW pl pe h w ((0 : Nat) : Int) 0) ah = some (.ret [], hpY op pic H W KH KW pl pe h w ((KH * KW : Nat) : Int) (togF op pic W KW h w (KH * KW))) := by
  have hb : KH * KW ≤ 65536 * 65536 := Nat.mul_le_mul (by omega) (by omega)
  have e : IntKind.i64.wrap ((KH : Int) * KW) = ((KH * KW : Nat) : Int) := by
    rw [← Int.natCast_mul]
    exact wrap64 (by omega) (by omega)
  rw [plc_lp, e]
  have key := plc_all (op := op) (pic := pic) (pl := pl) (pe := pe) hh hw hH hW hp YK0 (KH * KW) 0 fu (by omega) (by unfold fu; omega)
  rw [show togF op pic W KW h w 0 = 0 from rfl] at key
  rw [key]
  clear key
  obtain ⟨m', hm'⟩ : ∃ m', fu - KH * KW = m' + 1 := ⟨fu - KH * KW - 1, by unfold fu; omega⟩
  rw [hm', plc_step, decide_eq_false (Int.lt_irrefl _)]
  exact YK0_exit _ _ _ _ _ _ _ _ _ _ _ _ _ _
theorem runC_k {E : Env} (hE : E.Good) {fn : Func} {depth : Nat} {live : List (Nat × List Nat)} {args : List AV} {hs hs' : LHp} {ae : AEnd} (h : runC E fn depth live args hs ah = some (ae, hs')) {R : Type} (k : AEnd → LHp → Option R) : runC E fn depth live args hs k = k ae hs' := by
  rw [runC_eq hE] at h ⊢
  cases hx : execB E fn depth live args hs with
  | none => rw [hx] at h; cases h
  | some p => rw [hx] at h; cases h; rfl
theorem plcE_eq (args : List AV) (hs : LHp) {R : Type} (k : AEnd → LHp → Option R) : plcE.run args hs k = runC gR Tryz.f99 7 [(1, [0, 1, 2, 3, 12, 13])] args hs k := rfl
theorem plcE_run {op : List UInt8} {pic : List Int} {pl pe : Int} {H W KH KW h w : Nat} (hh : h + KH ≤ H) (hw : w + KW ≤ W) (hH : H ≤ 65536) (hW : W ≤ 65536) (hp : H * W ≤ pic.length) {R : Type} (k : AEnd → LHp → Option R) :
    plcE.run [.ref 7, .op 6 [] 0, .op 5 [] 0, .op 4 [] 0] (hpY op pic H W KH KW pl pe h w ((0 : Nat) : Int) 0) k = k (.ret []) (hpY op pic H W KH KW pl pe h w ((KH * KW : Nat) : Int) (togF op pic W KW h w (KH * KW))) := by
  exact (plcE_eq _ _ k).trans (runC_k gR_good (plc_run hh hw hH hW hp) k)
noncomputable def frecT (op : List UInt8) (pic : List Int) : List (Nat × AV) := slotsF ⟨frT op pic, [], 0⟩ (loopLive cf_tog LC_tog.assign)
noncomputable def hpT2 (op : List UInt8) (pic : List Int) (hh ww kh kw pl pe h w : Int) : LHp := (7, .rc (.loop LC_tog (frecT op pic) .ready)) :: hpT1 op pic hh ww kh kw pl pe h w
theorem tog_rf (F : FnE) (op : List UInt8) (pic : List Int) (hh ww kh kw pl pe h w : Int) (k : AEx → LSt → Option (AEnd × LHp)) : exC (gT F) cf_tog (cL (cR (cL (cR (cR C_tog))))) ⟨frT op pic, hpT1 op pic hh ww kh kw pl pe h w, 7⟩ k =
    F.run [.ref 7, .op 6 [] 0, .op 5 [] 0, .op 4 [] 0] (hpY op pic hh ww kh kw pl pe h w ((0 : Nat) : Int) 0) (callK [6, 5, 4, 3, 0, 1, 2, 7] (hpT2 op pic hh ww kh kw pl pe h w) 8 (rfK (frT op pic) (hpT2 op pic hh ww kh kw pl pe h w) 7 k) (rfP (frT op pic) (hpT2 op pic hh ww kh kw pl pe h w) 7 k)) := by kernel_rfl
noncomputable def GK0 (F : FnE) : AEx → LSt → Option (AEnd × LHp) := blkK 0 (seqQ (gT F) cf_tog (rfp (gT F) cf_tog) (cR (cR (cR C_tog))) (endC Tryz.prog 3 Tryz.f62.results.toList ah))
theorem tog_rf0 (F : FnE) (op : List UInt8) (pic : List Int) (hh ww kh kw pl pe h w : Int) : runC (gT F) Tryz.f62 6 [(3, [0, 1, 2, 3, 4, 7, 8, 9, 14, 15, 16, 17, 18, 20, 21, 22, 23, 24, 26, 27, 28, 29, 30, 32, 33, 34])] [.d .str op, .d (.slice i64T) pic, plcA] (hpW hh ww kh kw pl pe h w) ah = exC (gT F) cf_tog (cL (cR (cL (cR (cR C_tog))))) ⟨frT op pic, hpT1 op pic hh ww kh kw pl pe h w, 7⟩ (GK0 F) := (tog_eq F op pic hh ww kh kw pl pe h w).trans (by kernel_rfl)
theorem tog_fin (F : FnE) (op : List UInt8) (pic : List Int) (hh ww kh kw pl pe h w m s : Int) : callK [6, 5, 4, 3, 0, 1, 2, 7] (hpT2 op pic hh ww kh kw pl pe h w) 8 (rfK (frT op pic) (hpT2 op pic hh ww kh kw pl pe h w) 7 (GK0 F)) (rfP (frT op pic) (hpT2 op pic hh ww kh kw pl pe h w) 7 (GK0 F)) (.ret []) (hpY op pic hh ww kh kw pl pe h w m s) =
  bif op == [77, 97, 120, 80, 111, 111, 108] then some (AEnd.ret [I s], [(0, AObj.box (I w)), (1, AObj.box (I h)), (2, AObj.box (AV.d ((i64T).pair ((i64T).pair ((i64T).pair ((i64T).pair ((Ty.arr 2 (i64T)).pair ((Ty.arr 2 (i64T)).pair ((i64T).pair ((i64T).pair ((i64T).pair ((i64T).pair Ty.unit)))))))))) (hh, ww, kh, kw, [1, 1], [1, 1], 0, 0, pl, pe, PUnit.unit)))])
  else 
    bif (FloatKind.f32.format.read (canonF FloatKind.f32 (FloatKind.f32.nearest m))).order (FloatKind.f32.format.read (canonF FloatKind.f32 (FloatKind.f32.nearest m))) != some Ordering.eq then some (AEnd.ret [I (binW BinOp.quo s 2143289344)], [(0, AObj.box (I w)), (1, AObj.box (I h)), (2, AObj.box (AV.d ((i64T).pair ((i64T).pair ((i64T).pair ((i64T).pair ((Ty.arr 2 (i64T)).pair ((Ty.arr 2 (i64T)).pair ((i64T).pair ((i64T).pair ((i64T).pair ((i64T).pair Ty.unit)))))))))) (hh, ww, kh, kw, [1, 1], [1, 1], 0, 0, pl, pe, PUnit.unit)))])
    else 
      bif fNaN FloatKind.f32 (canonF FloatKind.f32 (FloatKind.f32.nearest m)) then none
      else some (AEnd.ret [I (binW BinOp.quo s (IntKind.i64.wrap (Int.ofNat (canonF FloatKind.f32 (FloatKind.f32.nearest m)))))], [(0, AObj.box (I w)), (1, AObj.box (I h)), (2, AObj.box (AV.d ((i64T).pair ((i64T).pair ((i64T).pair ((i64T).pair ((Ty.arr 2 (i64T)).pair ((Ty.arr 2 (i64T)).pair ((i64T).pair ((i64T).pair ((i64T).pair ((i64T).pair Ty.unit)))))))))) (hh, ww, kh, kw, [1, 1], [1, 1], 0, 0, pl, pe, PUnit.unit)))]) := by kernel_rfl
/-- a number as a Float's word -/
def castW (m : Nat) : Int := resW (canonF .f32 (FloatKind.f32.nearest m))
/-- what comes out of a window -/
def togR (op : List UInt8) (pic : List Int) (W KH KW h w : Nat) : Int := bif op == [77, 97, 120, 80, 111, 111, 108] then togF op pic W KW h w (KH * KW) else binW .quo (togF op pic W KW h w (KH * KW)) (castW (KH * KW))
theorem tog_run {op : List UInt8} {pic : List Int} {pl pe : Int} {H W KH KW h w : Nat} (hh : h + KH ≤ H) (hw : w + KW ≤ W) (hH : H ≤ 65536) (hW : W ≤ 65536) (hp : H * W ≤ pic.length) :
    runC (gT plcE) Tryz.f62 6 [(3, [0, 1, 2, 3, 4, 7, 8, 9, 14, 15, 16, 17, 18, 20, 21, 22, 23, 24, 26, 27, 28, 29, 30, 32, 33, 34])] [.d .str op, .d (.slice i64T) pic, plcA] (hpW H W KH KW pl pe h w) ah = some (.ret [I (togR op pic W KH KW h w)], hpW H W KH KW pl pe h w) := by
  rw [tog_rf0, tog_rf, plcE_run hh hw hH hW hp, tog_fin]
  unfold togR
  cases op == [77, 97, 120, 80, 111, 111, 108] with
  | true => rfl
  | false =>
    simp only [cond_false]
    rw [order_self]
    unfold castW resW fNaN
    cases (FloatKind.f32.format.read (canonF FloatKind.f32 (FloatKind.f32.nearest ((KH * KW : Nat) : Int)))).isNaN <;> rfl
end Go.Proofs.XGT
/- conv.together as an answer in a function's place. -/
namespace Go.Proofs.XGT
open Go.Vm Go
set_option maxRecDepth 100000
set_option maxHeartbeats 4000000
/-- the window stands wholly in the picture -/
def inside (hh ww kh kw h w : Int) (n : Nat) : Bool := decide (0 ≤ h) && decide (0 ≤ w) && decide (0 ≤ kh) && decide (0 ≤ kw) && decide (h + kh ≤ hh) && decide (w + kw ≤ ww) && decide (hh ≤ 65536) && decide (ww ≤ 65536) && decide (hh * ww ≤ (n : Int))
def togT : List AV → LHp → Tq
  | [.d .str op, .d (.slice (.int .i64)) pic, .fn (.func 99) [] [.op 2 [] 0, .op 1 [] 0, .op 0 [] 0]], [(0, .box (.d (.int .i64) w)), (1, .box (.d (.int .i64) h)), (2, .box (.d ((.pair (.int .i64) (.pair (.int .i64) (.pair (.int .i64) (.pair (.int .i64) (.pair (.arr 2 (.int .i64)) (.pair (.arr 2 (.int .i64)) (.pair (.int .i64) (.pair (.int .i64) (.pair (.int .i64) (.pair (.int .i64) .unit))))))))))) (hh, ww, kh, kw, ss, ds, top, left, pl, pe, ())))] =>
    .br (decide (ss = [1, 1]) && decide (ds = [1, 1]) && decide (top = 0) && decide (left = 0) && inside hh ww kh kw h w pic.length) (.leaf (.ret [I (togR op pic ww.toNat kh.toNat kw.toNat h.toNat w.toNat)]) (hpW hh ww kh kw pl pe h w)) .no
  | _, _ => .no
theorem togT_ok : FnE.OK e0.P e0.gam 62 (treeE togT) := by
  have hg : (gT plcE).Good := (g165_good.add twoE_ok).add plcE_ok
  have h1 : FnE.OK e0.P e0.gam 62 (execFnC (gT plcE) Tryz.f62 6 [(3, [0, 1, 2, 3, 4, 7, 8, 9, 14, 15, 16, 17, 18, 20, 21, 22, 23, 24, 26, 27, 28, 29, 30, 32, 33, 34])]) := execFnC_ok hg hmix Tryz.func62 Tryz.call62 (by decide +kernel) rfl
  refine ⟨fun _ _ _ => Tq.eq _ _, fun args hs ae hs' h => ?_⟩
  have h' : (togT args hs).run ah = some (ae, hs') := h
  clear h
  unfold togT at h'
  split at h'
  · rename_i op pic w h hh ww kh kw ss ds top left pl pe
    obtain ⟨hb, h2⟩ := Tq.br_no h'
    clear h'
    unfold inside at hb
    simp only [Bool.and_eq_true, decide_eq_true_eq] at hb
    obtain ⟨⟨⟨⟨b1, b2⟩, b3⟩, b4⟩, ⟨⟨⟨⟨⟨⟨⟨c1, c2⟩, c3⟩, c4⟩, c5⟩, c6⟩, c7⟩, c8⟩, c9⟩ := hb
    subst b1 b2 b3 b4
    have c1 : (0 : Int) ≤ h := c1
    have c2 : (0 : Int) ≤ w := c2
    have c3 : (0 : Int) ≤ kh := c3
    have c4 : (0 : Int) ≤ kw := c4
    have c5 : @HAdd.hAdd Int Int Int _ h kh ≤ hh := c5
    have c6 : @HAdd.hAdd Int Int Int _ w kw ≤ ww := c6
    obtain ⟨H, rfl⟩ := Int.eq_ofNat_of_zero_le (show (0 : Int) ≤ hh by omega)
    obtain ⟨W, rfl⟩ := Int.eq_ofNat_of_zero_le (show (0 : Int) ≤ ww by omega)
    obtain ⟨h, rfl⟩ := Int.eq_ofNat_of_zero_le c1
    obtain ⟨w, rfl⟩ := Int.eq_ofNat_of_zero_le c2
    obtain ⟨KH, rfl⟩ := Int.eq_ofNat_of_zero_le c3
    obtain ⟨KW, rfl⟩ := Int.eq_ofNat_of_zero_le c4
    have c7 : ((H : Nat) : Int) ≤ 65536 := c7
    have c8 : ((W : Nat) : Int) ≤ 65536 := c8
    have c9 : ((H : Nat) : Int) * ((W : Nat) : Int) ≤ (List.length pic : Nat) := c9
    rw [← Int.natCast_mul] at c9
    cases h2
    exact h1.okC (tog_run (by omega) (by omega) (by omega) (by omega) (by omega))
  · cases h'
noncomputable def gQ : Env := g166.add 62 (treeE togT)
theorem gQ_good : gQ.Good := g166_good.add togT_ok
end Go.Proofs.XGT
