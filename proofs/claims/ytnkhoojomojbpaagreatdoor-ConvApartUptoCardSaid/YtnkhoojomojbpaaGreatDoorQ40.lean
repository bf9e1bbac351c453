/- Functions that many laws reach, by what they answer: num.Check, shape.Count, pb.Check. -/
import Derived.Test.YtnkhoojomojbpaaGreatDoorQ37
import Derived.Test.YtnkhoojomojbpaaGreatDoorQ39
import Derived.Lib.SliceRun
import Derived.Lib.Walk
import Derived.Shelf.RegionOpenPlain
import Derived.Test.YtnkhoojomojbpaaGreatDoorProg
import Derived.WalkKit
set_option maxRecDepth 100000
set_option maxHeartbeats 4000000
namespace Go.Proofs.XRT
open Go.Vm Go Go.RowKit Go.Lib Tryz IntKind
noncomputable section
@[match_pattern] abbrev zI : Ty := .int .i64
@[match_pattern] abbrev zS : Ty := .slice (.int .i64)
abbrev XJ : List UInt8 := [71, 108, 111, 98, 97, 108, 65, 118, 101, 114, 97, 103, 101, 80, 111, 111, 108]
abbrev K8 : List UInt8 := [65, 100, 100]
abbrev QD : List UInt8 := [83, 117, 98]
abbrev K9 : List UInt8 := [77, 117, 108]
abbrev La : List UInt8 := [68, 105, 118]
abbrev Lb : List UInt8 := [77, 97, 120]
abbrev QE : List UInt8 := [77, 105, 110]
abbrev V9 : List UInt8 := [65, 110, 100]
abbrev Wa : List UInt8 := [88, 111, 114]
abbrev vF : List UInt8 := [69, 113, 117, 97, 108]
abbrev ym : List UInt8 := [76, 101, 115, 115]
abbrev yo : List UInt8 := [71, 114, 101, 97, 116, 101, 114]
abbrev Lc : List UInt8 := [77, 97, 116, 77, 117, 108]
abbrev tY : List UInt8 := [87, 104, 101, 114, 101]
abbrev Ld : List UInt8 := [67, 108, 105, 112]
abbrev D9 : List UInt8 := [67, 97, 115, 116]
abbrev Ea : List UInt8 := [82, 101, 100, 117, 99, 101, 83, 117, 109]
abbrev Eb : List UInt8 := [82, 101, 100, 117, 99, 101, 77, 97, 120]
abbrev Lf : List UInt8 := [82, 101, 100, 117, 99, 101, 77, 101, 97, 110]
abbrev yq : List UInt8 := [65, 114, 103, 77, 97, 120]
abbrev Ir : List UInt8 := [82, 101, 115, 104, 97, 112, 101]
abbrev Is : List UInt8 := [69, 120, 112, 97, 110, 100]
abbrev It : List UInt8 := [84, 114, 97, 110, 115, 112, 111, 115, 101]
abbrev Iu : List UInt8 := [67, 111, 110, 99, 97, 116]
abbrev Iv : List UInt8 := [83, 108, 105, 99, 101]
abbrev vG : List UInt8 := [71, 97, 116, 104, 101, 114]
abbrev Iw : List UInt8 := [83, 113, 117, 101, 101, 122, 101]
abbrev Ix : List UInt8 := [85, 110, 115, 113, 117, 101, 101, 122, 101]
abbrev Lg : List UInt8 := [70, 108, 97, 116, 116, 101, 110]
abbrev Lh : List UInt8 := [83, 111, 102, 116, 109, 97, 120]
abbrev Iy : List UInt8 := [71, 101, 109, 109]
abbrev vH : List UInt8 := [67, 111, 110, 118]
abbrev rC : List UInt8 := [77, 97, 120, 80, 111, 111, 108]
abbrev Ec : List UInt8 := [65, 118, 101, 114, 97, 103, 101, 80, 111, 111, 108]
abbrev Li : List UInt8 := [66, 97, 116, 99, 104, 78, 111, 114, 109, 97, 108, 105, 122, 97, 116, 105, 111, 110]
abbrev tZ : List UInt8 := [67, 111, 110, 115, 116, 97, 110, 116]
abbrev QF : List UInt8 := [118, 97, 108, 117, 101]
abbrev Lj : List UInt8 := [78, 101, 103]
abbrev Iz : List UInt8 := [65, 98, 115]
abbrev QG : List UInt8 := [82, 101, 108, 117]
abbrev QH : List UInt8 := [83, 113, 114, 116]
abbrev QI : List UInt8 := [70, 108, 111, 111, 114]
abbrev QJ : List UInt8 := [83, 105, 103, 109, 111, 105, 100]
abbrev QK : List UInt8 := [84, 97, 110, 104]
abbrev QL : List UInt8 := [73, 100, 101, 110, 116, 105, 116, 121]
abbrev rD : List UInt8 := [115, 104, 97, 112, 101]
abbrev fR : List UInt8 := [97, 120, 105, 115]
abbrev yr : List UInt8 := [107, 101, 101, 112, 100, 105, 109, 115]
abbrev jP : List UInt8 := [97, 120, 101, 115]
abbrev ua : List UInt8 := [115, 116, 97, 114, 116, 115]
abbrev cW : List UInt8 := [112, 97, 100, 115]
abbrev gq : List UInt8 := [115, 116, 114, 105, 100, 101, 115]
abbrev gr : List UInt8 := [100, 105, 108, 97, 116, 105, 111, 110, 115]
abbrev fS : List UInt8 := [107, 101, 114, 110, 101, 108, 95, 115, 104, 97, 112, 101]
abbrev gF : List UInt8 := [103, 114, 111, 117, 112]
abbrev pj : List UInt8 := [116, 114, 97, 110, 115, 65]
abbrev po : List UInt8 := [116, 114, 97, 110, 115, 66]
abbrev IA : List UInt8 := [112, 101, 114, 109]
@[match_pattern] abbrev Y0 : Ty := .pair (.int .i64) (.pair (.slice (.int .i64)) (.pair (.slice (.int .i64)) .unit))
@[match_pattern] abbrev Y1 : Ty := .pair .str (.pair (.int .i64) (.pair (.int .i64) (.pair (.int .i64) (.pair .str (.pair Y0 (.pair (.slice (.int .i64)) .unit))))))
@[match_pattern] abbrev Y2 : Ty := .pair .str (.pair .str (.pair (.slice .str) (.pair .str (.pair (.slice Y1) .unit))))
@[match_pattern] abbrev Y3 : Ty := .pair .str (.pair (.int .i64) (.pair (.slice (.int .i64)) .unit))
@[match_pattern] abbrev Y4 : Ty := .pair (.int .i64) (.pair (.int .i64) (.pair (.int .i64) (.pair (.int .i64) (.pair (.arr 2 (.int .i64)) (.pair (.arr 2 (.int .i64)) (.pair (.int .i64) (.pair (.int .i64) (.pair (.int .i64) (.pair (.int .i64) .unit)))))))))
@[match_pattern] abbrev Y5 : Ty := .pair (.int .i64) (.pair (.int .i64) .unit)
@[match_pattern] abbrev Y6 : Ty := .pair Y2 (.pair (.slice Y3) .unit)
@[match_pattern] abbrev Y7 : Ty := .pair (.int .i64) (.pair (.int .i64) (.pair .str .unit))
@[match_pattern] abbrev Y8 : Ty := .pair (.int .u8) (.pair (.int .u8) .unit)
theorem QM : dE prog 2 (.int .i64) := ⟨⟨_, _, Tryz.type2, rfl, by decide, rfl, rfl⟩, ⟨_, Tryz.underlying2, rfl⟩⟩
theorem ty3 : dE prog 3 (.int .i64) := ⟨⟨_, _, Tryz.type3, rfl, by decide, rfl, rfl⟩, ⟨_, Tryz.underlying3, rfl⟩⟩
theorem ty9 : dE prog 9 .str := ⟨⟨_, _, Tryz.type9, rfl, by decide, rfl, rfl⟩, ⟨_, Tryz.underlying9, rfl⟩⟩
theorem ahD : dE prog 25 Y2 := ⟨⟨_, _, Tryz.type25, rfl, by decide, rfl, rfl⟩, ⟨_, Tryz.underlying25, rfl⟩⟩
theorem ahE : dE prog 31 (.slice (.int .i64)) := ⟨⟨_, _, Tryz.type31, rfl, by decide, rfl, rfl⟩, ⟨_, Tryz.underlying31, rfl⟩⟩
theorem ahF : dE prog 32 (.slice (.int .i64)) := ⟨⟨_, _, Tryz.type32, rfl, by decide, rfl, rfl⟩, ⟨_, Tryz.underlying32, rfl⟩⟩
theorem ahG : dE prog 34 Y0 := ⟨⟨_, _, Tryz.type34, rfl, by decide, rfl, rfl⟩, ⟨_, Tryz.underlying34, rfl⟩⟩
theorem ahH : dE prog 35 (.int .i64) := ⟨⟨_, _, Tryz.type35, rfl, by decide, rfl, rfl⟩, ⟨_, Tryz.underlying35, rfl⟩⟩
theorem ahI : dE prog 44 Y1 := ⟨⟨_, _, Tryz.type44, rfl, by decide, rfl, rfl⟩, ⟨_, Tryz.underlying44, rfl⟩⟩
theorem ahJ : dE prog 47 Y3 := ⟨⟨_, _, Tryz.type47, rfl, by decide, rfl, rfl⟩, ⟨_, Tryz.underlying47, rfl⟩⟩
theorem ahK : dE prog 53 (.arr 2 (.int .i64)) := ⟨⟨_, _, Tryz.type53, rfl, by decide, rfl, rfl⟩, ⟨_, Tryz.underlying53, rfl⟩⟩
theorem ahL : dE prog 55 Y4 := ⟨⟨_, _, Tryz.type55, rfl, by decide, rfl, rfl⟩, ⟨_, Tryz.underlying55, rfl⟩⟩
theorem ahM : dE prog 97 Y5 := ⟨⟨_, _, Tryz.type97, rfl, by decide, rfl, rfl⟩, ⟨_, Tryz.underlying97, rfl⟩⟩
theorem adC : dE prog 137 Y6 := ⟨⟨_, _, Tryz.type137, rfl, by decide, rfl, rfl⟩, ⟨_, Tryz.underlying137, rfl⟩⟩
theorem adD : dE prog 174 Y7 := ⟨⟨_, _, Tryz.type174, rfl, by decide, rfl, rfl⟩, ⟨_, Tryz.underlying174, rfl⟩⟩
theorem adE : dE prog 241 (.arr 10 .str) := ⟨⟨_, _, Tryz.type241, rfl, by decide, rfl, rfl⟩, ⟨_, Tryz.underlying241, rfl⟩⟩
theorem adF : dE prog 269 (.int .u64) := ⟨⟨_, _, Tryz.type269, rfl, by decide, rfl, rfl⟩, ⟨_, Tryz.underlying269, rfl⟩⟩
theorem adG : dE prog 285 Y8 := ⟨⟨_, _, Tryz.type285, rfl, by decide, rfl, rfl⟩, ⟨_, Tryz.underlying285, rfl⟩⟩
def tys : List (Nat × Ty) := [(2, (.int .i64)), (3, (.int .i64)), (9, .str), (25, Y2), (31, (.slice (.int .i64))), (32, (.slice (.int .i64))), (34, Y0), (35, (.int .i64)), (44, Y1), (47, Y3), (53, (.arr 2 (.int .i64))), (55, Y4), (97, Y5), (137, Y6), (174, Y7), (241, (.arr 10 .str)), (269, (.int .u64)), (285, Y8)]
theorem XK : ye prog tys := ⟨QM, ty3, ty9, ahD, ahE, ahF, ahG, ahH, ahI, ahJ, ahK, ahL, ahM, adC, adD, adE, adF, adG, trivial⟩
def ones : List (aj) := [[73, 100, 101, 110, 116, 105, 116, 121], [78, 101, 103], [65, 98, 115], [78, 111, 116], [82, 101, 108, 117], [83, 113, 114, 116], [70, 108, 111, 111, 114], [69, 120, 112], [83, 105, 103, 109, 111, 105, 100], [84, 97, 110, 104]]
def gam : List (Nat × AV) := [(1, .ip (.arr 10 .str) ones)]
noncomputable def e0 : Env := ⟨prog, gam, tys, [], [], none⟩
theorem dW : e0.Good := ⟨⟨Fo XK⟩, KT (by decide), (fun _ h => nomatch h), (fun _ h => nomatch h), (fun _ h => nomatch h)⟩
theorem bX : Tryz.prog.follows .mixedOrders = true := rfl
theorem bS {E : Env} (hE : E.Good) {f : FuncId} {fn : Func} {d : Nat} {l : List (Nat × List Nat)} (hf : E.P.funcs[f]? = some fn) (hc : ∀ (vs : Array Value) (w : World), (callFunc f vs).run E.P w = .ok (.enter f vs) w) (hP : E.P.follows .mixedOrders = true := by exact bX) (h1 : (match fn.body with | some c => cA fn.ntmps c | none => true) = true := by decide +kernel) (h2 : Nat.blt fn.ntmps (2 ^ d) = true := by rfl) : FnE.OK E.P E.gam f (au E fn d l) := jN hE hP hf hc h1 h2
abbrev bE (n : Nat) (g : FnE) : Prop := FnE.OK e0.P e0.gam n g
abbrev bM (n : Nat) (g : FnE) : Prop := FnE.OK Tryz.prog (Env.gam e0) n g
abbrev bk := List Y1.den
abbrev cg := List Y3.den
abbrev ay (l : List AV) : Option (aq × LHp) := some (.ret l, [])
abbrev aV : Option (aq × LHp) := some (.panic 131 4, [])
noncomputable def x99 : FnE := au e0 f99 6 []
theorem XL : bM 99 x99 := bS dW func99 call99
noncomputable def e1 : Env := e0.add 99 x99
theorem Fu : e1.Good := Env.Good.add dW XL
noncomputable def x98 : FnE := au e1 f98 4 []
theorem XM : bM 98 x98 := bS Fu func98 call98
noncomputable def e2 : Env := e1.add 98 x98
theorem yu : e2.Good := Env.Good.add Fu XM
noncomputable def adH : FnE := au e2 f109 3 []
theorem QN : bM 109 adH := bS yu func109 call109
noncomputable def e3 : Env := e2.add 109 adH
theorem Fv : e3.Good := Env.Good.add yu QN
noncomputable def adI : FnE := au e3 f156 5 [(2, [0, 1, 7, 8])]
theorem QO : bM 156 adI := bS Fv func156 call156
noncomputable def e4 : Env := e3.add 156 adI
theorem Fw : e4.Good := Env.Good.add Fv QO
noncomputable def adJ : FnE := au e4 f108 4 []
theorem QP : bM 108 adJ := bS Fw func108 call108
noncomputable def e5 : Env := e4.add 108 adJ
theorem Fx : e5.Good := Env.Good.add Fw QP
noncomputable def x60 : FnE := au e5 f60 5 [(7, [4, 12, 13, 14])]
theorem Lk : bM 60 x60 := bS Fx func60 call60
noncomputable def e6 : Env := e5.add 60 x60
theorem yv : e6.Good := Env.Good.add Fx Lk
noncomputable def adK : FnE := au e6 f160 4 []
theorem QQ : bM 160 adK := bS yv func160 call160
noncomputable def e7 : Env := e6.add 160 adK
theorem Fy : e7.Good := Env.Good.add yv QQ
noncomputable def x49 : FnE := au e7 f49 5 [(2, [0, 1, 7, 8])]
theorem XN : bM 49 x49 := bS Fy func49 call49
noncomputable def e8 : Env := e7.add 49 x49
theorem Fz : e8.Good := Env.Good.add Fy XN
noncomputable def adL : FnE := au e8 f112 3 []
theorem QR : bM 112 adL := bS Fz func112 call112
noncomputable def e9 : Env := e8.add 112 adL
theorem FA : e9.Good := Env.Good.add Fz QR
noncomputable def x64 : FnE := au e9 f64 5 []
theorem XO : bM 64 x64 := bS FA func64 call64
noncomputable def e10 : Env := e9.add 64 x64
theorem Ba : e10.Good := Env.Good.add FA XO
theorem Wb (w : World) (c : Nat) : Calls prog 107 #[.slice none 0 c] w fun e w' => e = .returned (.slice none 0 0) /\ w' = w := by
 have q : ∀ (w : World) (a : Option Addr) (n c n' c' : Nat), (binOp .eql 31 (.slice a n c) (.slice none n' c')).run prog w = .ok (.bool a.isNone) w := fun w a n c n' c' => Go.Lib.run_eql_slice_nil w _ _ a n c n' c' Tryz.underlying31
 go_enter func107, Tryz.ntmps107
 go_wp2
 go_ret
 exact ⟨rfl, rfl⟩
theorem Wc (w : World) (a : Addr) (c : Nat) : Calls prog 107 #[.slice (some a) 0 c] w fun e w' => (∃ b, e = .returned (.slice b 0 0)) /\ ∃ o, w' = w.alloc o := by
 have q : ∀ (w : World) (a : Option Addr) (n c n' c' : Nat), (binOp .eql 31 (.slice a n c) (.slice none n' c')).run prog w = .ok (.bool a.isNone) w := fun w a n c n' c' => Go.Lib.run_eql_slice_nil w _ _ a n c n' c' Tryz.underlying31
 go_enter func107, Tryz.ntmps107
 go_wp2
 go_ret
 exact ⟨⟨_, rfl⟩, ⟨_, rfl⟩⟩
noncomputable def ahO : FnE := au e10 f107 4 []
noncomputable def adM : FnE := oy ahO
theorem QS : bM 107 adM := np (bS Ba func107 call107) call107 Wb Wc
noncomputable def e11 : Env := e10.add 107 adM
theorem Bb : e11.Good := Env.Good.add Ba QS
theorem adN (w : World) (c : Nat) : Calls prog 40 #[.slice none 0 c] w fun e w' => e = .returned (.slice none 0 0) /\ w' = w := by
 have q : ∀ (w : World) (a : Option Addr) (n c n' c' : Nat), (binOp .eql 32 (.slice a n c) (.slice none n' c')).run prog w = .ok (.bool a.isNone) w := fun w a n c n' c' => Go.Lib.run_eql_slice_nil w _ _ a n c n' c' Tryz.underlying32
 go_enter func40, Tryz.ntmps40
 go_wp2
 go_ret
 exact ⟨rfl, rfl⟩
theorem adO (w : World) (a : Addr) (c : Nat) : Calls prog 40 #[.slice (some a) 0 c] w fun e w' => (∃ b, e = .returned (.slice b 0 0)) /\ ∃ o, w' = w.alloc o := by
 have q : ∀ (w : World) (a : Option Addr) (n c n' c' : Nat), (binOp .eql 32 (.slice a n c) (.slice none n' c')).run prog w = .ok (.bool a.isNone) w := fun w a n c n' c' => Go.Lib.run_eql_slice_nil w _ _ a n c n' c' Tryz.underlying32
 go_enter func40, Tryz.ntmps40
 go_wp2
 go_ret
 exact ⟨⟨_, rfl⟩, ⟨_, rfl⟩⟩
noncomputable def b40 : FnE := au e11 f40 4 []
noncomputable def x40 : FnE := oy b40
theorem XP : bM 40 x40 := np (bS Bb func40 call40) call40 adN adO
noncomputable def e12 : Env := e11.add 40 x40
theorem Bc : e12.Good := Env.Good.add Bb XP
noncomputable def adP : FnE := au e12 f257 5 []
theorem QT : bM 257 adP := bS Bc func257 call257
noncomputable def e13 : Env := e12.add 257 adP
theorem Ll : e13.Good := Env.Good.add Bc QT
noncomputable def adQ : FnE := au e13 f220 6 [(3, [0, 3, 9, 10, 11]), (11, [6, 25, 26, 27])]
theorem yw : bM 220 adQ := bS Ll func220 call220
end
end Go.Proofs.XRT
set_option maxRecDepth 100000
set_option maxHeartbeats 4000000
namespace Go.Proofs.XRT
open Go.Vm Go Tryz IntKind
noncomputable section
noncomputable def Ed : Code := bD f156
noncomputable def zc1 : Code := cL (cL (cR (cL (cR Ed))))
noncomputable def iC : Cfg := ⟨19, 5, 0, [(2, [0, 1, 7, 8])], true⟩
noncomputable def FB : Code := bD f60
noncomputable def zc2 : Code := cL (cL (cR (cL (cR (cR (cR (cR FB)))))))
noncomputable def iL : Cfg := ⟨27, 5, 0, [(7, [4, 12, 13, 14])], true⟩
noncomputable def Ee : Code := bD f140
noncomputable def zc3 : Code := cL (cL (cR (cL (cR Ee))))
noncomputable def iD : Cfg := ⟨19, 5, 1, [(2, [0, 1, 7, 8])], true⟩
def bz (t x : Int) : Bool :=
 bif t == 1 then
  bif i64.wrap (Int.ofNat (BitVec.ofInt 64 x &&& BitVec.ofNat 64 2139095040).toNat) == 2139095040 then
   bif x.fdiv 4294967296 == 0 then
    bif !i64.wrap (Int.ofNat (BitVec.ofInt 64 x &&& BitVec.ofNat 64 8388607).toNat) != 0 then true else x == 2143289344
   else false
  else
   bif x.fdiv 4294967296 == 0 then true else false
 else
  bif t == 6 then x == i64.wrap (i32.wrap x)
  else
   bif t == 9 then x.fdiv 2 == 0 else t == 7
theorem XQ (t x : Int) : aC e0 f99 6 [] [I t, I x] [] ah = bif t == 1 then bif i64.wrap (Int.ofNat (BitVec.ofInt 64 x &&& 2139095040#64).toNat) == 2139095040 then bif x.fdiv 4294967296 == 0 then bif !i64.wrap (Int.ofNat (BitVec.ofInt 64 x &&& 8388607#64).toNat) != 0 then ay [B true] else ay [B (x == 2143289344)] else ay [B false] else bif x.fdiv 4294967296 == 0 then ay [B true] else ay [B false] else bif t == 6 then ay [B (x == i64.wrap (i32.wrap x))] else bif t == 9 then ay [B (x.fdiv 2 == 0)] else ay [B (t == 7)] := by kernel_rfl
def QU : List AV -> LHp -> Option (aq × LHp)
 | [.d zI t, .d zI x], [] => some (.ret [B (bz t x)], [])
 | _, _ => none
theorem QV (t x : Int) : aC e0 f99 6 [] [I t, I x] [] ah = some (.ret [B (bz t x)], []) := by
 rw [XQ]
 unfold bz
 generalize (t == 1) = c1
 generalize (t == 6) = c2
 generalize (t == 9) = c3
 generalize (i64.wrap (Int.ofNat (BitVec.ofInt 64 x &&& BitVec.ofNat 64 2139095040).toNat) == 2139095040) = c4
 generalize (x.fdiv 4294967296 == 0) = c5
 generalize (!i64.wrap (Int.ofNat (BitVec.ofInt 64 x &&& BitVec.ofNat 64 8388607).toNat) != 0) = c6
 cases c1 <;> cases c2 <;> cases c3 <;> cases c4 <;> cases c5 <;> cases c6 <;> rfl
theorem FC : bE 99 (fnE QU) := by
 refine ic dW bX func99 call99 (depth := 6) (live := []) (by decide +kernel) rfl fun args hs p h => ?_
 unfold QU at h
 split at h
 ·cases h
  exact QV _ _
 ·cases h
theorem QW (d : Int) : aC e2 f109 3 [] [I d] [] ah = ay [B (decide (d < 1))] := by kernel_rfl
def Lm : List AV -> LHp -> Option (aq × LHp)
 | [.d zI d], [] => some (.ret [B (decide (d < 1))], [])
 | _, _ => none
theorem Ln : bE 109 (fnE Lm) := by
 refine ic yu bX func109 call109 (depth := 3) (live := []) (by decide +kernel) rfl fun args hs p h => ?_
 unfold Lm at h
 split at h
 ·cases h
  exact QW _
 ·cases h
noncomputable def eA : Env := e0.add 109 (fnE Lm)
theorem FD : eA.Good := dW.add Ln
def stI (xs : ag) (i : Int) : LSt := ⟨aw 5 [(0, .d (.slice af) xs), (1, .fn (.func 109) [] []), (7, I (Int.ofNat xs.length)), (8, I i)], [], 0⟩
theorem QX (xs : ag) : aC eA f156 5 [(2, [0, 1, 7, 8])] [.d (.slice af) xs, .fn (.func 109) [] []] [] ah = (hlp eA iC) zc1 _ (stI xs 0) (aW 0 (bt eA iC [2] (hlp eA iC) (cR (cR Ed)) (bA prog 0 f156.results.toList ah))) := (bI [2] iC rfl).trans (by obtain ⟨hl, h⟩ := bw eA iC; rw [h]; kernel_rfl)
theorem IB (xs : ag) (i : Int) (n : Nat) {R : Type} (k : AEx -> LSt -> Option R) : lp eA iC zc1 (n + 1) (stI xs i) k = bif decide (i < Int.ofNat xs.length) then (idx xs i).bind fun v1 => bif decide (v1 < 1) then k AEx.ret { fr := aw 5 [(0, AV.d (af).slice xs), (1, AV.fn (Fn.func 109) [] []), (4, I i), (5, I i), (7, I (Int.ofNat xs.length)), (8, I i), (9, B true), (10, I i), (11, AV.fn (Fn.func 109) [] []), (12, AV.d (af).slice xs), (13, I i), (14, AV.ip (af) v1), (15, I v1), (16, B true), (17, I i)], hp := [], nx := 0 } else lp eA iC zc1 n (stI xs (i64.wrap (i + 1))) k else k (AEx.exit 0) { fr := aw 5 [(0, AV.d (af).slice xs), (1, AV.fn (Fn.func 109) [] []), (7, I (Int.ofNat xs.length)), (8, I i), (9, B false)], hp := [], nx := 0 } := by kernel_rfl
theorem Lo (xs : ag) (hl : xs.length <= maxLen) : aC eA f156 5 [(2, [0, 1, 7, 8])] [.d (.slice af) xs, .fn (.func 109) [] []] [] ah = some (.ret [I (bu (fun d => decide (d < 1)) xs)], []) := by
 rw [QX]
 have h := fM (T := fun n s => lp eA iC zc1 n s (aW 0 (bt eA iC [2] (hlp eA iC) (cR (cR Ed)) (bA prog 0 f156.results.toList ah)))) (xs := xs) (st := fun i => stI xs i) hl (fun i n => IB xs i n _)
 unfold stI at h
 refine h.trans ?_
 unfold bu
 cases hq : xs.findIdx? (fun d => decide (d < 1)) with
 | none => show _ = _; kernel_rfl
 | some i =>
  obtain ⟨hi, _⟩ := List.findIdx?_eq_some_iff_getElem.1 hq
  simp only [List.getElem?_eq_getElem hi, aA]
  show _ = _
  kernel_rfl
def Lp : List AV -> LHp -> Tq
 | [.d zS xs, .fn (.func 109) [] []], [] => .br (decide (xs.length <= maxLen)) (.leaf (.ret [I (bu (fun d => decide (d < 1)) xs)]) []) .no
 | _, _ => .no
theorem Lq : bE 156 (ao Lp) := by
 refine cj FD bX func156 call156 (depth := 5) (live := [(2, [0, 1, 7, 8])]) (by decide +kernel) rfl fun args hs p h => ?_
 unfold Lp at h
 split at h
 ·obtain ⟨hl, h⟩ := Tq.br_no h
  cases h
  have hl := aZ hl
  exact Lo _ hl
 ·cases h
def Lr : List AV -> LHp -> Tq
 | [.d zS xs, .fn (.func 109) [] []], [] => .br (decide (xs.length <= maxLen)) (.leaf (.ret [B (decide (bu (fun d => decide (d < 1)) xs >= 0))]) []) .no
 | _, _ => .no
noncomputable def eB : Env := e0.add 156 (ao Lp)
theorem QY : eB.Good := dW.add Lq
theorem QZ (xs : ag) : aC eB f108 4 [] [.d (.slice af) xs, .fn (.func 109) [] []] [] ah = bif decide (xs.length <= 9223372036854775807) then ay [B (decide (bu (fun d => decide (d < 1)) xs >= 0))] else none := by kernel_rfl
theorem Ls : bE 108 (ao Lr) := by
 refine cj QY bX func108 call108 (depth := 4) (live := []) (by decide +kernel) rfl fun args hs p h => ?_
 unfold Lr at h
 split at h
 ·obtain ⟨hl, h⟩ := Tq.br_no h
  cases h
  have hl := aZ hl
  exact ((QZ _).trans (by rw [aE (show _ <= 9223372036854775807 from hl)]; rfl))
 ·cases h
noncomputable def eC : Env := e0.add 108 (ao Lr)
theorem Q0 : eC.Good := dW.add Ls
def stC (xs : ag) (n i : Int) : LSt := ⟨aw 5 [(4, I n), (12, .d (.slice af) xs), (13, I (Int.ofNat xs.length)), (14, I i)], [], 0⟩
noncomputable def KC : AEx -> LSt -> Option (aq × LHp) := (aW 0 (bt eC iL [7] (hlp eC iL) (cR (cR (cR (cR (cR FB))))) (bA prog 0 f60.results.toList ah)))
theorem Lt (xs : ag) : aC eC f60 5 [(7, [4, 12, 13, 14])] [.d (.slice af) xs] [] ah = bif decide (xs.length <= 9223372036854775807) then bif decide (bu (fun d => decide (d < 1)) xs >= 0) then ay [I 0, I 4] else bif decide (Int.ofNat xs.length > 6) then ay [I 0, I 6] else (hlp eC iL) zc2 _ (stC xs 1 0) KC else none := (bI [7] iL rfl).trans (by obtain ⟨hl, h⟩ := bw eC iL; rw [h]; kernel_rfl)
theorem ub (xs : ag) (v i : Int) (n : Nat) {R : Type} (k : AEx -> LSt -> Option R) : lp eC iL zc2 (n + 1) (stC xs v i) k = bif decide (i < Int.ofNat xs.length) then (idx xs i).bind fun v1 => (if v = 0 then none else some (i64.wrap (Int.tdiv 65536 v))).bind fun v2 => bif decide (v1 > v2) then k AEx.ret { fr := aw 5 [(2, I 0), (3, I 6), (4, I v), (6, I v1), (12, AV.d (af).slice xs), (13, I (Int.ofNat xs.length)), (14, I i), (15, B true), (16, AV.ip (af) v1), (17, I v1), (18, I v1), (19, I v), (20, I v2), (21, B true)], hp := [], nx := 0 } else lp eC iL zc2 n (stC xs (i64.wrap (v * v1)) (i64.wrap (i + 1))) k else k (AEx.exit 0) { fr := aw 5 [(4, I v), (12, AV.d (af).slice xs), (13, I (Int.ofNat xs.length)), (14, I i), (15, B false)], hp := [], nx := 0 } := by kernel_rfl
def cG (xs : ag) : Int := xs.foldl (· * ·) 1
theorem fe {xs : ag} {i : Nat} {x : Int} (h : xs[i]? = some x) : cG (xs.take (i + 1)) = cG (xs.take i) * x := by
 unfold cG
 rw [List.take_add_one, h, List.foldl_append]
 rfl
theorem qy {xs : ag} (h : ∀ x ∈ xs, 1 <= x) : ∀ i, 1 <= cG (xs.take i) := by
 intro i
 induction i with
 | zero => simp [cG]
 | succ i ih =>
  cases hx : xs[i]? with
  | none =>
   have : xs.length <= i := List.getElem?_eq_none_iff.1 hx
   rw [List.take_of_length_le (by omega)]
   rw [List.take_of_length_le (by omega)] at ih
   exact ih
  | some x =>
   rw [fe hx]
   have h1 := h x (List.mem_of_getElem? hx)
   have := Int.mul_le_mul ih h1 (by omega) (by omega)
   omega
theorem uc {xs : ag} (h : ∀ x ∈ xs, 1 <= x) {i : Nat} : ∀ k, cG (xs.take i) <= cG (xs.take (i + k)) := by
 intro k
 induction k with
 | zero => exact Int.le_refl _
 | succ k ih =>
  cases hx : xs[i + k]? with
  | none =>
   have : xs.length <= i + k := List.getElem?_eq_none_iff.1 hx
   rw [List.take_of_length_le (l := xs) (i := i + (k + 1)) (by omega)]
   rw [List.take_of_length_le (l := xs) (i := i + k) (by omega)] at ih
   exact ih
  | some x =>
   rw [← Nat.add_assoc, fe hx]
   have h1 := h x (List.mem_of_getElem? hx)
   have h2 := qy h (i + k)
   have := Int.mul_le_mul_of_nonneg_left h1 (show 0 <= cG (xs.take (i + k)) by omega)
   omega
theorem r9 {n v : Int} (hn : 1 <= n) : (v > Int.tdiv 65536 n) ↔ (n * v > 65536) := by
 rw [Int.tdiv_eq_ediv_of_nonneg (by omega)]
 constructor
 ·intro h
  have h1 := (Int.ediv_lt_iff_lt_mul (by omega)).1 h
  rw [Int.mul_comm] at h1
  exact h1
 ·intro h
  rw [Int.mul_comm] at h
  exact (Int.ediv_lt_iff_lt_mul (by omega)).2 h
theorem XR (xs : ag) (n i x v : Int) : KC AEx.ret { fr := aw 5 [(2, I 0), (3, I 6), (4, I n), (6, I x), (12, AV.d (af).slice xs), (13, I (Int.ofNat xs.length)), (14, I i), (15, B true), (16, AV.ip (af) x), (17, I x), (18, I x), (19, I n), (20, I v), (21, B true)], hp := [], nx := 0 } = some (.ret [I 0, I 6], []) := by kernel_rfl
theorem Q1 (xs : ag) (n i : Int) : KC (AEx.exit 0) { fr := aw 5 [(4, I n), (12, AV.d (af).slice xs), (13, I (Int.ofNat xs.length)), (14, I i), (15, B false)], hp := [], nx := 0 } = some (.ret [I n, I 0], []) := by kernel_rfl
def qz (xs : ag) : Bool := decide (cG xs > 65536)
theorem Ef {xs : ag} (hp : ∀ x ∈ xs, 1 <= x) (hl : xs.length <= 6) : ∀ (k i m : Nat), i + k = xs.length -> k < m -> cG (xs.take i) <= 65536 ->
  lp eC iL zc2 m (stC xs (cG (xs.take i)) i) KC = some (.ret (bif qz xs then [I 0, I 6] else [I (cG xs), I 0]), []) := by
 intro k
 induction k with
 | zero =>
  intro i m hi hm hP
  obtain ⟨m, rfl⟩ : ∃ m', m = m' + 1 := ⟨m - 1, by omega⟩
  rw [ub, de (show ¬ ((i : Int) < Int.ofNat xs.length) from by rw [show i = xs.length by omega]; exact Int.lt_irrefl _)]
  simp only [ax]
  rw [Q1]
  have e : xs.take i = xs := List.take_of_length_le (by omega)
  rw [e] at hP ⊢
  unfold qz
  rw [de (by omega)]
  rfl
 | succ k ih =>
  intro i m hi hm hP
  obtain ⟨m, rfl⟩ : ∃ m', m = m' + 1 := ⟨m - 1, by omega⟩
  have cn : i < xs.length := by omega
  have hx : xs[i]? = some xs[i] := List.getElem?_eq_getElem cn
  have hidx : idx xs (i : Int) = some xs[i] := by unfold idx; rw [if_pos (by omega), Int.toNat_natCast, hx]
  have h1 := qy hp i
  have sA := hp xs[i] (List.getElem_mem cn)
  have hq0 : 0 <= Int.tdiv 65536 (cG (xs.take i)) := by
   rw [Int.tdiv_eq_ediv_of_nonneg (by omega)]; exact Int.ediv_nonneg (by omega) (by omega)
  have hq1 : Int.tdiv 65536 (cG (xs.take i)) <= 65536 := by
   rw [Int.tdiv_eq_ediv_of_nonneg (by omega)]; exact Int.ediv_le_self _ (by omega)
  rw [ub, aE (show (i : Int) < Int.ofNat xs.length from Int.ofNat_lt.2 cn), hidx, if_neg (by omega), aJ (by omega) (by omega)]
  simp only [ak, aA]
  by_cases hb : cG (xs.take i) * xs[i] > 65536
  ·rw [aE ((r9 h1).2 hb)]
   simp only [ak]
   rw [XR]
   have hm2 := uc hp (i := i + 1) (xs.length - (i + 1))
   rw [fe hx, show i + 1 + (xs.length - (i + 1)) = xs.length by omega, List.take_length] at hm2
   unfold qz
   rw [aE (by omega)]
   rfl
  ·rw [de (fun h => hb ((r9 h1).1 h))]
   simp only [ax]
   have hm0 : 0 <= cG (xs.take i) * xs[i] := Int.mul_nonneg (by omega) (by omega)
   have := ih (i + 1) m (by omega) (by omega) (by rw [fe hx]; omega)
   rw [fe hx] at this
   unfold stC at this
   rw [aJ (n := cG (xs.take i) * xs[i]) (by omega) (by omega), aJ (n := (i : Int) + 1) (by omega) (by omega)]
   exact this
def aB (xs : ag) : Int := bif decide (bu (fun d => decide (d < 1)) xs >= 0) then 4 else bif decide (Int.ofNat xs.length > 6) then 6 else bif qz xs then 6 else 0
def aR (xs : ag) : Int := bif decide (bu (fun d => decide (d < 1)) xs >= 0) then 0 else bif decide (Int.ofNat xs.length > 6) then 0 else bif qz xs then 0 else cG xs
theorem IC (xs : ag) (hl : xs.length <= maxLen) : aC eC f60 5 [(7, [4, 12, 13, 14])] [.d (.slice af) xs] [] ah = some (.ret [I (aR xs), I (aB xs)], []) := by
 rw [Lt, aE (show xs.length <= 9223372036854775807 from hl)]
 unfold aR aB
 cases h1 : decide (bu (fun d => decide (d < 1)) xs >= 0) with
 | true => rfl
 | false =>
  cases h2 : decide (Int.ofNat xs.length > 6) with
  | true => rfl
  | false =>
   simp only [ak, ax]
   have hp : ∀ x ∈ xs, 1 <= x := fun x hx => by
    rw [pf, List.any_eq_false] at h1
    have := h1 x hx
    simp only [decide_eq_true_eq] at this
    omega
   have hl6 : xs.length <= 6 := by
    have := rq h2
    have e : Int.ofNat xs.length = (xs.length : Int) := rfl
    omega
   have key := Ef hp hl6 xs.length 0 fu (by omega) (by unfold fu; omega) (by simp [cG])
   unfold stC KC at key
   simp only [List.take_zero] at key
   refine Eq.trans key ?_
   cases qz xs <;> rfl
def yx : List AV -> LHp -> Tq
 | [.d zS xs], [] => .br (decide (xs.length <= maxLen)) (.leaf (.ret [I (aR xs), I (aB xs)]) []) .no
 | _, _ => .no
theorem qA : bE 60 (ao yx) := by
 refine cj Q0 bX func60 call60 (depth := 5) (live := [(7, [4, 12, 13, 14])]) (by decide +kernel) rfl fun args hs p h => ?_
 unfold yx at h
 split at h
 ·obtain ⟨hl, h⟩ := Tq.br_no h
  cases h
  have hl := aZ hl
  exact IC _ hl
 ·cases h
noncomputable def eD : Env := e0.add 99 (fnE QU)
theorem FE : eD.Good := dW.add FC
theorem Lu (t : Int) : aC eD f96 3 [] [I t] [] ah = ay [B (bz t 0)] := by kernel_rfl
def Eg : List AV -> LHp -> Option (aq × LHp)
 | [.d zI t], [] => some (.ret [B (bz t 0)], [])
 | _, _ => none
theorem ID : bE 96 (fnE Eg) := by
 refine ic FE bX func96 call96 (depth := 3) (live := []) (by decide +kernel) rfl fun args hs p h => ?_
 unfold Eg at h
 split at h
 ·cases h
  exact Lu _
 ·cases h
def PK (t : Int) (dims data : ag) : LHp := [(0, .box (.d (Y0) (t, dims, data, ())))]
theorem Q2 (x t : Int) (dims data : ag) : aC eD f98 4 [] [I x, .op 0 [] 0] (PK t dims data) ah = some (aq.ret [B !bz t x], [(0, al.box (AV.d Y0 (t, dims, data, PUnit.unit)))]) := by kernel_rfl
def Lv : List AV -> LHp -> Option (aq × LHp)
 | [.d zI x, .op 0 [] 0], [(0, .box (.d Y0 (t, dims, data, _)))] => some (.ret [B (!bz t x)], PK t dims data)
 | _, _ => none
theorem Lw : bE 98 (fnE Lv) := by
 refine ic FE bX func98 call98 (depth := 4) (live := []) (by decide +kernel) rfl fun args hs p h => ?_
 unfold Lv at h
 split at h
 ·cases h
  exact Q2 _ _ _ _
 ·cases h
noncomputable def eF : Env := e0.add 98 (fnE Lv)
theorem Q3 : eF.Good := dW.add Lw
def stL (xs : ag) (t : Int) (dims data : ag) (i : Int) : LSt := ⟨aw 5 [(0, .d (.slice af) xs), (1, .fn (.func 98) [] [.op 0 [] 0]), (7, I (Int.ofNat xs.length)), (8, I i)], PK t dims data, 2⟩
theorem Q4 (xs : ag) (t : Int) (dims data : ag) : aC eF f140 5 [(2, [0, 1, 7, 8])] [.d (.slice af) xs, .fn (.func 98) [] [.op 0 [] 0]] (PK t dims data) ah = (hlp eF iD) zc3 _ (stL xs t dims data 0) (aW 0 (bt eF iD [2] (hlp eF iD) (cR (cR Ee)) (bA prog 1 f140.results.toList ah))) := (bI [2] iD rfl).trans (by obtain ⟨hl, h⟩ := bw eF iD; rw [h]; kernel_rfl)
theorem IE (xs : ag) (t : Int) (dims data : ag) (i : Int) (n : Nat) {R : Type} (k : AEx -> LSt -> Option R) : lp eF iD zc3 (n + 1) (stL xs t dims data i) k = bif decide (i < Int.ofNat xs.length) then (idx xs i).bind fun v1 => bif !bz t v1 then k AEx.ret { fr := aw 5 [(0, AV.d (af).slice xs), (1, AV.fn (Fn.func 98) [] [AV.op 0 [] 0]), (4, I i), (5, I i), (7, I (Int.ofNat xs.length)), (8, I i), (9, B true), (10, I i), (11, AV.fn (Fn.func 98) [] [AV.op 0 [] 0]), (12, AV.d (af).slice xs), (13, I i), (14, AV.ip (af) v1), (15, I v1), (16, B true), (17, I i)], hp := [(0, al.box (AV.d Y0 (t, dims, data, PUnit.unit))), (0, al.box (AV.d Y0 (t, dims, data, PUnit.unit)))], nx := 3 } else lp eF iD zc3 n (stL xs t dims data (i64.wrap (i + 1))) k else k (AEx.exit 0) { fr := aw 5 [(0, AV.d (af).slice xs), (1, AV.fn (Fn.func 98) [] [AV.op 0 [] 0]), (7, I (Int.ofNat xs.length)), (8, I i), (9, B false)], hp := [(0, al.box (AV.d Y0 (t, dims, data, PUnit.unit)))], nx := 2 } := by kernel_rfl
theorem Lx (xs : ag) (t : Int) (dims data : ag) (hl : xs.length <= maxLen) : aC eF f140 5 [(2, [0, 1, 7, 8])] [.d (.slice af) xs, .fn (.func 98) [] [.op 0 [] 0]] (PK t dims data) ah = some (.ret [I (bu (fun x => !bz t x) xs)], PK t dims data) := by
 rw [Q4]
 have h := fM (T := fun n s => lp eF iD zc3 n s (aW 0 (bt eF iD [2] (hlp eF iD) (cR (cR Ee)) (bA prog 1 f140.results.toList ah)))) (xs := xs) (st := fun i => stL xs t dims data i) hl (fun i n => IE xs t dims data i n _)
 unfold stL PK at h
 refine h.trans ?_
 unfold bu
 cases hq : xs.findIdx? (fun x => !bz t x) with
 | none => show _ = _; kernel_rfl
 | some i =>
  obtain ⟨hi, _⟩ := List.findIdx?_eq_some_iff_getElem.1 hq
  simp only [List.getElem?_eq_getElem hi, aA]
  show _ = _
  kernel_rfl
def Ly : List AV -> LHp -> Tq
 | [.d zS xs, .fn (.func 98) [] [.op 0 [] 0]], [(0, .box (.d Y0 (t, dims, data, _)))] => .br (decide (xs.length <= maxLen)) (.leaf (.ret [I (bu (fun x => !bz t x) xs)]) (PK t dims data)) .no
 | _, _ => .no
theorem Lz : bE 140 (ao Ly) := by
 refine cj Q3 bX func140 call140 (depth := 5) (live := [(2, [0, 1, 7, 8])]) (by decide +kernel) rfl fun args hs p h => ?_
 unfold Ly at h
 split at h
 ·obtain ⟨hl, h⟩ := Tq.br_no h
  cases h
  have hl := aZ hl
  exact Lx _ _ _ _ hl
 ·cases h
noncomputable def eG : Env := e0.add 140 (ao Ly)
theorem Q5 : eG.Good := dW.add Lz
theorem Q6 (xs : ag) (t : Int) (dims data : ag) : aC eG f97 4 [] [.d (.slice af) xs, .fn (.func 98) [] [.op 0 [] 0]] (PK t dims data) ah = bif decide (xs.length <= 9223372036854775807) then some (aq.ret [B (decide (bu (fun x => !bz t x) xs >= 0))], [(0, al.box (AV.d Y0 (t, dims, data, PUnit.unit)))]) else none := by kernel_rfl
def LA : List AV -> LHp -> Tq
 | [.d zS xs, .fn (.func 98) [] [.op 0 [] 0]], [(0, .box (.d Y0 (t, dims, data, _)))] => .br (decide (xs.length <= maxLen)) (.leaf (.ret [B (xs.any fun x => !bz t x)]) (PK t dims data)) .no
 | _, _ => .no
theorem LB : bE 97 (ao LA) := by
 refine cj Q5 bX func97 call97 (depth := 4) (live := []) (by decide +kernel) rfl fun args hs p h => ?_
 unfold LA at h
 split at h
 ·obtain ⟨hl, h⟩ := Tq.br_no h
  cases h
  have hl := aZ hl
  exact ((Q6 _ _ _ _).trans (by rw [aE (show _ <= 9223372036854775807 from hl), pf]; rfl))
 ·cases h
noncomputable def eH : Env := ((e0.add 96 (fnE Eg)).add 60 (ao yx)).add 97 (ao LA)
theorem Q7 : eH.Good := ((dW.add ID).add qA).add LB
theorem XS (t : Int) (dims data : ag) : aC eH f57 5 [] [.d (Y0) (t, dims, data, ())] [] ah = bif !bz t 0 then ay [I 5] else bif decide (dims.length <= 9223372036854775807) then bif aB dims != 0 then ay [I (aB dims)] else bif Int.ofNat data.length != aR dims then ay [I 4] else bif decide (data.length <= 9223372036854775807) then bif data.any fun x => !bz t x then ay [I 4] else ay [I 0] else none else none := by kernel_rfl
def gG (t : Int) (dims data : ag) : Int := bif !bz t 0 then 5 else bif aB dims != 0 then aB dims else bif Int.ofNat data.length != aR dims then 4 else bif data.any (fun x => !bz t x) then 4 else 0
def adS : List AV -> LHp -> Tq
 | [.d Y0 (t, dims, data, _)], [] => .br (decide (dims.length <= maxLen /\ data.length <= maxLen)) (.leaf (.ret [I (gG t dims data)]) []) .no
 | _, _ => .no
theorem Q8 (t : Int) (dims data : ag) (h : dims.length <= maxLen /\ data.length <= maxLen) : aC eH f57 5 [] [.d (Y0) (t, dims, data, ())] [] ah = some (.ret [I (gG t dims data)], []) := by
 rw [XS, aE (show dims.length <= 9223372036854775807 from h.1), aE (show data.length <= 9223372036854775807 from h.2)]
 unfold gG
 cases !bz t 0 <;> cases aB dims != 0 <;> cases Int.ofNat data.length != aR dims <;> cases data.any (fun x => !bz t x) <;> rfl
theorem FF : bE 57 (ao adS) := by
 refine cj Q7 bX func57 call57 (depth := 5) (live := []) (by decide +kernel) rfl fun args hs p h => ?_
 unfold adS at h
 split at h
 ·obtain ⟨hl, h⟩ := Tq.br_no h
  cases h
  have hl := aZ hl
  exact Q8 _ _ _ hl
 ·cases h
noncomputable def yy : Code := bD f156
noncomputable def zc4 : Code := cL (cL (cR (cL (cR yy))))
noncomputable def fN : Cfg := ⟨19, 5, 1, [(2, [0, 1, 7, 8])], true⟩
noncomputable def LC : Code := bD f60
noncomputable def zc5 : Code := cL (cL (cR (cL (cR (cR (cR (cR LC)))))))
noncomputable def kt : Cfg := ⟨27, 5, 1, [(7, [4, 12, 13, 14])], true⟩
theorem adT {α R : Type} {xs : List α} {i : Int} {f : α -> Option R} : ((idx xs i).bind fun _ => (xs[i.toNat]?).bind f) = (idx xs i).bind f := by
 unfold idx
 split
 ·cases xs[i.toNat]? <;> rfl
 ·rfl
def zF (z : Bool) (xs : ag) : LHp := [(0, .arr 3 af 0 z xs)]
def LD (z : Bool) (xs : ag) (i : Int) : LSt := ⟨aw 5 [(0, .os 0 0), (1, .fn (.func 109) [] []), (7, I (Int.ofNat xs.length)), (8, I i)], zF z xs, 2⟩
theorem Q9 (z : Bool) (xs : ag) : aC eA f156 5 [(2, [0, 1, 7, 8])] [.os 0 0, .fn (.func 109) [] []] (zF z xs) ah = (hlp eA fN) zc4 _ (LD z xs 0) (aW 0 (bt eA fN [2] (hlp eA fN) (cR (cR yy)) (bA prog 1 f156.results.toList ah))) := (bI [2] fN rfl).trans (by obtain ⟨hl, h⟩ := bw eA fN; rw [h]; kernel_rfl)
theorem IF (z : Bool) (xs : ag) (i : Int) (n : Nat) {R : Type} (k : AEx -> LSt -> Option R) : lp eA fN zc4 (n + 1) (LD z xs i) k = bif decide (i < Int.ofNat xs.length) then (idx xs i).bind fun v1 => (xs[i.toNat]?).bind fun v2 => bif decide (v2 < 1) then k AEx.ret { fr := aw 5 [(0, AV.os 0 0), (1, AV.fn (Fn.func 109) [] []), (4, I i), (5, I i), (7, I (Int.ofNat xs.length)), (8, I i), (9, B true), (10, I i), (11, AV.fn (Fn.func 109) [] []), (12, AV.os 0 0), (13, I i), (14, AV.oe 0 0 i.toNat), (15, I v2), (16, B true), (17, I i)], hp := [(0, al.arr 3 (af) 0 z xs)], nx := 2 } else lp eA fN zc4 n (LD z xs (i64.wrap (i + 1))) k else k (AEx.exit 0) { fr := aw 5 [(0, AV.os 0 0), (1, AV.fn (Fn.func 109) [] []), (7, I (Int.ofNat xs.length)), (8, I i), (9, B false)], hp := [(0, al.arr 3 (af) 0 z xs)], nx := 2 } := by kernel_rfl
theorem LF (z : Bool) (xs : ag) (hl : xs.length <= maxLen) : aC eA f156 5 [(2, [0, 1, 7, 8])] [.os 0 0, .fn (.func 109) [] []] (zF z xs) ah = some (.ret [I (bu (fun d => decide (d < 1)) xs)], zF z xs) := by
 rw [Q9]
 have hs := fun (i : Int) (n : Nat) => IF z xs i n (aW 0 (bt eA fN [2] (hlp eA fN) (cR (cR yy)) (bA prog 1 f156.results.toList ah)))
 simp only [adT] at hs
 have h := fM (T := fun n s => lp eA fN zc4 n s (aW 0 (bt eA fN [2] (hlp eA fN) (cR (cR yy)) (bA prog 1 f156.results.toList ah)))) (xs := xs) (st := fun i => LD z xs i) hl hs
 unfold LD zF at h
 refine h.trans ?_
 unfold bu
 cases hq : xs.findIdx? (fun d => decide (d < 1)) with
 | none => show _ = _; kernel_rfl
 | some i =>
  obtain ⟨hi, _⟩ := List.findIdx?_eq_some_iff_getElem.1 hq
  simp only [List.getElem?_eq_getElem hi, aA]
  show _ = _
  kernel_rfl
def LG : List AV -> LHp -> Tq
 | [.os 0 0, .fn (.func 109) [] []], [(0, .arr 3 zI 0 z xs)] => .br (decide (xs.length <= maxLen)) (.leaf (.ret [I (bu (fun d => decide (d < 1)) xs)]) (zF z xs)) .no
 | _, _ => .no
theorem LH : bE 156 (ao LG) := by
 refine cj FD bX func156 call156 (depth := 5) (live := [(2, [0, 1, 7, 8])]) (by decide +kernel) rfl fun args hs p h => ?_
 unfold LG at h
 split at h
 ·obtain ⟨hl, h⟩ := Tq.br_no h
  cases h
  have hl := aZ hl
  exact LF _ _ hl
 ·cases h
noncomputable def eBo : Env := e0.add 156 (ao LG)
theorem LI : eBo.Good := dW.add LH
theorem Ra (z : Bool) (xs : ag) : aC eBo f108 4 [] [.os 0 0, .fn (.func 109) [] []] (zF z xs) ah = bif decide (xs.length <= 9223372036854775807) then some (aq.ret [B (decide (bu (fun d => decide (d < 1)) xs >= 0))], [(0, al.arr 3 (af) 0 z xs)]) else none := by kernel_rfl
def LJ : List AV -> LHp -> Tq
 | [.os 0 0, .fn (.func 109) [] []], [(0, .arr 3 zI 0 z xs)] => .br (decide (xs.length <= maxLen)) (.leaf (.ret [B (decide (bu (fun d => decide (d < 1)) xs >= 0))]) (zF z xs)) .no
 | _, _ => .no
theorem LK : bE 108 (ao LJ) := by
 refine cj LI bX func108 call108 (depth := 4) (live := []) (by decide +kernel) rfl fun args hs p h => ?_
 unfold LJ at h
 split at h
 ·obtain ⟨hl, h⟩ := Tq.br_no h
  cases h
  have hl := aZ hl
  exact ((Ra _ _).trans (by rw [aE (show _ <= 9223372036854775807 from hl)]; rfl))
 ·cases h
noncomputable def PL : Env := e0.add 108 (ao LJ)
theorem LL : PL.Good := dW.add LK
def IG (z : Bool) (xs : ag) (n i : Int) : LSt := ⟨aw 5 [(4, I n), (12, .os 0 0), (13, I (Int.ofNat xs.length)), (14, I i)], zF z xs, 2⟩
noncomputable def KCo : AEx -> LSt -> Option (aq × LHp) := (aW 0 (bt PL kt [7] (hlp PL kt) (cR (cR (cR (cR (cR LC))))) (bA prog 1 f60.results.toList ah)))
theorem Rb (z : Bool) (xs : ag) : aC PL f60 5 [(7, [4, 12, 13, 14])] [.os 0 0] (zF z xs) ah = bif decide (xs.length <= 9223372036854775807) then bif decide (bu (fun d => decide (d < 1)) xs >= 0) then some (aq.ret [I 0, I 4], [(0, al.arr 3 (af) 0 z xs)]) else bif decide (Int.ofNat xs.length > 6) then some (aq.ret [I 0, I 6], [(0, al.arr 3 (af) 0 z xs)]) else (hlp PL kt) zc5 _ (IG z xs 1 0) KCo else none := (bI [7] kt rfl).trans (by obtain ⟨hl, h⟩ := bw PL kt; rw [h]; kernel_rfl)
theorem wT (z : Bool) (xs : ag) (v i : Int) (n : Nat) {R : Type} (k : AEx -> LSt -> Option R) : lp PL kt zc5 (n + 1) (IG z xs v i) k = bif decide (i < Int.ofNat xs.length) then (idx xs i).bind fun v1 => (xs[i.toNat]?).bind fun v2 => (if v = 0 then none else some (i64.wrap (Int.tdiv 65536 v))).bind fun v3 => bif decide (v2 > v3) then k AEx.ret { fr := aw 5 [(2, I 0), (3, I 6), (4, I v), (6, I v2), (12, AV.os 0 0), (13, I (Int.ofNat xs.length)), (14, I i), (15, B true), (16, AV.oe 0 0 i.toNat), (17, I v2), (18, I v2), (19, I v), (20, I v3), (21, B true)], hp := [(0, al.arr 3 (af) 0 z xs)], nx := 2 } else lp PL kt zc5 n (IG z xs (i64.wrap (v * v2)) (i64.wrap (i + 1))) k else k (AEx.exit 0) { fr := aw 5 [(4, I v), (12, AV.os 0 0), (13, I (Int.ofNat xs.length)), (14, I i), (15, B false)], hp := [(0, al.arr 3 (af) 0 z xs)], nx := 2 } := by kernel_rfl
theorem Rc (z : Bool) (xs : ag) (n i x v : Int) (j : Nat) : KCo AEx.ret { fr := aw 5 [(2, I 0), (3, I 6), (4, I n), (6, I x), (12, AV.os 0 0), (13, I (Int.ofNat xs.length)), (14, I i), (15, B true), (16, AV.oe 0 0 j), (17, I x), (18, I x), (19, I n), (20, I v), (21, B true)], hp := zF z xs, nx := 2 } = some (.ret [I 0, I 6], zF z xs) := by kernel_rfl
theorem LM (z : Bool) (xs : ag) (n i : Int) : KCo (AEx.exit 0) { fr := aw 5 [(4, I n), (12, AV.os 0 0), (13, I (Int.ofNat xs.length)), (14, I i), (15, B false)], hp := zF z xs, nx := 2 } = some (.ret [I n, I 0], zF z xs) := by kernel_rfl
theorem IH {z : Bool} {xs : ag} (hp : ∀ x ∈ xs, 1 <= x) (hl : xs.length <= 6) : ∀ (k i m : Nat), i + k = xs.length -> k < m -> cG (xs.take i) <= 65536 ->
  lp PL kt zc5 m (IG z xs (cG (xs.take i)) i) KCo = some (.ret (bif qz xs then [I 0, I 6] else [I (cG xs), I 0]), zF z xs) := by
 intro k
 induction k with
 | zero =>
  intro i m hi hm hP
  obtain ⟨m, rfl⟩ : ∃ m', m = m' + 1 := ⟨m - 1, by omega⟩
  rw [wT, de (show ¬ ((i : Int) < Int.ofNat xs.length) from by rw [show i = xs.length by omega]; exact Int.lt_irrefl _)]
  simp only [ax]
  have e : xs.take i = xs := List.take_of_length_le (by omega)
  rw [e] at hP ⊢
  refine (LM z xs _ _).trans ?_
  unfold qz
  rw [de (by omega)]
  rfl
 | succ k ih =>
  intro i m hi hm hP
  obtain ⟨m, rfl⟩ : ∃ m', m = m' + 1 := ⟨m - 1, by omega⟩
  have cn : i < xs.length := by omega
  have hx : xs[i]? = some xs[i] := List.getElem?_eq_getElem cn
  have hidx : idx xs (i : Int) = some xs[i] := by unfold idx; rw [if_pos (by omega), Int.toNat_natCast, hx]
  have h1 := qy hp i
  have sA := hp xs[i] (List.getElem_mem cn)
  have hq0 : 0 <= Int.tdiv 65536 (cG (xs.take i)) := by
   rw [Int.tdiv_eq_ediv_of_nonneg (by omega)]; exact Int.ediv_nonneg (by omega) (by omega)
  have hq1 : Int.tdiv 65536 (cG (xs.take i)) <= 65536 := by
   rw [Int.tdiv_eq_ediv_of_nonneg (by omega)]; exact Int.ediv_le_self _ (by omega)
  rw [wT, aE (show (i : Int) < Int.ofNat xs.length from Int.ofNat_lt.2 cn), hidx, Int.toNat_natCast, hx]
  simp only [ak, aA]
  rw [if_neg (by omega), aJ (by omega) (by omega)]
  simp only [aA]
  by_cases hb : cG (xs.take i) * xs[i] > 65536
  ·rw [aE ((r9 h1).2 hb)]
   simp only [ak]
   refine (Rc z xs _ _ _ _ _).trans ?_
   have hm2 := uc hp (i := i + 1) (xs.length - (i + 1))
   rw [fe hx, show i + 1 + (xs.length - (i + 1)) = xs.length by omega, List.take_length] at hm2
   unfold qz
   rw [aE (by omega)]
   rfl
  ·rw [de (fun h => hb ((r9 h1).1 h))]
   simp only [ax]
   have hm0 : 0 <= cG (xs.take i) * xs[i] := Int.mul_nonneg (by omega) (by omega)
   have := ih (i + 1) m (by omega) (by omega) (by rw [fe hx]; omega)
   rw [fe hx] at this
   unfold IG at this
   rw [aJ (n := cG (xs.take i) * xs[i]) (by omega) (by omega), aJ (n := (i : Int) + 1) (by omega) (by omega)]
   exact this
theorem LN (z : Bool) (xs : ag) (hl : xs.length <= maxLen) : aC PL f60 5 [(7, [4, 12, 13, 14])] [.os 0 0] (zF z xs) ah = some (.ret [I (aR xs), I (aB xs)], zF z xs) := by
 rw [Rb, aE (show xs.length <= 9223372036854775807 from hl)]
 unfold aR aB
 cases h1 : decide (bu (fun d => decide (d < 1)) xs >= 0) with
 | true => rfl
 | false =>
  cases h2 : decide (Int.ofNat xs.length > 6) with
  | true => rfl
  | false =>
   simp only [ak, ax]
   have hp : ∀ x ∈ xs, 1 <= x := fun x hx => by
    rw [pf, List.any_eq_false] at h1
    have := h1 x hx
    simp only [decide_eq_true_eq] at this
    omega
   have hl6 : xs.length <= 6 := by
    have := rq h2
    have e : Int.ofNat xs.length = (xs.length : Int) := rfl
    omega
   have key := IH (z := z) hp hl6 xs.length 0 fu (by omega) (by unfold fu; omega) (by simp [cG])
   unfold IG KCo at key
   simp only [List.take_zero] at key
   refine Eq.trans key ?_
   cases qz xs <;> rfl
def LO : List AV -> LHp -> Tq
 | [.os 0 0], [(0, .arr 3 zI 0 z xs)] => .br (decide (xs.length <= maxLen)) (.leaf (.ret [I (aR xs), I (aB xs)]) (zF z xs)) .no
 | _, _ => .no
theorem LP : bE 60 (ao LO) := by
 refine cj LL bX func60 call60 (depth := 5) (live := [(7, [4, 12, 13, 14])]) (by decide +kernel) rfl fun args hs p h => ?_
 unfold LO at h
 split at h
 ·obtain ⟨hl, h⟩ := Tq.br_no h
  cases h
  have hl := aZ hl
  exact LN _ _ hl
 ·cases h
theorem Re  : aC e5 f60 5 [(7, [4, 12, 13, 14])] [.emp] [] ah = ay [I 1, I 0] := by kernel_rfl
def LQ : List AV -> LHp -> Tq
 | [.emp], [] => .leaf (.ret [I 1, I 0]) []
 | _, _ => .no
theorem LR : bE 60 (ao LQ) := by
 have h1 : bE 60 (au e5 f60 5 [(7, [4, 12, 13, 14])]) := Lk
 refine aO fun args hs ae aF h' => ?_
 unfold LQ at h'
 split at h'
 ·cases h'
  exact h1.okC Re
 ·cases h'
def LS (a : List AV) (h : LHp) : Tq := orT (yx a h) (orT (LO a h) (LQ a h))
theorem II : bE 60 (ao LS) := jO qA (jO LP LR)
def gZ (name : aj) (kind : Int) (a : (Y1).den) : Bool := a.1 == name && a.2.1 == kind
def hpA (z : Bool) (aa : bk) (kind : Int) (name : aj) : LHp := [(0, .box (I kind)), (1, .box (.d .str name)), (2, .arr 44 (Y1) 0 z aa)]
theorem Rf (a : (Y1).den) (kind : Int) (name : aj) : aC e6 f160 4 [] [.d (Y1) a, .op 1 [] 0, .op 0 [] 0] [(0, .box (I kind)), (1, .box (.d .str name))] ah = bif a.1 == name then some (aq.ret [B (a.2.1 == kind)], [(0, al.box (I kind)), (1, al.box (AV.d Ty.str name))]) else some (aq.ret [B false], [(0, al.box (I kind)), (1, al.box (AV.d Ty.str name))]) := by kernel_rfl
def LU : List AV -> LHp -> Option (aq × LHp)
 | [.d Y1 a, .op 1 [] 0, .op 0 [] 0], [(0, .box (.d zI kind)), (1, .box (.d .str name))] => some (.ret [B (gZ name kind a)], [(0, .box (I kind)), (1, .box (.d .str name))])
 | _, _ => none
theorem LV (a : (Y1).den) (kind : Int) (name : aj) : aC e6 f160 4 [] [.d (Y1) a, .op 1 [] 0, .op 0 [] 0] [(0, .box (I kind)), (1, .box (.d .str name))] ah = some (.ret [B (gZ name kind a)], [(0, .box (I kind)), (1, .box (.d .str name))]) := by
 rw [Rf]
 unfold gZ
 cases a.1 == name <;> rfl
theorem LW : bE 160 (fnE LU) := by
 refine ic yv bX func160 call160 (depth := 4) (live := []) (by decide +kernel) rfl fun args hs p h => ?_
 unfold LU at h
 split at h
 ·cases h
  exact LV _ _ _
 ·cases h
noncomputable def eJ : Env := e0.add 160 (fnE LU)
theorem Rg : eJ.Good := dW.add LW
def adV : List AV -> LHp -> Tq
 | [.os 2 0, .fn (.func 160) [] [.op 1 [] 0, .op 0 [] 0]], [(0, .box (.d zI kind)), (1, .box (.d .str name)), (2, .arr 44 Y1 0 z aa)] => .br (decide (aa.length <= maxLen)) (.leaf (.ret [I (bu (gZ name kind) aa)]) (hpA z aa kind name)) .no
 | _, _ => .no
noncomputable def eK : Env := e9.add 49 (ao adV)
theorem ud {α : Type} (p : α -> Bool) (xs : List α) : idx xs (bu p xs) = xs.find? p := by
 unfold bu
 cases h : xs.findIdx? p with
 | none =>
  rw [List.findIdx?_eq_none_iff] at h
  rw [List.find?_eq_none.2 (fun x hx => by simp [h x hx])]
  rfl
 | some i =>
  obtain ⟨hi, hp, hn⟩ := List.findIdx?_eq_some_iff_getElem.1 h
  show idx xs (i : Int) = _
  unfold idx
  rw [if_pos (by omega), Int.toNat_natCast, List.getElem?_eq_getElem hi]
  exact (List.find?_eq_some_iff_getElem.2 ⟨hp, i, hi, rfl, fun j hj => by simpa using hn j hj⟩).symm
def XT : AV := (AV.d Ty.str []).pr ((I 0).pr ((I 0).pr ((I 0).pr ((AV.d Ty.str []).pr (((I 0).pr (AV.nils.pr (AV.nils.pr (AV.d Ty.unit PUnit.unit)))).pr (AV.nils.pr (AV.d Ty.unit PUnit.unit)))))))
theorem XU (l1 l2 l3 : ag) : aC e13 f220 6 [(3, [0, 3, 9, 10, 11]), (11, [6, 25, 26, 27])] [.os 0 0] [(0, .arr 31 (.slice af) 0 false [l1, l2, l3])] ah = bif decide (i64.wrap (Int.ofNat (0 + l1.length)) < 0) then none else bif decide (i64.wrap (i64.wrap (Int.ofNat (0 + l1.length)) + Int.ofNat l2.length) < 0) then none else bif decide (i64.wrap (i64.wrap (i64.wrap (Int.ofNat (0 + l1.length)) + Int.ofNat l2.length) + Int.ofNat l3.length) < 0) then none else bif decide (i64.wrap (i64.wrap (i64.wrap (Int.ofNat (0 + l1.length)) + Int.ofNat l2.length) + Int.ofNat l3.length) < 0) then none else bif decide (i64.wrap (i64.wrap (i64.wrap (i64.wrap (Int.ofNat (0 + l1.length)) + Int.ofNat l2.length) + Int.ofNat l3.length) - 0) > 0) then bif decide (0 < i64.wrap (i64.wrap (i64.wrap (i64.wrap (Int.ofNat (0 + l1.length)) + Int.ofNat l2.length) + Int.ofNat l3.length) - 0)) && decide (i64.wrap (i64.wrap (i64.wrap (i64.wrap (Int.ofNat (0 + l1.length)) + Int.ofNat l2.length) + Int.ofNat l3.length) - 0) <= 4294967296) then (app [] l1).bind fun v6 => (app v6 l2).bind fun v7 => (app v7 l3).bind fun v8 => some (aq.ret [AV.os 1 0], [(0, al.arr 31 (af).slice 0 false [l1, l2, l3]), (1, al.arr 3 (af) 0 false v8)]) else none else (app [] l1).bind fun v5 => (app v5 l2).bind fun v6 => (app v6 l3).bind fun v7 => some (aq.ret [AV.os 1 0], [(0, al.arr 31 (af).slice 0 false [l1, l2, l3]), (1, al.arr 3 (af) 0 false v7)]) := by kernel_rfl
theorem Eh {α : Type} {xs ys : List α} (h : xs.length + ys.length <= lim) : app xs ys = some (xs ++ ys) := by
 unfold app
 rw [if_pos h]
theorem FG (l1 l2 l3 : ag) (h : l1.length + l2.length + l3.length <= 65536) : aC e13 f220 6 [(3, [0, 3, 9, 10, 11]), (11, [6, 25, 26, 27])] [.os 0 0] [(0, .arr 31 (.slice af) 0 false [l1, l2, l3])] ah = some (.ret [.os 1 0], [(0, .arr 31 (.slice af) 0 false [l1, l2, l3]), (1, .arr 3 af 0 false (l1 ++ l2 ++ l3))]) := by
 have e1 : i64.wrap (Int.ofNat (0 + l1.length)) = (l1.length : Int) := by
  rw [Nat.zero_add]
  exact aJ (by simp only [aT]; omega) (by simp only [aT]; omega)
 have e2 : i64.wrap ((l1.length : Int) + Int.ofNat l2.length) = ((l1.length + l2.length : Nat) : Int) := by
  rw [aJ (by simp only [aT]; omega) (by simp only [aT]; omega)]
  rfl
 have e3 : i64.wrap (((l1.length + l2.length : Nat) : Int) + Int.ofNat l3.length) = ((l1.length + l2.length + l3.length : Nat) : Int) := by
  rw [aJ (by simp only [aT]; omega) (by simp only [aT]; omega)]
  rfl
 have e4 : i64.wrap (((l1.length + l2.length + l3.length : Nat) : Int) - 0) = ((l1.length + l2.length + l3.length : Nat) : Int) := by
  rw [Int.sub_zero]
  exact aJ (by omega) (by omega)
 rw [XU, e1, e2, e3, e4, de (show ¬ ((l1.length : Int) < 0) by omega), de (show ¬ (((l1.length + l2.length : Nat) : Int) < 0) by omega), de (show ¬ (((l1.length + l2.length + l3.length : Nat) : Int) < 0) by omega)]
 have a1 : app ([] : ag) l1 = some l1 := by rw [Eh (by unfold lim; simp; omega)]; rfl
 have a2 : app l1 l2 = some (l1 ++ l2) := Eh (by unfold lim; omega)
 have a3 : app (l1 ++ l2) l3 = some (l1 ++ l2 ++ l3) := Eh (by unfold lim; rw [List.length_append]; omega)
 simp only [ax, a1, a2, a3, aA]
 by_cases h0 : (((l1.length + l2.length + l3.length : Nat) : Int)) > 0
 ·rw [aE h0, aE (show ((l1.length + l2.length + l3.length : Nat) : Int) <= 4294967296 by omega)]
  rfl
 ·rw [de h0]
  rfl
def unc : List Int -> Option (Int × ag)
 | [] => none
 | x :: l => some (x, l)
def XV : List AV -> LHp -> Tq
 | [.os 0 0], [(0, .arr 31 zS 0 false [l1, l2, l3])] => .opt (unc (l1 ++ l2 ++ l3)) fun p => .br (decide (l1.length + l2.length + l3.length <= 65536)) (.leaf (.ret [.os 1 0]) [(0, .arr 31 (.slice af) 0 false [l1, l2, l3]), (1, .arr 3 af 0 false (p.1 :: p.2))]) .no
 | _, _ => .no
theorem Rh : bE 220 (ao XV) := by
 have h1 : bE 220 (au e13 f220 6 [(3, [0, 3, 9, 10, 11]), (11, [6, 25, 26, 27])]) := yw
 refine aO fun args hs ae aF h' => ?_
 unfold XV at h'
 split at h'
 ·simp only [Tq.run] at h'
  obtain ⟨p, hp, h2⟩ := aS h'
  clear h'
  obtain ⟨x, l⟩ := p
  obtain ⟨hb, h3⟩ := Tq.br_no (t := .leaf _ _) (show (Tq.br (decide _) (.leaf _ _) .no).run ah = some (ae, aF) from h2)
  cases h3
  have e : ∀ {ls : ag}, unc ls = some (x, l) -> ls = x :: l := fun {ls} h => by
   cases ls with
   | nil => cases h
   | cons a b => cases h; rfl
  rw [← e hp]
  exact h1.okC (FG _ _ _ (aZ hb))
 ·cases h'
end
end Go.Proofs.XRT
set_option maxRecDepth 100000
set_option maxHeartbeats 4000000
namespace Go.Proofs.XRT
open Go.Vm Go Go.RowKit Go.Lib Tryz IntKind
noncomputable section
noncomputable def y7 : FnE := au e0 f7 5 [(2, [0, 3])]
theorem Wd : bM 7 y7 := bS dW func7 call7
noncomputable def g1 : Env := e0.add 7 y7
theorem Ri : g1.Good := Env.Good.add dW Wd
noncomputable def g2 : Env := g1.add 99 (fnE QU)
theorem FH : g2.Good := Env.Good.add Ri FC
noncomputable def adW : FnE := au g2 f109 3 []
theorem Rj : bM 109 adW := bS FH func109 call109
noncomputable def g3 : Env := g2.add 109 adW
theorem FI : g3.Good := Env.Good.add FH Rj
noncomputable def adX : FnE := au g3 f103 3 []
theorem Rk : bM 103 adX := bS FI func103 call103
noncomputable def g4 : Env := g3.add 103 adX
theorem FJ : g4.Good := Env.Good.add FI Rk
noncomputable def adY : FnE := au g4 f253 6 []
theorem Rl : bM 253 adY := bS FJ func253 call253
noncomputable def g5 : Env := g4.add 253 adY
theorem FK : g5.Good := Env.Good.add FJ Rl
noncomputable def adZ : FnE := au g5 f156 5 [(2, [0, 1, 7, 8])]
theorem Rm : bM 156 adZ := bS FK func156 call156
noncomputable def g6 : Env := g5.add 156 adZ
theorem FL : g6.Good := Env.Good.add FK Rm
noncomputable def ad0 : FnE := au g6 f108 4 []
theorem Rn : bM 108 ad0 := bS FL func108 call108
noncomputable def g7 : Env := g6.add 108 ad0
theorem Ro : g7.Good := Env.Good.add FL Rn
noncomputable def g8 : Env := g7.add 60 (ao LS)
theorem FM : g8.Good := Env.Good.add Ro II
noncomputable def ad1 : FnE := au g8 f100 5 []
theorem Rp : bM 100 ad1 := bS FM func100 call100
noncomputable def g9 : Env := g8.add 100 ad1
theorem FN : g9.Good := Env.Good.add FM Rp
noncomputable def ad2 : FnE := au g9 f101 3 []
theorem Rq : bM 101 ad2 := bS FN func101 call101
noncomputable def g10 : Env := g9.add 101 ad2
theorem Be : g10.Good := Env.Good.add FN Rq
noncomputable def ad3 : FnE := au g10 f160 4 []
theorem Rr : bM 160 ad3 := bS Be func160 call160
noncomputable def g11 : Env := g10.add 160 ad3
theorem ue : g11.Good := Env.Good.add Be Rr
noncomputable def ad4 : FnE := au g11 f201 4 []
theorem Rs : bM 201 ad4 := bS ue func201 call201
noncomputable def g12 : Env := g11.add 201 ad4
theorem uf : g12.Good := Env.Good.add ue Rs
noncomputable def ad5 : FnE := au g12 f206 3 []
theorem Rt : bM 206 ad5 := bS uf func206 call206
noncomputable def g13 : Env := g12.add 206 ad5
theorem pq : g13.Good := Env.Good.add uf Rt
noncomputable def ad6 : FnE := au g13 f112 3 []
theorem Ru : bM 112 ad6 := bS pq func112 call112
noncomputable def g14 : Env := g13.add 112 ad6
theorem pt : g14.Good := Env.Good.add pq Ru
noncomputable def ad7 : FnE := au g14 f193 4 [(2, [0, 5, 6])]
theorem Rv : bM 193 ad7 := bS pt func193 call193
noncomputable def g15 : Env := g14.add 193 ad7
theorem mJ : g15.Good := Env.Good.add pt Rv
noncomputable def ad8 : FnE := au g15 f245 5 []
theorem Rw : bM 245 ad8 := bS mJ func245 call245
noncomputable def g16 : Env := g15.add 245 ad8
theorem ug : g16.Good := Env.Good.add mJ Rw
noncomputable def ad9 : FnE := au g16 f198 4 []
theorem Rx : bM 198 ad9 := bS ug func198 call198
noncomputable def g17 : Env := g16.add 198 ad9
theorem uh : g17.Good := Env.Good.add ug Rx
noncomputable def aea : FnE := au g17 f197 4 []
theorem Ry : bM 197 aea := bS uh func197 call197
noncomputable def g18 : Env := g17.add 197 aea
theorem Bf : g18.Good := Env.Good.add uh Ry
noncomputable def aeb : FnE := au g18 f291 4 [(2, [2, 4])]
theorem Rz : bM 291 aeb := bS Bf func291 call291
noncomputable def g19 : Env := g18.add 291 aeb
theorem Bg : g19.Good := Env.Good.add Bf Rz
noncomputable def aec : FnE := au g19 f303 7 []
theorem RA : bM 303 aec := bS Bg func303 call303
noncomputable def g20 : Env := g19.add 303 aec
theorem Bh : g20.Good := Env.Good.add Bg RA
noncomputable def aed : FnE := au g20 f292 5 []
theorem RB : bM 292 aed := bS Bh func292 call292
noncomputable def g21 : Env := g20.add 292 aed
theorem Bi : g21.Good := Env.Good.add Bh RB
noncomputable def aee : FnE := au g21 f275 6 [(6, [0, 1, 6, 7])]
theorem RC : bM 275 aee := bS Bi func275 call275
noncomputable def g22 : Env := g21.add 275 aee
theorem LX : g22.Good := Env.Good.add Bi RC
noncomputable def g23 : Env := g22.addX 304 lM
theorem Bj : g23.Good := Env.Good.addX LX (vC func304 rfl (by decide +kernel) (by kernel_rfl) (by kernel_rfl))
noncomputable def aef : FnE := au g23 f294 4 []
theorem RD : bM 294 aef := bS Bj func294 call294
noncomputable def g24 : Env := g23.add 294 aef
theorem Bk : g24.Good := Env.Good.add Bj RD
noncomputable def aeg : FnE := au g24 f296 3 []
theorem RE : bM 296 aeg := bS Bk func296 call296
noncomputable def g25 : Env := g24.add 296 aeg
theorem Bl : g25.Good := Env.Good.add Bk RE
noncomputable def aeh : FnE := au g25 f305 6 [(3, [0, 4, 5]), (8, [4, 6, 7, 8])]
theorem RF : bM 305 aeh := bS Bl func305 call305
noncomputable def g26 : Env := g25.add 305 aeh
theorem Bm : g26.Good := Env.Good.add Bl RF
noncomputable def aei : FnE := au g26 f297 7 [(5, [0, 1, 5, 6, 7, 8, 9]), (11, [0, 1, 5, 6, 7, 8, 10])]
theorem RG : bM 297 aei := bS Bm func297 call297
noncomputable def g27 : Env := g26.add 297 aei
theorem Bn : g27.Good := Env.Good.add Bm RG
noncomputable def aej : FnE := au g27 f278 8 [(15, [0, 1, 5, 6, 7, 8, 9, 10])]
theorem RH : bM 278 aej := bS Bn func278 call278
noncomputable def g28 : Env := g27.add 278 aej
theorem Bo : g28.Good := Env.Good.add Bn RH
noncomputable def aek : FnE := au g28 f277 4 []
theorem FO : bM 277 aek := bS Bo func277 call277
noncomputable def g29 : Env := g28.add 277 aek
theorem LY : g29.Good := Env.Good.add Bo FO
noncomputable def g30 : Env := g29.addX 293 yf
theorem Bp : g30.Good := Env.Good.addX LY (Ig func293 rfl (by decide +kernel) (by kernel_rfl) (by kernel_rfl))
noncomputable def aem : FnE := au g30 f276 6 [(6, [0, 1, 5])]
theorem FP : bM 276 aem := bS Bp func276 call276
noncomputable def g31 : Env := g30.add 276 aem
theorem mL : g31.Good := Env.Good.add Bp FP
noncomputable def aen : FnE := au g31 f205 3 []
theorem RI : bM 205 aen := bS mL func205 call205
noncomputable def We : Env := g31.add 205 aen
theorem k8 : We.Good := Env.Good.add mL RI
noncomputable def aeo : FnE := au We f246 5 []
theorem RJ : bM 246 aeo := bS k8 func246 call246
noncomputable def g33 : Env := We.add 246 aeo
theorem Br : g33.Good := Env.Good.add k8 RJ
noncomputable def aep : FnE := au g33 f202 4 []
theorem FQ : bM 202 aep := bS Br func202 call202
noncomputable def g34 : Env := g33.add 202 aep
theorem Bs : g34.Good := Env.Good.add Br FQ
noncomputable def aeq : FnE := au g34 f247 5 []
theorem RK : bM 247 aeq := bS Bs func247 call247
noncomputable def g35 : Env := g34.add 247 aeq
theorem Bt : g35.Good := Env.Good.add Bs RK
noncomputable def aer : FnE := au g35 f203 4 []
theorem FR : bM 203 aer := bS Bt func203 call203
noncomputable def Wf : Env := g35.add 203 aer
theorem jQ : Wf.Good := Env.Good.add Bt FR
noncomputable def aes : FnE := au Wf f157 4 []
theorem RL : bM 157 aes := bS jQ func157 call157
noncomputable def g37 : Env := Wf.add 157 aes
theorem Bu : g37.Good := Env.Good.add jQ RL
noncomputable def aet : FnE := au g37 f161 3 []
theorem RM : bM 161 aet := bS Bu func161 call161
noncomputable def g38 : Env := g37.add 161 aet
theorem Bv : g38.Good := Env.Good.add Bu RM
noncomputable def aeu : FnE := au g38 f165 4 []
theorem RN : bM 165 aeu := bS Bv func165 call165
noncomputable def g39 : Env := g38.add 165 aeu
theorem Bw : g39.Good := Env.Good.add Bv RN
noncomputable def aev : FnE := au g39 f158 7 []
theorem RO : bM 158 aev := bS Bw func158 call158
noncomputable def g40 : Env := g39.add 158 aev
theorem LZ : g40.Good := Env.Good.add Bw RO
noncomputable def g41 : Env := g40.addX 185 (AQ .f32 .u32)
theorem Bx : g41.Good := Env.Good.addX LZ (AR (row := Extern.MathFloatBits.float32bits) (fun _ => rfl) func185 rfl (by decide +kernel) (by kernel_rfl) (by kernel_rfl))
noncomputable def aew : FnE := au g41 f162 4 []
theorem RP : bM 162 aew := bS Bx func162 call162
noncomputable def g42 : Env := g41.add 162 aew
theorem L0 : g42.Good := Env.Good.add Bx RP
noncomputable def g43 : Env := g42.addX 184 (kY .f32 .u32)
theorem By : g43.Good := Env.Good.addX L0 (o9 (row := Extern.MathFloatBits.float32frombits) (fun _ => rfl) func184 rfl (by decide +kernel) (by kernel_rfl) (by kernel_rfl))
noncomputable def aex : FnE := au g43 f164 3 []
theorem RQ : bM 164 aex := bS By func164 call164
noncomputable def g44 : Env := g43.add 164 aex
theorem Bz : g44.Good := Env.Good.add By RQ
noncomputable def aey : FnE := au g44 f159 7 []
theorem RR : bM 159 aey := bS Bz func159 call159
noncomputable def XW : Env := g44.add 159 aey
theorem BA : XW.Good := Env.Good.add Bz RR
noncomputable def aez : FnE := au XW f111 7 []
theorem FT : bM 111 aez := bS BA func111 call111
noncomputable def g46 : Env := XW.add 111 aez
theorem BB : g46.Good := Env.Good.add BA FT
noncomputable def g47 : Env := g46.addX 261 Ft
theorem BC : g47.Good := Env.Good.addX BB (K7 func261 rfl (by decide +kernel) (by kernel_rfl) (by kernel_rfl))
noncomputable def aeA : FnE := au g47 f234 3 []
theorem RS : bM 234 aeA := bS BC func234 call234
noncomputable def g48 : Env := g47.add 234 aeA
theorem L1 : g48.Good := Env.Good.add BC RS
noncomputable def g49 : Env := g48.addX 262 yj
theorem BD : g49.Good := Env.Good.addX L1 (Iq func262 rfl (by decide +kernel) (by kernel_rfl) (by kernel_rfl))
noncomputable def aeB : FnE := au g49 f282 3 []
theorem RT : bM 282 aeB := bS BD func282 call282
noncomputable def g50 : Env := g49.add 282 aeB
theorem L2 : g50.Good := Env.Good.add BD RT
noncomputable def g51 : Env := g50.addX 279 (kY .f64 .u64)
theorem L3 : g51.Good := Env.Good.addX L2 (o9 (row := Extern.MathFloatBits.float64frombits) (fun _ => rfl) func279 rfl (by decide +kernel) (by kernel_rfl) (by kernel_rfl))
noncomputable def g52 : Env := g51.addX 306 (AQ .f64 .u64)
theorem BE : g52.Good := Env.Good.addX L3 (AR (row := Extern.MathFloatBits.float64bits) (fun _ => rfl) func306 rfl (by decide +kernel) (by kernel_rfl) (by kernel_rfl))
noncomputable def aeC : FnE := au g52 f299 3 []
theorem RU : bM 299 aeC := bS BE func299 call299
noncomputable def g53 : Env := g52.add 299 aeC
theorem BF : g53.Good := Env.Good.add BE RU
noncomputable def aeD : FnE := au g53 f283 4 []
theorem RV : bM 283 aeD := bS BF func283 call283
noncomputable def g54 : Env := g53.add 283 aeD
theorem BG : g54.Good := Env.Good.add BF RV
noncomputable def aeE : FnE := au g54 f301 4 []
theorem RW : bM 301 aeE := bS BG func301 call301
noncomputable def g55 : Env := g54.add 301 aeE
theorem BH : g55.Good := Env.Good.add BG RW
noncomputable def aeF : FnE := au g55 f308 5 []
theorem RX : bM 308 aeF := bS BH func308 call308
noncomputable def g56 : Env := g55.add 308 aeF
theorem BI : g56.Good := Env.Good.add BH RX
noncomputable def aeG : FnE := au g56 f300 3 []
theorem RY : bM 300 aeG := bS BI func300 call300
noncomputable def g57 : Env := g56.add 300 aeG
theorem BJ : g57.Good := Env.Good.add BI RY
noncomputable def aeH : FnE := au g57 f284 4 []
theorem RZ : bM 284 aeH := bS BJ func284 call284
noncomputable def g58 : Env := g57.add 284 aeH
theorem BK : g58.Good := Env.Good.add BJ RZ
noncomputable def aeI : FnE := au g58 f263 6 []
theorem R1 : bM 263 aeI := bS BK func263 call263
noncomputable def g59 : Env := g58.add 263 aeI
theorem BL : g59.Good := Env.Good.add BK R1
noncomputable def aeJ : FnE := au g59 f235 3 []
theorem R2 : bM 235 aeJ := bS BL func235 call235
noncomputable def g60 : Env := g59.add 235 aeJ
theorem BM : g60.Good := Env.Good.add BL R2
noncomputable def aeK : FnE := au g60 f248 6 [(12, [4, 5, 6, 7])]
theorem R3 : bM 248 aeK := bS BM func248 call248
noncomputable def g61 : Env := g60.add 248 aeK
theorem BN : g61.Good := Env.Good.add BM R3
noncomputable def aeL : FnE := au g61 f249 4 []
theorem R4 : bM 249 aeL := bS BN func249 call249
noncomputable def g62 : Env := g61.add 249 aeL
theorem BO : g62.Good := Env.Good.add BN R4
noncomputable def aeM : FnE := au g62 f250 6 []
theorem R5 : bM 250 aeM := bS BO func250 call250
noncomputable def g63 : Env := g62.add 250 aeM
theorem BP : g63.Good := Env.Good.add BO R5
noncomputable def aeN : FnE := au g63 f207 6 []
theorem R6 : bM 207 aeN := bS BP func207 call207
noncomputable def XX : Env := g63.add 207 aeN
theorem BQ : XX.Good := Env.Good.add BP R6
noncomputable def aeO : FnE := au XX f146 7 []
theorem FU : bM 146 aeO := bS BQ func146 call146
noncomputable def g65 : Env := XX.add 146 aeO
theorem ui : g65.Good := Env.Good.add BQ FU
noncomputable def aeP : FnE := au g65 f209 4 []
theorem R7 : bM 209 aeP := bS ui func209 call209
noncomputable def vn : Env := g65.add 209 aeP
theorem fK : vn.Good := Env.Good.add ui R7
noncomputable def aeQ : FnE := au vn f107 4 []
noncomputable def R8 : FnE := oy aeQ
theorem yz : bM 107 R8 := np (bS fK func107 call107) call107 Wb Wc
noncomputable def XY : Env := vn.add 107 R8
theorem pw : XY.Good := Env.Good.add fK yz
noncomputable def aeR : FnE := au XY f149 5 []
theorem FV : bM 149 aeR := bS pw func149 call149
noncomputable def g68 : Env := XY.add 149 aeR
theorem uj : g68.Good := Env.Good.add pw FV
noncomputable def aih : FnE := au g68 f40 4 []
noncomputable def y40 : FnE := oy aih
theorem L4 : bM 40 y40 := np (bS uj func40 call40) call40 adN adO
noncomputable def j9 : Env := g68.add 40 y40
theorem jR : j9.Good := Env.Good.add uj L4
noncomputable def aeS : FnE := au j9 f252 5 [(2, [0, 1, 7, 8])]
theorem R9 : bM 252 aeS := bS jR func252 call252
noncomputable def XZ : Env := j9.add 252 aeS
theorem pz : XZ.Good := Env.Good.add jR R9
noncomputable def aeT : FnE := au XZ f212 4 []
theorem FW : bM 212 aeT := bS pz func212 call212
noncomputable def IJ : Env := XZ.add 212 aeT
theorem dY : IJ.Good := Env.Good.add pz FW
noncomputable def aeU : FnE := au IJ f254 4 []
theorem Sa : bM 254 aeU := bS dY func254 call254
noncomputable def Ei : Env := IJ.add 254 aeU
theorem k9 : Ei.Good := Env.Good.add dY Sa
noncomputable def aeV : FnE := au Ei f256 4 []
theorem FX : bM 256 aeV := bS k9 func256 call256
noncomputable def g73 : Env := Ei.add 256 aeV
theorem uk : g73.Good := Env.Good.add k9 FX
noncomputable def aeW : FnE := au g73 f257 5 []
theorem Sb : bM 257 aeW := bS uk func257 call257
noncomputable def g74 : Env := g73.add 257 aeW
theorem L5 : g74.Good := Env.Good.add uk Sb
noncomputable def sa : Env := g74.add 220 (ph XV adQ)
theorem dR : sa.Good := Env.Good.add L5 (A7 Rh yw)
noncomputable def IK : mE := ⟨100, f100, 5, [], 5, 2, 15, [.tmp 4, .tmp 5]⟩
noncomputable def y86 : FnE := au sa f86 6 [(7, [0, 6, 7, 22, 23])]
theorem L6 : bM 86 y86 := bS dR func86 call86
noncomputable def IL : Env := sa.add 86 y86
theorem pA : IL.Good := Env.Good.add dR L6
noncomputable def y63 : FnE := au IL f63 5 []
theorem L7 : bM 63 y63 := bS pA func63 call63
noncomputable def g77 : Env := IL.add 63 y63
theorem BR : g77.Good := Env.Good.add pA L7
noncomputable def g78 : Env := g77.withRound (qv g77 [])
theorem pB : g78.Good := Env.Good.withRound BR (qw BR bX [])
noncomputable def aeY : FnE := au g78 f110 7 [(1, [0, 1, 2, 3, 12, 13])]
theorem Sc : bM 110 aeY := bS pB func110 call110
noncomputable def g79 : Env := g78.add 110 aeY
theorem BS : g79.Good := Env.Good.add pB Sc
noncomputable def y62 : FnE := au g79 f62 4 []
theorem X0 : bM 62 y62 := bS BS func62 call62
noncomputable def g80 : Env := g79.add 62 y62
theorem um : g80.Good := Env.Good.add BS X0
noncomputable def aeZ : FnE := au g80 f163 5 []
theorem Sd : bM 163 aeZ := bS um func163 call163
noncomputable def g81 : Env := g80.add 163 aeZ
theorem BT : g81.Good := Env.Good.add um Sd
noncomputable def ae1 : FnE := au g81 f113 6 []
theorem Se : bM 113 ae1 := bS BT func113 call113
noncomputable def Sf : Env := g81.add 113 ae1
theorem lb : Sf.Good := Env.Good.add BT Se
noncomputable def y56 : FnE := au Sf f56 3 []
theorem L8 : bM 56 y56 := bS lb func56 call56
noncomputable def g83 : Env := Sf.add 56 y56
theorem uo : g83.Good := Env.Good.add lb L8
end
end Go.Proofs.XRT
set_option maxRecDepth 100000
set_option maxHeartbeats 4000000
namespace Go.Proofs.XRT
open Go.Vm Go Tryz IntKind
noncomputable section
noncomputable def FY : Code := bD f49
noncomputable def zc6 : Code := cL (cL (cR (cL (cR FY))))
noncomputable def iV : Cfg := ⟨19, 5, 2, [(2, [0, 1, 7, 8])], true⟩
def hpK (kind : Int) (name : aj) : LHp := [(0, .box (I kind)), (1, .box (.d .str name))]
def L9 (aa : bk) (kind : Int) (name : aj) (i : Int) : LSt := ⟨aw 5 [(0, .d (.slice (Y1)) aa), (1, .fn (.func 160) [] [.op 1 [] 0, .op 0 [] 0]), (7, I (Int.ofNat aa.length)), (8, I i)], hpK kind name, 4⟩
theorem X2 (aa : bk) (kind : Int) (name : aj) : aC eJ f49 5 [(2, [0, 1, 7, 8])] [.d (.slice (Y1)) aa, .fn (.func 160) [] [.op 1 [] 0, .op 0 [] 0]] (hpK kind name) ah = (hlp eJ iV) zc6 _ (L9 aa kind name 0) (aW 0 (bt eJ iV [2] (hlp eJ iV) (cR (cR FY)) (bA prog 2 f49.results.toList ah))) := (bI [2] iV rfl).trans (by obtain ⟨hl, h⟩ := bw eJ iV; rw [h]; kernel_rfl)
theorem Ma (aa : bk) (kind : Int) (name : aj) (i : Int) (n : Nat) {R : Type} (k : AEx -> LSt -> Option R) : lp eJ iV zc6 (n + 1) (L9 aa kind name i) k = bif decide (i < Int.ofNat aa.length) then (idx aa i).bind fun v1 => bif gZ name kind v1 then k AEx.ret { fr := aw 5 [(0, AV.d Y1.slice aa), (1, AV.fn (Fn.func 160) [] [AV.op 1 [] 0, AV.op 0 [] 0]), (4, I i), (5, I i), (7, I (Int.ofNat aa.length)), (8, I i), (9, B true), (10, I i), (11, AV.fn (Fn.func 160) [] [AV.op 1 [] 0, AV.op 0 [] 0]), (12, AV.d Y1.slice aa), (13, I i), (14, AV.ip Y1 v1), (15, AV.d Y1 v1), (16, B true), (17, I i)], hp := [(0, al.box (I kind)), (1, al.box (AV.d Ty.str name)), (0, al.box (I kind)), (1, al.box (AV.d Ty.str name))], nx := 6 } else lp eJ iV zc6 n (L9 aa kind name (i64.wrap (i + 1))) k else k (AEx.exit 0) { fr := aw 5 [(0, AV.d Y1.slice aa), (1, AV.fn (Fn.func 160) [] [AV.op 1 [] 0, AV.op 0 [] 0]), (7, I (Int.ofNat aa.length)), (8, I i), (9, B false)], hp := [(0, al.box (I kind)), (1, al.box (AV.d Ty.str name))], nx := 4 } := by kernel_rfl
theorem Sh (aa : bk) (kind : Int) (name : aj) (hl : aa.length <= maxLen) : aC eJ f49 5 [(2, [0, 1, 7, 8])] [.d (.slice (Y1)) aa, .fn (.func 160) [] [.op 1 [] 0, .op 0 [] 0]] (hpK kind name) ah = some (.ret [I (bu (gZ name kind) aa)], hpK kind name) := by
 rw [X2]
 have hs := fun (i : Int) (n : Nat) => Ma aa kind name i n (aW 0 (bt eJ iV [2] (hlp eJ iV) (cR (cR FY)) (bA prog 2 f49.results.toList ah)))
 have h := fM (T := fun n s => lp eJ iV zc6 n s (aW 0 (bt eJ iV [2] (hlp eJ iV) (cR (cR FY)) (bA prog 2 f49.results.toList ah)))) (xs := aa) (st := fun i => L9 aa kind name i) hl hs
 unfold L9 hpK at h
 refine h.trans ?_
 unfold bu
 cases hq : aa.findIdx? (gZ name kind) with
 | none => show _ = _; kernel_rfl
 | some i =>
  obtain ⟨hi, _⟩ := List.findIdx?_eq_some_iff_getElem.1 hq
  simp only [List.getElem?_eq_getElem hi, aA]
  show _ = _
  kernel_rfl
def X3 : List AV -> LHp -> Tq
 | [.d (.slice Y1) aa, .fn (.func 160) [] [.op 1 [] 0, .op 0 [] 0]], [(0, .box (.d zI kind)), (1, .box (.d .str name))] => .br (decide (aa.length <= maxLen)) (.leaf (.ret [I (bu (gZ name kind) aa)]) (hpK kind name)) .no
 | _, _ => .no
theorem Si : bE 49 (ao X3) := by
 refine cj Rg bX func49 call49 (depth := 5) (live := [(2, [0, 1, 7, 8])]) (by decide +kernel) rfl fun args hs p h => ?_
 unfold X3 at h
 split at h
 ·obtain ⟨hl, h⟩ := Tq.br_no h
  cases h
  have hl := aZ hl
  exact Sh _ _ _ hl
 ·cases h
noncomputable def gFd : Env := g14.add 49 (ao X3)
theorem Mb : gFd.Good := pt.add Si
abbrev dh (op nm : aj) (ins : List (aj)) (out : aj) (aa : bk) : AV := .d (Y2) (op, nm, ins, out, aa, ())
theorem X4 (op nm : aj) (ins : List (aj)) (out : aj) (aa : bk) (name : aj) (kind : Int) : aC gFd f64 5 [] [dh op nm ins out aa, .d .str name, I kind] [] ah = bif decide (aa.length <= 9223372036854775807) then bif decide (bu (fun a => a.fst == name && a.snd.fst == kind) aa < 0) then ay [(AV.d Ty.str []).pr ((I 0).pr ((I 0).pr ((I 0).pr ((AV.d Ty.str []).pr (((I 0).pr (AV.nils.pr (AV.nils.pr (AV.d Ty.unit PUnit.unit)))).pr (AV.nils.pr (AV.d Ty.unit PUnit.unit))))))), B false] else (idx aa (bu (fun a => a.fst == name && a.snd.fst == kind) aa)).bind fun v2 => ay [AV.d Y1 v2, B true] else none := by kernel_rfl
def X5 (aa : bk) (name : aj) (kind : Int) : Tq :=
 .br (decide (aa.length <= 9223372036854775807)) (.br (decide (bu (gZ name kind) aa < 0)) (.leaf (.ret [XT, B false]) []) (.opt (aa.find? (gZ name kind)) fun a => .leaf (.ret [.d (Y1) a, B true]) [])) .no
def Ej : List AV -> LHp -> Tq
 | [.d Y2 (_, _, _, _, aa, _), .d .str name, .d zI kind], [] => X5 aa name kind
 | _, _ => .no
theorem Sj (op nm : aj) (ins : List (aj)) (out : aj) (aa : bk) (name : aj) (kind : Int) : aC gFd f64 5 [] [dh op nm ins out aa, .d .str name, I kind] [] ah = (X5 aa name kind).run ah := by
 rw [X4]
 simp only [ud]
 unfold X5
 show _ = _
 kernel_rfl
theorem pC : bE 64 (ao Ej) := by
 have h1 := bS (d := 5) (l := []) Mb func64 call64
 refine aO fun args hs ae aF h' => ?_
 unfold Ej at h'
 split at h'
 ·exact h1.okC ((Sj _ _ _ _ _ _ _).trans h')
 ·cases h'
def aX (aa : bk) (name : aj) (other : Int) : Int := match aa.find? (gZ name 2) with | some a => a.2.2.2.1 | none => other
def ai (aa : bk) (name : aj) (other : ag) : ag := match aa.find? (gZ name 7) with | some a => a.2.2.2.2.2.2.1 | none => other
noncomputable def gI1 : Env := Wf.add 64 (ao Ej)
theorem Mc : gI1.Good := jQ.add pC
theorem X6 (op nm : aj) (ins : List (aj)) (out : aj) (aa : bk) (name : aj) (other : Int) : aC gI1 f59 5 [] [dh op nm ins out aa, .d .str name, I other] [] ah = bif decide (aa.length <= 9223372036854775807) then bif decide (bu (fun a => a.fst == name && a.snd.fst == 2) aa < 0) then ay [I other] else (List.find? (fun a => a.fst == name && a.snd.fst == 2) aa).bind fun v2 => ay [I v2.2.2.2.1] else none := by kernel_rfl
theorem ku {α : Type} (p : α -> Bool) (xs : List α) : decide (bu p xs < 0) = (xs.find? p).isNone := by
 unfold bu
 cases h : xs.findIdx? p with
 | none =>
  rw [List.findIdx?_eq_none_iff] at h
  rw [List.find?_eq_none.2 (fun x hx => by simp [h x hx])]
  rfl
 | some i =>
  obtain ⟨hi, hp, hn⟩ := List.findIdx?_eq_some_iff_getElem.1 h
  rw [List.find?_eq_some_iff_getElem.2 ⟨hp, i, hi, rfl, fun j hj => by simpa using hn j hj⟩]
  exact de (by show ¬ ((i : Nat) : Int) < 0; omega)
theorem Sk {op nm : aj} {ins : List (aj)} {out : aj} {aa : bk} {name : aj} {other : Int} (hl : aa.length <= maxLen) : aC gI1 f59 5 [] [dh op nm ins out aa, .d .str name, I other] [] ah = some (.ret [I (aX aa name other)], []) := by
 rw [X6, aE (show aa.length <= 9223372036854775807 from hl), ku]
 unfold aX
 show (bif true then (bif (aa.find? (gZ name 2)).isNone then _ else (aa.find? (gZ name 2)).bind _) else _) = _
 cases aa.find? (gZ name 2) <;> rfl
def uq : List AV -> LHp -> Tq
 | [.d Y2 (_, _, _, _, aa, _), .d .str name, .d zI other], [] => .br (decide (aa.length <= maxLen)) (.leaf (.ret [I (aX aa name other)]) []) .no
 | _, _ => .no
theorem jm : bE 59 (ao uq) := by
 refine cj Mc bX func59 call59 (depth := 5) (live := []) (by decide +kernel) rfl fun args hs p h => ?_
 unfold uq at h
 split at h
 ·obtain ⟨hl, h⟩ := Tq.br_no h
  cases h
  have hl := aZ hl
  exact Sk hl
 ·cases h
end
end Go.Proofs.XRT
namespace Go.Vm
variable {R : Type}
inductive Nx (A R : Type) where
 | go (a : A)
 | stop (r : Option R)
def cm {A α : Type} (f : A -> α -> Nx A R) (fin : A -> Option R) : List α -> A -> Option R
 | [], a => fin a
 | x :: xs, a => match f a x with
  | .go a' => cm f fin xs a'
  | .stop r => r
theorem dD {S A α : Type} {T : Nat -> S -> Option R} {xs : List α} {st : Int -> A -> S} {f : A -> α -> Nx A R} {fin : A -> Option R} (Inv : Nat -> A -> Prop) (hl : xs.length <= maxLen)
  (h : ∀ (i : Nat) (a : A) (x : α) (n : Nat), Inv i a -> i < xs.length -> xs[i]? = some x -> idx xs (i : Int) = some x -> IntKind.i64.wrap ((i : Int) + 1) = ((i + 1 : Nat) : Int) -> decide ((i : Int) < Int.ofNat xs.length) = true ->
   (∃ a', f a x = .go a' /\ Inv (i + 1) a' /\ T (n + 1) (st (i : Int) a) = T n (st ((i + 1 : Nat) : Int) a')) \/ (∃ r, f a x = .stop r /\ T (n + 1) (st (i : Int) a) = r))
  (he : ∀ (a : A) (n : Nat), Inv xs.length a -> decide (((xs.length : Nat) : Int) < Int.ofNat xs.length) = false -> T (n + 1) (st ((xs.length : Nat) : Int) a) = fin a) {a : A} (h0 : Inv 0 a) : T fu (st 0 a) = cm f fin xs a := by
 have hm : maxLen = 9223372036854775807 := by decide
 have hf : fu = 18446744073709551616 := rfl
 have key : ∀ (r i n : Nat) (a : A), i + r = xs.length -> r < n -> Inv i a -> T n (st (i : Int) a) = cm f fin (xs.drop i) a := by
  intro r
  induction r with
  | zero =>
   intro i n a hi hn hI
   obtain ⟨n, rfl⟩ : ∃ m', n = m' + 1 := ⟨n - 1, by omega⟩
   obtain rfl : i = xs.length := by omega
   rw [List.drop_eq_nil_of_le (by omega)]
   exact he a n hI (de (Int.lt_irrefl _))
  | succ r ih =>
   intro i n a hi hn hI
   obtain ⟨n, rfl⟩ : ∃ m', n = m' + 1 := ⟨n - 1, by omega⟩
   have cn : i < xs.length := by omega
   have gx : xs[i]? = some xs[i] := List.getElem?_eq_getElem cn
   have gi : idx xs (i : Int) = some xs[i] := by unfold idx; rw [if_pos (by omega), Int.toNat_natCast, gx]
   have ed : xs.drop i = xs[i] :: xs.drop (i + 1) := List.drop_eq_getElem_cons cn
   rcases h i a xs[i] n hI cn gx gi (by rw [aJ (by omega) (by omega)]; omega) (aE (by simp only [aT]; omega)) with ⟨a', h1, h2, h3⟩ | ⟨r', h1, h2⟩
   ·rw [h3, ed, cm, h1]
    exact ih (i + 1) n a' (by omega) (by omega) h2
   ·rw [h2, ed, cm, h1]
 have := key xs.length 0 fu a (by omega) (by omega) h0
 exact this
theorem iE {S A : Type} {T : Nat -> S -> Option R} {N : Nat} {st : Int -> A -> S} {f : A -> Nat -> Nx A R} {fin : A -> Option R} (Inv : Nat -> A -> Prop) (hl : N <= maxLen)
  (h : ∀ (i : Nat) (a : A) (n : Nat), Inv i a -> i < N -> IntKind.i64.wrap ((i : Int) + 1) = ((i + 1 : Nat) : Int) -> decide ((i : Int) < Int.ofNat N) = true ->
   (∃ a', f a i = .go a' /\ Inv (i + 1) a' /\ T (n + 1) (st (i : Int) a) = T n (st ((i + 1 : Nat) : Int) a')) \/ (∃ r, f a i = .stop r /\ T (n + 1) (st (i : Int) a) = r))
  (he : ∀ (a : A) (n : Nat), Inv N a -> decide ((N : Int) < Int.ofNat N) = false -> T (n + 1) (st (N : Int) a) = fin a) {a : A} (h0 : Inv 0 a) : T fu (st 0 a) = cm f fin (List.range N) a := by
 have hlen : (List.range N).length = N := List.length_range
 refine dD (xs := List.range N) Inv (by omega) (fun i a x n hI hi gx _ hw hd => ?_) (fun a n hI hd => ?_) h0
 ·rw [hlen] at hi hd
  have e : x = i := by
   rw [List.getElem?_eq_getElem (by omega), List.getElem_range] at gx
   exact (Option.some.inj gx).symm
  subst e
  exact h _ a n hI hi hw hd
 ·rw [hlen] at hI hd ⊢
  exact he a n hI hd
end Go.Vm
namespace Go.Vm
def BU {R : Type} (t : Ty) (k : aq -> LHp -> Option R) (aF : LHp) : aq -> Option R
 | .ret [a] => (match toD (gJ aF) a t with | some x => k (.ret [.d t x]) [] | none => none)
 | .panic n m => k (.panic n m) []
 | _ => none
def Ek (t : Ty) (g : FnE) : FnE := { run := fun args hs k => match hs with
 | [] => g.run args [] fun ae aF => bif gH aF then BU t k aF ae else none
 | _ => none }
theorem sd {P : Program} {Γ : Nat -> Option AV} {f : FuncId} {t : Ty} {g : FnE} (hg : FnE.OK P Γ f g) : FnE.OK P Γ f (Ek t g) := by
 refine ⟨fun args hs k => ?_, fun args hs ae2 rn h => ?_⟩
 ·cases hs with
  | cons _ _ => rfl
  | nil =>
   simp only [Ek]
   rw [hg.eq]
   conv => rhs; rw [hg.eq]
   cases g.run args [] (fun a h => some (a, h)) with
   | none => rfl
   | some p =>
    obtain ⟨ae, aF⟩ := p
    simp only [aA]
    cases gH aF with
    | false => rfl
    | true =>
     simp only [ak]
     unfold BU
     split
     ·split <;> rfl
     ·rfl
     ·rfl
 ·cases hs with
  | cons _ _ => cases h
  | nil =>
   simp only [Ek] at h
   obtain ⟨ae, aF, hrun, h⟩ := hg.nat _ _ _ _ h
   have hF := hg.ok _ _ _ _ hrun
   clear hrun
   cases hA : gH aF with
   | false => rw [hA] at h; cases h
   | true =>
    rw [hA, ak] at h
    refine ⟨hF.1, fun W im μ vals himLt hglob hinv hrep => ?_⟩
    refine (hF.2 W im μ vals himLt hglob hinv hrep).mono ?_
    rintro e w' ⟨mc, h1, bT, bm, ⟨rfl, rfl⟩, S, he⟩
    have eQ : ∀ o, (jn (bm o)).blk = none := fun o => by
     cases ho : az aF o with
     | none => rw [S.inv.dom o ho]; rfl
     | some ob =>
      obtain ⟨T, e, m, z, xs, rfl⟩ := di hA ho
      rcases S.inv.obj o _ ho with ⟨ad, bq, _⟩ | ⟨_, bb, cap, cells, bq, _⟩ | ⟨_, bb, cap, cs, bq, _⟩ <;> rw [bq] <;> rfl
    have qc : Ev w' bT bm (az aF) w' (fun k => bT k \/ ∃ o, (bm o).blk = some k) (fun o => jn (bm o)) (az (gJ aF)) := by
     refine ⟨fun _ h => .inl h, fun _ _ => rfl, fun o ob ho => ?_⟩
     obtain ⟨T, e, m, z, xs, rfl⟩ := di hA ho
     refine ⟨.arr T e m true xs, by rw [iM hA, ho], m, true, xs, rfl, .inl ⟨rfl, rfl, ?_⟩⟩
     cases hm : bm o with
     | row bb cap => exact .inr ⟨bb, cap, rfl, rfl⟩
     | none => exact .inl rfl
     | «at» bb => exact .inl rfl
     | nil ad => exact .inl rfl
     | fz bb cap => exact .inl rfl
    have hobF : ∀ k ob, az (gJ aF) k = some ob -> iH w' (fun k => bT k \/ ∃ o, (bm o).blk = some k) (fun o => jn (bm o)) (az (gJ aF)) (jn (bm k)) ob := by
     intro k ob hk
     rw [iM hA] at hk
     cases ho : az aF k with
     | none => rw [ho] at hk; cases hk
     | some ob0 =>
      obtain ⟨T, e, m, z, xs, rfl⟩ := di hA ho
      rw [ho] at hk
      cases hk
      rcases S.inv.obj k _ ho with ⟨ad, bq, hx⟩ | ⟨_, bb, cap, cells, bq, J1, h1, h2, h3, h4⟩ | ⟨_, bb, cap, cs, bq, q1, q2, q3, q4, q5⟩
      ·rw [bq]
       exact .inl ⟨ad, rfl, hx⟩
      ·rw [bq]
       refine .inr (.inr ⟨rfl, bb, cap, _, rfl, .inr ⟨k, by rw [bq]; rfl⟩, h1, h2, ?_, aU.mono (aM.mono qc.fim qc.fheap e) _ _ h4⟩)
       have := (cJ J1).sub 0 (xs.length * e.size)
       simpa using this
      ·rw [bq]
       exact .inr (.inr ⟨rfl, bb, cap, cs, rfl, .inl q1, q2, q3, q4, aU.mono (aM.mono qc.fim qc.fheap e) _ _ q5⟩)
    have kO : dx W im μ (az []) w' (fun k => bT k \/ ∃ o, (bm o).blk = some k) IN (az []) := by
     refine ⟨S.os, S.tape, S.output, S.grow, S.old, fun b hb => .inl (S.imSub b hb), fun b hb => ?_, fun b hb => ?_, fun _ _ h => (by cases h), fun _ _ h => (by cases h), ⟨fun _ _ h => (by cases h), fun _ _ _ h => (by cases h), fun _ _ => rfl, fun _ _ h => (by cases h)⟩⟩
     ·rcases hb with hb | ⟨o, hb⟩
      ·exact S.imNew b hb
      ·rcases S.own o b hb with h | h
       ·exact .inr (.inl h)
       ·exact .inr (.inr h)
     ·rcases hb with hb | ⟨o, hb⟩
      ·exact S.imLt b hb
      ·exact (S.inv.sep o b hb).2
    cases mc with
    | panic n m =>
     cases h
     exact ⟨_, _, _, _, ⟨rfl, rfl⟩, kO, he⟩
    | ret l =>
     match l, h, he with
     | [a], h, ⟨v, e1, h1, h2⟩ =>
      simp only [BU] at h
      split at h
      ·rename_i x hx
       cases h
       have hc := iK hx
       have hr : bC w' bT bm (az aF) a v := by
        cases a with
        | undef => simp only [RepA] at h1
        | tup l => simp only [RepA] at h1
        | _ => exact ⟨h1, h2⟩
       have hr2 := hr.ev qc
       have vl : RepA w' (fun k => bT k \/ ∃ o, (bm o).blk = some k) (fun o => jn (bm o)) (az (gJ aF)) a v.cells.toList := by
        cases a with
        | undef => simp only [RepA] at h1
        | tup l => simp only [RepA] at h1
        | _ => exact hr2.1
       refine ⟨_, _, _, _, ⟨rfl, rfl⟩, kO, v, e1, ?_, ?_⟩
       ·simp only [RepA]
        exact hc.sound hobF _ vl
       ·rw [h2]; exact hc.agg
      ·cases h
     | [], h, _ => cases h
     | _ :: _ :: _, h, _ => cases h
end Go.Vm
namespace Go.Vm
def yB (hp : LHp) : List AV -> List Ty -> Option (List AV)
 | [], [] => some []
 | a :: l, t :: ts => (match toD hp a t, yB hp l ts with | some x, some r => some (.d t x :: r) | _, _ => none)
 | _, _ => none
def Ya : List AV -> Bool
 | [] => true
 | .d _ _ :: l => Ya l
 | _ :: _ => false
def isD : aq -> Bool
 | .ret l => Ya l
 | .panic _ _ => true
def Yb {R : Type} (hs : LHp) (k : aq -> LHp -> Option R) (aF : LHp) (ae : aq) : Option R :=
 bif aF.isEmpty && isD ae then k ae (gJ hs) else none
def cU (ts : List Ty) (g : FnE) : FnE := { run := fun args hs k => bif gH hs && cF hs.length hs then (match yB (gJ hs) args ts with | some args' => g.run args' [] (fun ae aF => Yb hs k aF ae) | none => none) else none }
theorem pD {w : World} {im : Nat -> Prop} {μ : Mu} {hp : LHp} (ef : ∀ k ob, az hp k = some ob -> iH w im μ (az hp) (μ k) ob) : ∀ {l : List AV} {ts : List Ty} {l' : List AV} {vs : List Value}, yB hp l ts = some l' -> RepFs w im μ (az hp) l vs -> RepFs w im IN aio l' vs
 | [], [], l', vs, h, hr => by cases h; exact hr
 | [], _ :: _, l', vs, h, hr => by cases h
 | _ :: _, [], l', vs, h, hr => by cases h
 | a :: l, t :: ts, l', vs, h, hr => by
  simp only [yB] at h
  split at h
  ·rename_i x r hb hl
   cases h
   simp only [RepFs] at hr ⊢
   obtain ⟨v, us, e, h1, h2, h3⟩ := hr
   have hc := iK hb
   refine ⟨v, us, e, ?_, ?_, pD ef hl h3⟩
   ·simp only [RepA]
    exact hc.sound ef _ h1
   ·rw [h2]
    exact hc.agg
  ·cases h
theorem ur {w : World} {im : Nat -> Prop} {μ bm : Mu} {hp bq : Hp} : ∀ {l : List AV} {vs : List Value}, Ya l = true -> RepFs w im μ hp l vs -> RepFs w im bm bq l vs
 | [], vs, _, hr => hr
 | a :: l, vs, h, hr => by
  cases a with
  | d t x =>
   simp only [RepFs] at hr ⊢
   obtain ⟨v, us, e, h1, h2, h3⟩ := hr
   simp only [RepA] at h1
   refine ⟨v, us, e, ?_, h2, ur h h3⟩
   simp only [RepA]
   exact h1
  | _ => cases h
theorem bF {P : Program} {Γ : Nat -> Option AV} {f : FuncId} {ts : List Ty} {g : FnE} (hg : FnE.OK P Γ f g) : FnE.OK P Γ f (cU ts g) := by
 refine ⟨fun args hs k => ?_, fun args hs ae2 rn h => ?_⟩
 ·simp only [cU]
  cases gH hs && cF hs.length hs with
  | false => rfl
  | true =>
   simp only [ak]
   cases yB (gJ hs) args ts with
   | none => rfl
   | some args' =>
    simp only
    rw [hg.eq]
    conv => rhs; rw [hg.eq]
    cases g.run args' [] (fun a h => some (a, h)) with
    | none => rfl
    | some p =>
     obtain ⟨ae, aF⟩ := p
     simp only [aA, Yb]
     cases aF.isEmpty && isD ae <;> rfl
 ·simp only [cU] at h
  cases hc : gH hs && cF hs.length hs with
  | false => rw [hc] at h; cases h
  | true =>
   rw [hc] at h
   simp only [bg] at hc
   obtain ⟨hA, hB⟩ := hc
   simp only [ak] at h
   split at h
   ·rename_i args' hargs
    obtain ⟨ae, aF, hrun, h⟩ := hg.nat _ _ _ _ h
    have hF := hg.ok _ _ _ _ hrun
    clear hrun
    simp only [Yb] at h
    cases hA' : aF.isEmpty && isD ae with
    | false => rw [hA'] at h; cases h
    | true =>
      rw [hA', ak] at h
      simp only [bg] at hA'
      obtain ⟨hE', hD'⟩ := hA'
      have hnil : aF = [] := List.isEmpty_iff.1 hE'
      subst hnil
      cases h
      ·skip
       refine ⟨hF.1, fun W im μ vals himLt hglob hinv hrep => ?_⟩
       have eQ : ∀ o, (jn (μ o)).blk = none := fun o => by
        cases ho : az hs o with
        | none => rw [hinv.dom o ho]; rfl
        | some ob =>
         obtain ⟨T, e, m, z, xs, rfl⟩ := di hA ho
         rcases hinv.obj o _ ho with ⟨ad, bq, _⟩ | ⟨_, bb, cap, cells, bq, _⟩ | ⟨_, bb, cap, cs, bq, _⟩ <;> rw [bq] <;> rfl
       have qc : Ev W im μ (az hs) W (fun k => im k \/ ∃ o, (μ o).blk = some k) (fun o => jn (μ o)) (az (gJ hs)) := by
        refine ⟨fun _ h => .inl h, fun _ _ => rfl, fun o ob ho => ?_⟩
        obtain ⟨T, e, m, z, xs, rfl⟩ := di hA ho
        refine ⟨.arr T e m true xs, by rw [iM hA, ho], m, true, xs, rfl, .inl ⟨rfl, rfl, ?_⟩⟩
        cases hm : μ o with
        | row bb cap => exact .inr ⟨bb, cap, rfl, rfl⟩
        | none => exact .inl rfl
        | «at» bb => exact .inl rfl
        | nil ad => exact .inl rfl
        | fz bb cap => exact .inl rfl
       have hobF : ∀ k ob, az (gJ hs) k = some ob -> iH W (fun k => im k \/ ∃ o, (μ o).blk = some k) (fun o => jn (μ o)) (az (gJ hs)) (jn (μ k)) ob := by
        intro k ob hk
        rw [iM hA] at hk
        cases ho : az hs k with
        | none => rw [ho] at hk; cases hk
        | some ob0 =>
         obtain ⟨T, e, m, z, xs, rfl⟩ := di hA ho
         rw [ho] at hk
         cases hk
         rcases hinv.obj k _ ho with ⟨ad, bq, hx⟩ | ⟨_, bb, cap, cells, bq, J1, h1, h2, h3, h4⟩ | ⟨_, bb, cap, cs, bq, q1, q2, q3, q4, q5⟩
         ·rw [bq]
          exact .inl ⟨ad, rfl, hx⟩
         ·rw [bq]
          refine .inr (.inr ⟨rfl, bb, cap, _, rfl, .inr ⟨k, by rw [bq]; rfl⟩, h1, h2, ?_, aU.mono (aM.mono qc.fim qc.fheap e) _ _ h4⟩)
          have := (cJ J1).sub 0 (xs.length * e.size)
          simpa using this
         ·rw [bq]
          exact .inr (.inr ⟨rfl, bb, cap, cs, rfl, .inl q1, q2, q3, q4, aU.mono (aM.mono qc.fim qc.fheap e) _ _ q5⟩)
       have hltF : ∀ k, (im k \/ ∃ o, (μ o).blk = some k) -> k < W.heap.size := by
        rintro k (hk | ⟨o, hk⟩)
        ·exact himLt k hk
        ·exact (hinv.sep o k hk).2
       have hargsF := pD hobF hargs (RepFs.ev qc _ _ hrep)
       have hglobF : lH Γ W (fun k => im k \/ ∃ o, (μ o).blk = some k) := fun gg v hv => (hglob gg v hv).ev ⟨fun _ h => .inl h, fun _ _ => rfl, fun _ _ h => (by cases h)⟩
       have hinvF : kj W (fun k => im k \/ ∃ o, (μ o).blk = some k) IN (az []) := ⟨fun _ _ h => (by cases h), fun _ _ _ h => (by cases h), fun _ _ => rfl, fun _ _ h => (by cases h)⟩
       refine (hF.2 W _ IN vals hltF hglobF hinvF hargsF).mono ?_
       rintro e w' ⟨mc, h1, bT, bm, ⟨rfl, rfl⟩, S, he⟩
       have hlow : ∀ o, hs.length <= o -> az hs o = none := fun o ho => (by cases hq : az hs o with
        | none => rfl
        | some ob => exact absurd (cD hB o ob hq) (by omega))
       have hfree : ∀ b, b < W.heap.size -> w'.heap[b]? = W.heap[b]? := fun b hb => S.old b hb fun o h => by cases h
       have ev2 : Ev W (fun k => im k \/ ∃ o, (μ o).blk = some k) (fun o => jn (μ o)) (az (gJ hs)) w' bT (fun o => jn (μ o)) (az (gJ hs)) :=
        ⟨S.imSub, fun b hb => hfree b (hltF b hb), fun o ob ho => ⟨ob, ho, cZ.refl _ _⟩⟩
       refine ⟨_, _, bT, fun o => jn (μ o), ⟨rfl, rfl⟩, ⟨S.os, S.tape, S.output, S.grow, fun b hb _ => hfree b hb, fun b hb => S.imSub b (.inl hb), fun b hb => ?_, S.imLt, fun o b hb => ?_, fun o ob ho => qc.fob o ob ho, ⟨fun o b hb => ?_, fun o o' b h1 h2 => ?_, fun o ho => ?_, fun o ob ho => ?_⟩⟩, ?_⟩
       ·rcases S.imNew b hb with (h | h) | ⟨o, h⟩ | h
        ·exact .inl h
        ·exact .inr (.inl h)
        ·cases h
        ·exact .inr (.inr h)
       ·rw [eQ] at hb; cases hb
       ·rw [eQ] at hb; cases hb
       ·rw [eQ] at h1; cases h1
       ·rw [iM hA] at ho
        cases hq : az hs o with
        | none => rw [hinv.dom o hq]; rfl
        | some ob0 =>
         obtain ⟨T, e, m, z, xs, rfl⟩ := di hA hq
         rw [hq] at ho
         cases ho
       ·exact (hobF o ob ho).ev ev2 fun b hb => by rw [eQ] at hb; cases hb
       ·cases mc with
        | panic t n => exact he
        | ret l =>
         match l, hD', he with
         | [.d t x], _, ⟨v, e1, h1, h2⟩ =>
          refine ⟨v, e1, ?_, h2⟩
          simp only [RepA] at h1 ⊢
          exact h1
         | [], hd, ⟨vs, e1, h1⟩ => exact ⟨vs, e1, ur hd h1⟩
         | _ :: _ :: _, hd, ⟨vs, e1, h1⟩ => exact ⟨vs, e1, ur hd h1⟩
   ·cases h
end Go.Vm
namespace Go.Vm
theorem BV {hp : LHp} {a b : AV} {l : List AV} {ts : List Ty} {l' : List AV} (h : yB hp (a :: b :: l) ts = some l') : ∃ x y r, l' = x :: y :: r := by
 match ts, h with
 | t :: [], h =>
  simp only [yB] at h
  split at h
  ·rename_i h2
   cases h2
  ·cases h
 | t :: u :: ts, h =>
  simp only [yB] at h
  split at h
  ·rename_i x r hx hr
   cases h
   split at hr
   ·cases hr; exact ⟨_, _, _, rfl⟩
   ·cases hr
  ·cases h
def BW {R : Type} (ts : List Ty) (k : aq -> LHp -> Option R) (aF : LHp) : aq -> Option R
 | .ret (a :: b :: l) => (match yB (gJ aF) (a :: b :: l) ts with | some l' => k (.ret l') [] | none => none)
 | .panic n m => k (.panic n m) []
 | _ => none
def El (ts : List Ty) (g : FnE) : FnE := { run := fun args hs k => match hs with
 | [] => g.run args [] fun ae aF => bif gH aF then BW ts k aF ae else none
 | _ => none }
theorem F0 {P : Program} {Γ : Nat -> Option AV} {f : FuncId} {ts : List Ty} {g : FnE} (hg : FnE.OK P Γ f g) : FnE.OK P Γ f (El ts g) := by
 refine ⟨fun args hs k => ?_, fun args hs ae2 rn h => ?_⟩
 ·cases hs with
  | cons _ _ => rfl
  | nil =>
   simp only [El]
   rw [hg.eq]
   conv => rhs; rw [hg.eq]
   cases g.run args [] (fun a h => some (a, h)) with
   | none => rfl
   | some p =>
    obtain ⟨ae, aF⟩ := p
    simp only [aA]
    cases gH aF with
    | false => rfl
    | true =>
     simp only [ak]
     unfold BW
     split
     ·split <;> rfl
     ·rfl
     ·rfl
 ·cases hs with
  | cons _ _ => cases h
  | nil =>
   simp only [El] at h
   obtain ⟨ae, aF, hrun, h⟩ := hg.nat _ _ _ _ h
   have hF := hg.ok _ _ _ _ hrun
   clear hrun
   cases hA : gH aF with
   | false => rw [hA] at h; cases h
   | true =>
    rw [hA, ak] at h
    refine ⟨hF.1, fun W im μ vals himLt hglob hinv hrep => ?_⟩
    refine (hF.2 W im μ vals himLt hglob hinv hrep).mono ?_
    rintro e w' ⟨mc, h1, bT, bm, ⟨rfl, rfl⟩, S, he⟩
    have eQ : ∀ o, (jn (bm o)).blk = none := fun o => by
     cases ho : az aF o with
     | none => rw [S.inv.dom o ho]; rfl
     | some ob =>
      obtain ⟨T, e, m, z, xs, rfl⟩ := di hA ho
      rcases S.inv.obj o _ ho with ⟨ad, bq, _⟩ | ⟨_, bb, cap, cells, bq, _⟩ | ⟨_, bb, cap, cs, bq, _⟩ <;> rw [bq] <;> rfl
    have qc : Ev w' bT bm (az aF) w' (fun k => bT k \/ ∃ o, (bm o).blk = some k) (fun o => jn (bm o)) (az (gJ aF)) := by
     refine ⟨fun _ h => .inl h, fun _ _ => rfl, fun o ob ho => ?_⟩
     obtain ⟨T, e, m, z, xs, rfl⟩ := di hA ho
     refine ⟨.arr T e m true xs, by rw [iM hA, ho], m, true, xs, rfl, .inl ⟨rfl, rfl, ?_⟩⟩
     cases hm : bm o with
     | row bb cap => exact .inr ⟨bb, cap, rfl, rfl⟩
     | none => exact .inl rfl
     | «at» bb => exact .inl rfl
     | nil ad => exact .inl rfl
     | fz bb cap => exact .inl rfl
    have hobF : ∀ k ob, az (gJ aF) k = some ob -> iH w' (fun k => bT k \/ ∃ o, (bm o).blk = some k) (fun o => jn (bm o)) (az (gJ aF)) (jn (bm k)) ob := by
     intro k ob hk
     rw [iM hA] at hk
     cases ho : az aF k with
     | none => rw [ho] at hk; cases hk
     | some ob0 =>
      obtain ⟨T, e, m, z, xs, rfl⟩ := di hA ho
      rw [ho] at hk
      cases hk
      rcases S.inv.obj k _ ho with ⟨ad, bq, hx⟩ | ⟨_, bb, cap, cells, bq, J1, h1, h2, h3, h4⟩ | ⟨_, bb, cap, cs, bq, q1, q2, q3, q4, q5⟩
      ·rw [bq]
       exact .inl ⟨ad, rfl, hx⟩
      ·rw [bq]
       refine .inr (.inr ⟨rfl, bb, cap, _, rfl, .inr ⟨k, by rw [bq]; rfl⟩, h1, h2, ?_, aU.mono (aM.mono qc.fim qc.fheap e) _ _ h4⟩)
       have := (cJ J1).sub 0 (xs.length * e.size)
       simpa using this
      ·rw [bq]
       exact .inr (.inr ⟨rfl, bb, cap, cs, rfl, .inl q1, q2, q3, q4, aU.mono (aM.mono qc.fim qc.fheap e) _ _ q5⟩)
    have kO : dx W im μ (az []) w' (fun k => bT k \/ ∃ o, (bm o).blk = some k) IN (az []) := by
     refine ⟨S.os, S.tape, S.output, S.grow, S.old, fun b hb => .inl (S.imSub b hb), fun b hb => ?_, fun b hb => ?_, fun _ _ h => (by cases h), fun _ _ h => (by cases h), ⟨fun _ _ h => (by cases h), fun _ _ _ h => (by cases h), fun _ _ => rfl, fun _ _ h => (by cases h)⟩⟩
     ·rcases hb with hb | ⟨o, hb⟩
      ·exact S.imNew b hb
      ·rcases S.own o b hb with h | h
       ·exact .inr (.inl h)
       ·exact .inr (.inr h)
     ·rcases hb with hb | ⟨o, hb⟩
      ·exact S.imLt b hb
      ·exact (S.inv.sep o b hb).2
    cases mc with
    | panic n m =>
     cases h
     exact ⟨_, _, _, _, ⟨rfl, rfl⟩, kO, he⟩
    | ret l =>
     match l, h, he with
     | [], h, _ => cases h
     | [_], h, _ => cases h
     | a :: b :: l, h, ⟨vs, e1, h1⟩ =>
      simp only [BW] at h
      split at h
      ·rename_i l' vp
       cases h
       have h2 := pD hobF vp (RepFs.ev qc _ _ h1)
       obtain ⟨t1, t2, rest, hd⟩ := BV vp
       subst hd
       exact ⟨_, _, _, _, ⟨rfl, rfl⟩, kO, vs, e1, h2⟩
      ·cases h
end Go.Vm
namespace Go.Vm
variable {R : Type}
def yC (E : Env) (fn : Func) (depth : Nat) (live : List (Nat × List Nat)) (D : mE) (b : Nat) (ids : List Nat) (hl : Hl) (args : List AV) (hs : LHp) (k : aq -> LHp -> Option R) : Option R :=
 match fn.body, D.gn.body with
 | some (.seq R0 (.seq _ y)), some (.seq _ rest) =>
  bif Nat.ble args.length fn.ntmps && cF hs.length hs then
   exC E ⟨fn.ntmps, depth, hs.length, live, false⟩ R0 ⟨aw depth (number 0 args), hs, hs.length⟩ fun e0 s0 =>
    match e0 with
    | .normal =>
     let caps := evs E s0 D.caps
     bif caps.all (lZ s0.hp) && cF s0.nx s0.hp && Nat.beq s0.nx b then
      exH E ⟨fn.ntmps, depth, b, live, false⟩ ids hl y (s0.set D.t15 (.fn (.func D.g) [] caps)) (wQ E D rest hs.length fn.results.toList caps k)
     else none
    | _ => none
  else none
 | _, _ => none
theorem BX {E : Env} (hE : E.Good) {fn : Func} {depth : Nat} {live : List (Nat × List Nat)} {D : mE} {b : Nat} {ids : List Nat} {args : List AV} {hs : LHp} {k : aq -> LHp -> Option R} {r : R}
  (h : yC E fn depth live D b ids (hlp E ⟨fn.ntmps, depth, b, live, false⟩) args hs k = some r) : tW E fn depth live D args hs k = some r := by
 unfold yC at h
 unfold tW
 split at h
 ·rename_i R0 q y q2 rest h1 h2
  rw [h1, h2]
  simp only
  cases hb : Nat.ble args.length fn.ntmps && cF hs.length hs with
  | false => rw [hb] at h; cases h
  | true =>
   rw [hb, ak] at h
   rw [ak]
   rw [oA hE] at h ⊢
   rw [A4 hE] at h ⊢
   obtain ⟨p, hp, h3⟩ := aS h
   rw [hp]
   obtain ⟨e0, s0⟩ := p
   simp only [aA, pk]
   simp only [pk] at h3
   cases e0 with
   | normal =>
    simp only at h3 ⊢
    cases hc : (evs E s0 D.caps).all (lZ s0.hp) && cF s0.nx s0.hp && Nat.beq s0.nx b with
    | false => rw [hc] at h3; cases h3
    | true =>
     rw [hc, ak] at h3
     rw [bg] at hc
     rw [hc.1, ak, bo hc.2]
     rw [r8] at h3
     exact h3
   | _ => cases h3
 ·cases h
end Go.Vm
namespace Go.Vm
def dj (t : Ty) (r : Option (aq × LHp)) : Option (aq × LHp) := match r with
 | some (ae, aF) => bif gH aF then BU t ah aF ae else none
 | none => none
theorem FnE.OK.okO {E : Env} {fn : Func} {depth : Nat} {live : List (Nat × List Nat)} {P : Program} {Γ : Nat -> Option AV} {f : FuncId} (h : FnE.OK P Γ f (au E fn depth live)) (t : Ty) {args : List AV} {aF : LHp} {ae : aq} (e : dj t (aC E fn depth live args [] ah) = some (ae, aF)) : FnH P Γ f args (az []) (fun mc h1 => mc = ae /\ h1 = az aF) := by
 refine (sd (t := t) h).ok args [] ae aF ?_
 simp only [Ek]
 rw [h.eq]
 have e' : dj t ((au E fn depth live).run args [] fun a h => some (a, h)) = some (ae, aF) := e
 cases hr : (au E fn depth live).run args [] (fun a h => some (a, h)) with
 | none => rw [hr] at e'; cases e'
 | some p => rw [hr] at e'; exact e'
abbrev pnc (t : TypeId) (n : Int) : Tq := .leaf (.panic t n) []
abbrev dat (t : Ty) (x : t.den) : Tq := .leaf (.ret [.d t x]) []
theorem BY (t : Ty) (c : Bool) (a b : Option (aq × LHp)) : dj t (bif c then a else b) = bif c then dj t a else dj t b := by cases c <;> rfl
end Go.Vm
namespace Go.Vm
theorem ie : ∀ (hp : LHp) (o : Nat), az (gJ hp) o = (match az hp o with | some (.arr T e m _ xs) => some (.arr T e m true xs) | x => x)
 | [], _ => rfl
 | (a, .arr T e m z xs) :: r, o => by
  simp only [gJ, az]
  cases hb : Nat.beq a o with
  | true => rfl
  | false => exact ie r o
 | (a, .box v) :: r, o => by
  simp only [gJ, az]
  cases hb : Nat.beq a o with
  | true => rfl
  | false => exact ie r o
 | (a, .rc v) :: r, o => by
  simp only [gJ, az]
  cases hb : Nat.beq a o with
  | true => rfl
  | false => exact ie r o
theorem Md {w' : World} {bT : Nat -> Prop} {bm : Mu} {aF : LHp} (inv : kj w' bT bm (az aF)) :
  Ev w' bT bm (az aF) w' (fun k => bT k \/ ∃ o, (bm o).blk = some k) (fun o => jn (bm o)) (az (gJ aF)) := by
 refine ⟨fun _ h => .inl h, fun _ _ => rfl, fun o ob ho => ?_⟩
 have nO := inv.obj o ob ho
 cases ob with
 | box v =>
  obtain ⟨b, cells, T, bq, _⟩ := nO
  exact ⟨.box v, by rw [ie, ho], by show jn (bm o) = bm o; rw [bq]; rfl⟩
 | rc r =>
  obtain ⟨b, x, bq, _⟩ := nO
  exact ⟨.rc r, by rw [ie, ho], by show jn (bm o) = bm o; rw [bq]; rfl, rfl⟩
 | arr T e m z xs =>
  refine ⟨.arr T e m true xs, by rw [ie, ho], m, true, xs, rfl, .inl ⟨rfl, rfl, ?_⟩⟩
  cases hm : bm o with
  | row bb cap => exact .inr ⟨bb, cap, rfl, rfl⟩
  | none => exact .inl rfl
  | «at» bb => exact .inl rfl
  | nil ad => exact .inl rfl
  | fz bb cap => exact .inl rfl
theorem Wg {w' : World} {bT : Nat -> Prop} {bm : Mu} {aF : LHp} (inv : kj w' bT bm (az aF)) :
  ∀ k ob, az (gJ aF) k = some ob -> iH w' (fun k => bT k \/ ∃ o, (bm o).blk = some k) (fun o => jn (bm o)) (az (gJ aF)) (jn (bm k)) ob := by
 intro k ob hk
 have qc := Md inv
 rw [ie] at hk
 cases ho : az aF k with
 | none => rw [ho] at hk; cases hk
 | some ob0 =>
  rw [ho] at hk
  cases ob0 with
  | box v =>
   cases hk
   have nO := inv.obj k _ ho
   have bq : jn (bm k) = bm k := by obtain ⟨b, cells, T, bq, _⟩ := nO; rw [bq]; rfl
   rw [bq]
   exact nO.ev qc fun _ _ => rfl
  | rc r =>
   cases hk
   have nO := inv.obj k _ ho
   have bq : jn (bm k) = bm k := by obtain ⟨b, x, bq, _⟩ := nO; rw [bq]; rfl
   rw [bq]
   exact nO.ev qc fun _ _ => rfl
  | arr T e m z xs =>
   cases hk
   rcases inv.obj k _ ho with ⟨ad, bq, hx⟩ | ⟨_, bb, cap, cells, bq, J1, h1, h2, h3, h4⟩ | ⟨_, bb, cap, cs, bq, q1, q2, q3, q4, q5⟩
   ·rw [bq]
    exact .inl ⟨ad, rfl, hx⟩
   ·rw [bq]
    refine .inr (.inr ⟨rfl, bb, cap, _, rfl, .inr ⟨k, by rw [bq]; rfl⟩, h1, h2, ?_, aU.mono (aM.mono qc.fim qc.fheap e) _ _ h4⟩)
    have := (cJ J1).sub 0 (xs.length * e.size)
    simpa using this
   ·rw [bq]
    exact .inr (.inr ⟨rfl, bb, cap, cs, rfl, .inl q1, q2, q3, q4, aU.mono (aM.mono qc.fim qc.fheap e) _ _ q5⟩)
theorem F3 {W w' : World} {im bT : Nat -> Prop} {μ bm : Mu} {aF : LHp} (S : dx W im μ (az []) w' bT bm (az aF)) : dx W im μ (az []) w' (fun k => bT k \/ ∃ o, (bm o).blk = some k) IN (az []) := by
 refine ⟨S.os, S.tape, S.output, S.grow, S.old, fun b hb => .inl (S.imSub b hb), fun b hb => ?_, fun b hb => ?_, fun _ _ h => (by cases h), fun _ _ h => (by cases h), ⟨fun _ _ h => (by cases h), fun _ _ _ h => (by cases h), fun _ _ => rfl, fun _ _ h => (by cases h)⟩⟩
 ·rcases hb with hb | ⟨o, hb⟩
  ·exact S.imNew b hb
  ·rcases S.own o b hb with h | h
   ·exact .inr (.inl h)
   ·exact .inr (.inr h)
 ·rcases hb with hb | ⟨o, hb⟩
  ·exact S.imLt b hb
  ·exact (S.inv.sep o b hb).2
def Sm (t : Ty) (g : FnE) : FnE := { run := fun args hs k => match hs with
 | [] => g.run args [] fun ae aF => BU t k aF ae
 | _ => none }
theorem Sn {P : Program} {Γ : Nat -> Option AV} {f : FuncId} {t : Ty} {g : FnE} (hg : FnE.OK P Γ f g) : FnE.OK P Γ f (Sm t g) := by
 refine ⟨fun args hs k => ?_, fun args hs ae2 rn h => ?_⟩
 ·cases hs with
  | cons _ _ => rfl
  | nil =>
   simp only [Sm]
   rw [hg.eq]
   conv => rhs; rw [hg.eq]
   cases g.run args [] (fun a h => some (a, h)) with
   | none => rfl
   | some p =>
    obtain ⟨ae, aF⟩ := p
    simp only [aA]
    unfold BU
    split
    ·split <;> rfl
    ·rfl
    ·rfl
 ·cases hs with
  | cons _ _ => cases h
  | nil =>
   simp only [Sm] at h
   obtain ⟨ae, aF, hrun, h⟩ := hg.nat _ _ _ _ h
   have hF := hg.ok _ _ _ _ hrun
   clear hrun
   refine ⟨hF.1, fun W im μ vals himLt hglob hinv hrep => ?_⟩
   refine (hF.2 W im μ vals himLt hglob hinv hrep).mono ?_
   rintro e w' ⟨mc, h1, bT, bm, ⟨rfl, rfl⟩, S, he⟩
   have qc := Md S.inv
   have hobF := Wg S.inv
   have kO := F3 S
   cases mc with
   | panic n m =>
    cases h
    exact ⟨_, _, _, _, ⟨rfl, rfl⟩, kO, he⟩
   | ret l =>
    match l, h, he with
    | [a], h, ⟨v, e1, h1, h2⟩ =>
     simp only [BU] at h
     split at h
     ·rename_i x hx
      cases h
      have hc := iK hx
      have hr : bC w' bT bm (az aF) a v := by
       cases a with
       | undef => simp only [RepA] at h1
       | tup l => simp only [RepA] at h1
       | _ => exact ⟨h1, h2⟩
      have hr2 := hr.ev qc
      have vl : RepA w' (fun k => bT k \/ ∃ o, (bm o).blk = some k) (fun o => jn (bm o)) (az (gJ aF)) a v.cells.toList := by
       cases a with
       | undef => simp only [RepA] at h1
       | tup l => simp only [RepA] at h1
       | _ => exact hr2.1
      refine ⟨_, _, _, _, ⟨rfl, rfl⟩, kO, v, e1, ?_, ?_⟩
      ·simp only [RepA]
       exact hc.sound hobF _ vl
      ·rw [h2]; exact hc.agg
     ·cases h
    | [], h, _ => cases h
    | _ :: _ :: _, h, _ => cases h
def F4 (ts : List Ty) (g : FnE) : FnE := { run := fun args hs k => match hs with
 | [] => g.run args [] fun ae aF => BW ts k aF ae
 | _ => none }
theorem Me {P : Program} {Γ : Nat -> Option AV} {f : FuncId} {ts : List Ty} {g : FnE} (hg : FnE.OK P Γ f g) : FnE.OK P Γ f (F4 ts g) := by
 refine ⟨fun args hs k => ?_, fun args hs ae2 rn h => ?_⟩
 ·cases hs with
  | cons _ _ => rfl
  | nil =>
   simp only [F4]
   rw [hg.eq]
   conv => rhs; rw [hg.eq]
   cases g.run args [] (fun a h => some (a, h)) with
   | none => rfl
   | some p =>
    obtain ⟨ae, aF⟩ := p
    simp only [aA]
    unfold BW
    split
    ·split <;> rfl
    ·rfl
    ·rfl
 ·cases hs with
  | cons _ _ => cases h
  | nil =>
   simp only [F4] at h
   obtain ⟨ae, aF, hrun, h⟩ := hg.nat _ _ _ _ h
   have hF := hg.ok _ _ _ _ hrun
   clear hrun
   refine ⟨hF.1, fun W im μ vals himLt hglob hinv hrep => ?_⟩
   refine (hF.2 W im μ vals himLt hglob hinv hrep).mono ?_
   rintro e w' ⟨mc, h1, bT, bm, ⟨rfl, rfl⟩, S, he⟩
   have qc := Md S.inv
   have hobF := Wg S.inv
   have kO := F3 S
   cases mc with
   | panic n m =>
    cases h
    exact ⟨_, _, _, _, ⟨rfl, rfl⟩, kO, he⟩
   | ret l =>
    match l, h, he with
    | [], h, _ => cases h
    | [_], h, _ => cases h
    | a :: b :: l, h, ⟨vs, e1, h1⟩ =>
     simp only [BW] at h
     split at h
     ·rename_i l' vp
      cases h
      have h2 := pD hobF vp (RepFs.ev qc _ _ h1)
      obtain ⟨t1, t2, rest, hd⟩ := BV vp
      subst hd
      exact ⟨_, _, _, _, ⟨rfl, rfl⟩, kO, vs, e1, h2⟩
     ·cases h
def uu (t : Ty) (r : Option (aq × LHp)) : Option (aq × LHp) := match r with
 | some (ae, aF) => BU t ah aF ae
 | none => none
def lO (ts : List Ty) (r : Option (aq × LHp)) : Option (aq × LHp) := match r with
 | some (ae, aF) => BW ts ah aF ae
 | none => none
theorem FnE.OK.okB {E : Env} {fn : Func} {depth : Nat} {live : List (Nat × List Nat)} {P : Program} {Γ : Nat -> Option AV} {f : FuncId} (h : FnE.OK P Γ f (au E fn depth live)) (t : Ty) {args : List AV} {aF : LHp} {ae : aq} (e : uu t (aC E fn depth live args [] ah) = some (ae, aF)) : FnH P Γ f args (az []) (fun mc h1 => mc = ae /\ h1 = az aF) := by
 refine (Sn (t := t) h).ok args [] ae aF ?_
 simp only [Sm]
 rw [h.eq]
 have e' : uu t ((au E fn depth live).run args [] fun a h => some (a, h)) = some (ae, aF) := e
 cases hr : (au E fn depth live).run args [] (fun a h => some (a, h)) with
 | none => rw [hr] at e'; cases e'
 | some p => rw [hr] at e'; exact e'
theorem FnE.OK.okBQ {E : Env} {fn : Func} {depth : Nat} {live : List (Nat × List Nat)} {P : Program} {Γ : Nat -> Option AV} {f : FuncId} (h : FnE.OK P Γ f (au E fn depth live)) (ts : List Ty) {args : List AV} {aF : LHp} {ae : aq} (e : lO ts (aC E fn depth live args [] ah) = some (ae, aF)) : FnH P Γ f args (az []) (fun mc h1 => mc = ae /\ h1 = az aF) := by
 refine (Me (ts := ts) h).ok args [] ae aF ?_
 simp only [F4]
 rw [h.eq]
 have e' : lO ts ((au E fn depth live).run args [] fun a h => some (a, h)) = some (ae, aF) := e
 cases hr : (au E fn depth live).run args [] (fun a h => some (a, h)) with
 | none => rw [hr] at e'; cases e'
 | some p => rw [hr] at e'; exact e'
end Go.Vm
namespace Go.Vm
theorem wU {w : World} {im : Nat -> Prop} {μ : Mu} {hp : Hp} : ∀ {args : List AV} {vals : List Value}, RepFs w im μ hp args vals -> ∀ (e : Ty) (xs : List e.den), AV.d (.slice e) xs ∈ args -> xs.length <= maxLen
 | [], _, _, _, _, h => by cases h
 | a :: l, vs, hr, e, xs, h => by
  simp only [RepFs] at hr
  obtain ⟨v, us, _, h1, _, h2⟩ := hr
  rcases List.mem_cons.1 h with rfl | h
  ·simp only [RepA] at h1
   obtain ⟨a, cap, _, h3, h4, _⟩ := h1
   exact Nat.le_trans h3 h4
  ·exact wU h2 e xs h
theorem FnH.len {P : Program} {Γ : Nat -> Option AV} {f : FuncId} {args : List AV} {h0 : Hp} {R : aq -> Hp -> Prop} (hc : ∀ (vs : Array Value) (w : World), (callFunc f vs).run P w = .ok (.enter f vs) w)
  (h : (∀ (e : Ty) (xs : List e.den), AV.d (.slice e) xs ∈ args -> xs.length <= maxLen) -> FnH P Γ f args h0 R) : FnH P Γ f args h0 R :=
 ⟨hc, fun W im μ vals a b c d => (h (wU d)).2 W im μ vals a b c d⟩
end Go.Vm
set_option maxRecDepth 100000
set_option maxHeartbeats 4000000
namespace Go.Proofs.XRT
open Go.Vm Go Tryz IntKind
noncomputable section
noncomputable def Wh : Code := bD f9
noncomputable def Sq : Code := cL (cL (cR (cL (cR (cR Wh)))))
noncomputable def ig : Cfg := ⟨22, 5, 0, [(3, [0, 3, 4])], true⟩
noncomputable def Wi : Code := bD f7
noncomputable def Yc : Code := cL (cL (cR (cL (cR Wi))))
noncomputable def jS : Cfg := ⟨20, 5, 0, [(2, [0, 3])], true⟩
theorem Yd (a : ag) : aC Sf f56 3 [] [.d (.slice af) a] [] ah = (app [] a).bind fun v0 => some (aq.ret [AV.os 0 0], [(0, al.arr 3 (af) 0 false v0)]) := by kernel_rfl
theorem F5 {α : Type} {a : List α} (h : a.length <= 2147483648) : app ([] : List α) a = some a := by
 rw [fB (by rw [show lim = 4294967296 from rfl]; simp only [List.length_nil]; omega)]
 rfl
def Ye : List AV -> LHp -> Tq
 | [.d zS a], [] => .br (decide (a.length <= 2147483648)) (dat (.slice af) a) .no
 | _, _ => .no
theorem Sr : bE 56 (ao Ye) := by
 refine aO fun args hs ae aF h' => ?_
 unfold Ye at h'
 split at h'
 ·rename_i a
  obtain ⟨hb, h2⟩ := Tq.br_no h'
  have h1 : bE 56 (au Sf f56 3 []) := L8
  refine h1.okO (.slice af) (Eq.trans ?_ h2)
  rw [Yd, F5 (aZ hb)]
  rfl
 ·cases h'
noncomputable def ae4 : FnE := cU [.slice af] (ao Ye)
theorem Ss : bE 56 ae4 := bF Sr
noncomputable def ae5 : Env := g83.add 56 ae4
theorem IP : ae5.Good := uo.add Ss
theorem Yf (t : Int) (d x : ag) : aC ae5 f22 5 [] [.d (Y0) (t, d, x, ())] [] ah = bif decide (d.length <= 2147483648) then (app [] x).bind fun v1 => some (aq.ret [(I t).pr ((AV.d (af).slice d).pr ((AV.os 0 0).pr (AV.d Ty.unit PUnit.unit)))], [(0, al.arr 2 (af) 0 false v1)]) else none := by kernel_rfl
def Yg : List AV -> LHp -> Tq
 | [.d Y0 t], [] => .br (decide (List.length t.2.1 <= 2147483648 /\ List.length t.2.2.1 <= 2147483648)) (dat (Y0) t) .no
 | _, _ => .no
theorem St : bE 22 (ao Yg) := by
 have h1 := bS (d := 5) (l := []) IP func22 call22
 refine aO fun args hs ae aF h' => ?_
 unfold Yg at h'
 split at h'
 ·rename_i t
  obtain ⟨hb, h2⟩ := Tq.br_no h'
  obtain ⟨b1, b2⟩ := aZ hb
  obtain ⟨t, d, x, u⟩ := t
  refine h1.okB (Y0) (Eq.trans ?_ h2)
  rw [show (AV.d (Y0) (t, d, x, u) : AV) = .d (Y0) (t, d, x, ()) from rfl, Yf, aE (show d.length <= 2147483648 from b1), ak, F5 (show x.length <= 2147483648 from b2)]
  rfl
 ·cases h'
noncomputable def ae6 : FnE := cU [(Y0)] (ao Yg)
theorem Su : bE 22 ae6 := bF St
noncomputable def pE : Env := g83.add 22 ae6
theorem IQ : pE.Good := uo.add Su
def uv (ts : List (Y0).den) (i : Int) : LSt := { fr := aw 5 [(0, .d (.slice (Y0)) ts), (3, .nils), (4, I i)], hp := [], nx := 0 }
noncomputable def Yj : AEx -> LSt -> Option (aq × LHp) := (aW 0 (bt pE ig [3] (hlp pE ig) (cR (cR (cR Wh))) (bA prog 0 f9.results.toList ah)))
theorem Yh (ts : List (Y0).den) : aC pE f9 5 [(3, [0, 3, 4])] [.d (.slice (Y0)) ts] [] ah = (hlp pE ig) Sq _ (uv ts 0) Yj := (bI [3] ig rfl).trans (by obtain ⟨hl, h⟩ := bw pE ig; rw [h]; kernel_rfl)
def B0 (ts : List (Y0).den) (i : Int) : LSt := { fr := aw 5 [(0, .d (.slice (Y0)) ts), (3, I i)], hp := [], nx := 0 }
noncomputable def KSm : AEx -> LSt -> Option (aq × LHp) := (aW 0 (bt e0 jS [2] (hlp e0 jS) (cR (cR Wi)) (bA prog 0 f7.results.toList ah)))
theorem Yi (ts : List (Y0).den) : aC e0 f7 5 [(2, [0, 3])] [.d (.slice (Y0)) ts] [] ah = (hlp e0 jS) Yc _ (B0 ts 0) KSm := (bI [2] jS rfl).trans (by obtain ⟨hl, h⟩ := bw e0 jS; rw [h]; kernel_rfl)
def BZ (o : List (Y0).den) (ts : List (Y0).den) (i : Int) : LSt := { fr := aw 5 [(0, .d (.slice (Y0)) ts), (3, .os 0 0), (4, I i)], hp := [(0, .arr 34 (Y0) 0 false o)], nx := 1 }
theorem Mf (ts : List (Y0).den) (i : Int) (n : Nat) {R : Type} (k : AEx -> LSt -> Option R) : lp pE ig Sq (n + 1) (uv ts i) k = bif decide (i < Int.ofNat ts.length) then (idx ts i).bind fun v1 => bif decide (List.length v1.2.1 <= 2147483648 /\ List.length v1.2.2.1 <= 2147483648) then lp pE ig Sq n (BZ [v1] ts (i64.wrap (i + 1))) k else none else k (AEx.exit 0) { fr := aw 5 [(0, AV.d Y0.slice ts), (3, AV.nils), (4, I i), (6, I i), (7, AV.d Y0.slice ts), (8, I (Int.ofNat ts.length)), (9, B false)], hp := [], nx := 0 } := by kernel_rfl
theorem Mg (v : (Y0).den) (o : List (Y0).den) (ts : List (Y0).den) (i : Int) (n : Nat) {R : Type} (k : AEx -> LSt -> Option R) : lp pE ig Sq (n + 1) (BZ (v :: o) ts i) k = bif decide (i < Int.ofNat ts.length) then (idx ts i).bind fun v1 => bif decide (List.length v1.2.1 <= 2147483648 /\ List.length v1.2.2.1 <= 2147483648) then (app (v :: o) [v1]).bind fun v3 => lp pE ig Sq n (BZ v3 ts (i64.wrap (i + 1))) k else none else k (AEx.exit 0) { fr := aw 5 [(0, AV.d Y0.slice ts), (3, AV.os 0 0), (4, I i), (6, I i), (7, AV.d Y0.slice ts), (8, I (Int.ofNat ts.length)), (9, B false)], hp := [(0, al.arr 34 Y0 0 false (v :: o))], nx := 1 } := by kernel_rfl
theorem Wj (ts : List (Y0).den) (i : Int) (n : Nat) {R : Type} (k : AEx -> LSt -> Option R) : lp e0 jS Yc (n + 1) (B0 ts i) k = bif decide (i < Int.ofNat ts.length) then (idx ts i).bind fun v1 => bif decide (Int.ofNat (List.length v1.2.2.1) > 600) then k AEx.ret { fr := aw 5 [(0, AV.d Y0.slice ts), (2, B false), (3, I i), (4, I i), (5, AV.d Y0.slice ts), (6, I (Int.ofNat ts.length)), (7, B true), (10, AV.d Y0.slice ts), (11, I i), (12, AV.ip Y0 v1), (13, AV.ip (af).slice v1.2.2.1), (14, AV.d (af).slice v1.2.2.1), (15, I (Int.ofNat (List.length v1.2.2.1))), (16, B true)], hp := [], nx := 0 } else lp e0 jS Yc n (B0 ts (i64.wrap (i + 1))) k else k (AEx.exit 0) { fr := aw 5 [(0, AV.d Y0.slice ts), (3, I i), (4, I i), (5, AV.d Y0.slice ts), (6, I (Int.ofNat ts.length)), (7, B false)], hp := [], nx := 0 } := by kernel_rfl
theorem Yk (a : Int) (d : ag) : aC g68 f40 4 [] [.d (.slice af) (a :: d)] [] ah = (app [] (a :: d)).bind fun v0 => some (aq.ret [AV.os 0 0], [(0, al.arr 2 (af) 0 false v0)]) := by kernel_rfl
theorem Yl (a : Int) (d : ag) (z : Bool) : aC g68 f40 4 [] [.os 0 0] [(0, .arr 2 af 0 z (a :: d))] ah = (app [] (a :: d)).bind fun v0 => some (aq.ret [AV.os 1 0], [(0, al.arr 2 (af) 0 z (a :: d)), (1, al.arr 2 (af) 0 false v0)]) := by kernel_rfl
def Ym : List AV -> LHp -> Tq
 | [.d zS xs], [] => .br (decide (xs = [])) (.leaf (.ret [.emp]) []) (.br (decide (xs.length <= 2147483648)) (.leaf (.ret [.os 0 0]) [(0, .arr 2 af 0 false xs)]) .no)
 | [.os 0 0], [(0, .arr 2 zI 0 z xs)] => .br (decide (xs = [])) .no (.br (decide (xs.length <= 2147483648)) (.leaf (.ret [.os 1 0]) [(0, .arr 2 af 0 z xs), (1, .arr 2 af 0 false xs)]) .no)
 | [.nils], [] => .leaf (.ret [.nils]) []
 | _, _ => .no
theorem Sv {xs : ag} (h : xs.length <= 2147483648) : app [] xs = some xs := fB (by simp only [List.length_nil, lim]; omega)
theorem Yn (u : Unit) : aC g68 f40 4 [] [.nils] [] ah = ay [AV.nils] := by kernel_rfl
theorem Sw : bE 40 (ao Ym) := by
 have h2 := bS (d := 4) (l := []) uj func40 call40
 have h1 : bE 40 y40 := L4
 refine aO fun args hs ae aF h' => ?_
 unfold Ym at h'
 split at h'
 ·rename_i xs
  cases xs with
  | nil =>
   cases h'
   exact h1.2 _ _ _ _ rfl
  | cons a d =>
   have h3 : (Tq.br (decide ((a :: d).length <= 2147483648)) (.leaf (.ret [.os 0 0]) [(0, .arr 2 af 0 false (a :: d))]) .no).run ah = some (ae, aF) := h'
   obtain ⟨hb, h4⟩ := Tq.br_no h3
   exact h2.okC ((Yk a d).trans (Eq.trans (by rw [Sv (aZ hb)]; rfl) h4))
 ·rename_i z xs
  cases xs with
  | nil => cases h'
  | cons a d =>
   have h3 : (Tq.br (decide ((a :: d).length <= 2147483648)) (.leaf (.ret [.os 1 0]) [(0, .arr 2 af 0 z (a :: d)), (1, .arr 2 af 0 false (a :: d))]) .no).run ah = some (ae, aF) := h'
   obtain ⟨hb, h4⟩ := Tq.br_no h3
   exact h2.okC ((Yl a d z).trans (Eq.trans (by rw [Sv (aZ hb)]; rfl) h4))
 ·cases h'
  exact h2.okC (Yn ())
 ·cases h'
noncomputable def gIs : Env := (j9.add 64 (ao Ej)).add 40 (ao Ym)
theorem uw : gIs.Good := (jR.add pC).add Sw
theorem Yo (op nm : aj) (ins : List (aj)) (out : aj) (aa : bk) (name : aj) : aC gIs f25 5 [] [dh op nm ins out aa, .d .str name, .nils] [] ah = bif decide (aa.length <= 9223372036854775807) then bif decide (bu (fun a => a.fst == name && a.snd.fst == 7) aa < 0) then ay [AV.nils] else (List.find? (fun a => a.fst == name && a.snd.fst == 7) aa).bind fun v2 => bif decide (v2.2.2.2.2.2.2.1 = []) then ay [AV.emp] else bif decide (List.length v2.2.2.2.2.2.2.1 <= 2147483648) then some (aq.ret [AV.os 0 0], [(0, al.arr 2 (af) 0 false v2.2.2.2.2.2.2.1)]) else none else none := by kernel_rfl
theorem Yp (op nm : aj) (ins : List (aj)) (out : aj) (aa : bk) (name : aj) (o : Int) (other : ag) : aC gIs f25 5 [] [dh op nm ins out aa, .d .str name, .os 0 0] [(0, .arr 2 af 0 false (o :: other))] ah = bif decide (aa.length <= 9223372036854775807) then bif decide (bu (fun a => a.fst == name && a.snd.fst == 7) aa < 0) then bif decide ((o :: other).length <= 2147483648) then some (aq.ret [AV.os 1 0], [(0, al.arr 2 (af) 0 false (o :: other)), (1, al.arr 2 (af) 0 false (o :: other))]) else none else (List.find? (fun a => a.fst == name && a.snd.fst == 7) aa).bind fun v2 => bif decide (v2.2.2.2.2.2.2.1 = []) then some (aq.ret [AV.emp], [(0, al.arr 2 (af) 0 false (o :: other))]) else bif decide (List.length v2.2.2.2.2.2.2.1 <= 2147483648) then some (aq.ret [AV.os 1 0], [(0, al.arr 2 (af) 0 false (o :: other)), (1, al.arr 2 (af) 0 false v2.2.2.2.2.2.2.1)]) else none else none := by kernel_rfl
def cX (lo hi : Int) (l : ag) : Bool := l.all fun v => decide (lo <= v) && decide (v <= hi)
def ld (o : ag) : LHp := [(0, .arr 2 af 0 false o)]
def ae7 (o l : ag) : LHp := [(0, .arr 2 af 0 false o), (1, .arr 2 af 0 false l)]
def Mh : List AV -> LHp -> Tq
 | [.d Y2 (_, _, _, _, aa, _), .d .str name, .nils], [] => .br (decide (aa.length <= maxLen)) (.br (aa.find? (gZ name 7)).isNone (.leaf (.ret [.nils]) []) (.br (decide (ai aa name [] = [])) (.leaf (.ret [.emp]) []) (.br (decide ((ai aa name []).length <= 2147483648)) (.leaf (.ret [.os 0 0]) (ld (ai aa name []))) .no))) .no
 | _, _ => .no
def Mi : List AV -> LHp -> Tq
 | [.d Y2 (_, _, _, _, aa, _), .d .str name, .os 0 0], [(0, .arr 2 zI 0 false ot)] => .br (!ot.isEmpty) (.br (decide (aa.length <= maxLen)) (.br (decide (ai aa name ot = [])) (.leaf (.ret [.emp]) (ld ot)) (.br (decide ((ai aa name ot).length <= 2147483648)) (.leaf (.ret [.os 1 0]) (ae7 ot (ai aa name ot))) .no)) .no) .no
 | _, _ => .no
theorem Mj : bE 25 (ao Mh) := by
 have h1 := bS (d := 5) (l := []) uw func25 call25
 refine aO fun args hs ae aF h' => ?_
 unfold Mh at h'
 split at h'
 ·rename_i aa _ name
  obtain ⟨hl, h2⟩ := Tq.br_no h'
  refine h1.okC ?_
  rw [Yo, aE (show aa.length <= 9223372036854775807 from aZ hl), ku]
  refine Eq.trans ?_ h2
  unfold ai
  show (bif true then (bif (aa.find? (gZ name 7)).isNone then _ else (aa.find? (gZ name 7)).bind _) else _) = _
  cases aa.find? (gZ name 7) <;> rfl
 ·cases h'
theorem Mk : bE 25 (ao Mi) := by
 have h1 := bS (d := 5) (l := []) uw func25 call25
 refine aO fun args hs ae aF h' => ?_
 unfold Mi at h'
 split at h'
 ·rename_i aa _ name ot
  obtain ⟨ho, vl⟩ := Tq.br_no h'
  obtain ⟨hb, h2⟩ := Tq.br_no vl
  have hl := aZ hb
  cases ot with
  | nil => exact absurd ho (by decide)
  | cons o ot =>
   refine h1.okC ?_
   rw [Yp, aE (show aa.length <= 9223372036854775807 from hl), ku]
   refine Eq.trans ?_ h2
   unfold ai
   show (bif true then (bif (aa.find? (gZ name 7)).isNone then _ else (aa.find? (gZ name 7)).bind _) else _) = _
   cases aa.find? (gZ name 7) <;> rfl
 ·cases h'
def Yq (args : List AV) (hs : LHp) : Tq := orT (Mh args hs) (Mi args hs)
theorem F6 : bE 25 (ao Yq) := jO Mj Mk
noncomputable def F7 : Code := bD f215
noncomputable def IS : Code := cL (cL (cR (cL (cR (cR (cR F7))))))
noncomputable def dF : Cfg := ⟨47, 6, 1, [(4, [3, 4, 5, 14, 21, 22, 23])], true⟩
noncomputable def B2 : Code := bD f215
noncomputable def nE : Code := cL (cL (cR (cL (cR (cR (cR B2))))))
noncomputable def cO : Cfg := ⟨47, 6, 0, [(4, [3, 4, 5, 14, 21, 22, 23])], true⟩
noncomputable def jx : Env := IJ.add 25 (ao Yq)
theorem B3 : jx.Good := dY.add F6
theorem Yr (op nm : aj) (ins : List (aj)) (out : aj) (aa : bk) (name : aj) (c lo hi o : Int) (ot : ag) : aC jx f215 6 [(4, [3, 4, 5, 14, 21, 22, 23])] [dh op nm ins out aa, .d .str name, .os 0 0, I c, I lo, I hi] (ld (o :: ot)) ah = bif decide (aa.length <= 9223372036854775807) then bif decide (ai aa name (o :: ot) = []) then (hlp jx dF) IS _ { fr := aw 6 [(3, I c), (4, I lo), (5, I hi), (14, AV.nils), (21, AV.emp), (22, I 0), (23, I 0)], hp := [(0, al.arr 2 (af) 0 false (o :: ot))], nx := 2 } (aW 0 (bt jx dF [4] (hlp jx dF) (cR (cR (cR (cR F7)))) (bA prog 1 f215.results.toList ah))) else bif decide ((ai aa name (o :: ot)).length <= 2147483648) then (hlp jx dF) IS _ { fr := aw 6 [(3, I c), (4, I lo), (5, I hi), (14, AV.nils), (21, AV.os 1 0), (22, I (Int.ofNat (ai aa name (o :: ot)).length)), (23, I 0)], hp := [(0, al.arr 2 (af) 0 false (o :: ot)), (1, al.arr 2 (af) 0 false (ai aa name (o :: ot)))], nx := 3 } (aW 0 (bt jx dF [4] (hlp jx dF) (cR (cR (cR (cR F7)))) (bA prog 1 f215.results.toList ah))) else none else none := (bI [4] dF rfl).trans (by obtain ⟨hl, h⟩ := bw jx dF; rw [h]; kernel_rfl)
theorem Ys (op nm : aj) (ins : List (aj)) (out : aj) (aa : bk) (name : aj) (c lo hi : Int) : aC jx f215 6 [(4, [3, 4, 5, 14, 21, 22, 23])] [dh op nm ins out aa, .d .str name, .nils, I c, I lo, I hi] [] ah = bif decide (aa.length <= 9223372036854775807) then bif (List.find? (fun a => a.fst == name && a.snd.fst == 7) aa).isNone then (hlp jx cO) nE _ { fr := aw 6 [(3, I c), (4, I lo), (5, I hi), (14, AV.nils), (21, AV.nils), (22, I 0), (23, I 0)], hp := [], nx := 0 } (aW 0 (bt jx cO [4] (hlp jx cO) (cR (cR (cR (cR B2)))) (bA prog 0 f215.results.toList ah))) else bif decide (ai aa name [] = []) then (hlp jx cO) nE _ { fr := aw 6 [(3, I c), (4, I lo), (5, I hi), (14, AV.nils), (21, AV.emp), (22, I 0), (23, I 0)], hp := [], nx := 0 } (aW 0 (bt jx cO [4] (hlp jx cO) (cR (cR (cR (cR B2)))) (bA prog 0 f215.results.toList ah))) else bif decide ((ai aa name []).length <= 2147483648) then (hlp jx cO) nE _ { fr := aw 6 [(3, I c), (4, I lo), (5, I hi), (14, AV.nils), (21, AV.os 0 0), (22, I (Int.ofNat (ai aa name []).length)), (23, I 0)], hp := [(0, al.arr 2 (af) 0 false (ai aa name []))], nx := 1 } (aW 0 (bt jx cO [4] (hlp jx cO) (cR (cR (cR (cR B2)))) (bA prog 0 f215.results.toList ah))) else none else none := (bI [4] cO rfl).trans (by obtain ⟨hl, h⟩ := bw jx cO; rw [h]; kernel_rfl)
def yD (c lo hi : Int) (pm ot L : ag) (i : Int) : LSt := { fr := aw 6 [(3, I c), (4, I lo), (5, I hi), (14, AV.nils), (21, AV.os 1 0), (22, I (Int.ofNat L.length)), (23, I i)], hp := ld ot ++ [(1, al.arr 2 af 0 false L)], nx := 3 }
def F8 (pm ot out L : ag) : LHp := ld ot ++ [(1, al.arr 3 af 0 false out), (2, al.arr 2 af 0 false L)]
def yE (c lo hi : Int) (pm ot out L : ag) (i : Int) : LSt := { fr := aw 6 [(3, I c), (4, I lo), (5, I hi), (14, AV.os 1 0), (21, AV.os 2 0), (22, I (Int.ofNat L.length)), (23, I i)], hp := F8 pm ot out L, nx := 4 }
theorem Ml (c lo hi : Int) (pm ot L : ag) (i : Int) (n : Nat) {R : Type} (k : AEx -> LSt -> Option R) : lp jx dF IS (n + 1) (yD c lo hi pm ot L i) k = bif decide (i < Int.ofNat L.length) then (idx L i).bind fun v1 => (L[i.toNat]?).bind fun v2 => bif decide (lo <= v2) then bif !decide (v2 <= hi) then k (AEx.panic 131 4) { fr := aw 6 [(3, I c), (4, I lo), (5, I hi), (14, AV.nils), (16, I v2), (21, AV.os 1 0), (22, I (Int.ofNat L.length)), (23, I i), (24, B true), (25, AV.oe 1 0 i.toNat), (26, I v2), (27, I lo), (28, I v2), (29, B (decide (lo <= v2))), (30, B true), (31, I v2), (32, I hi), (33, B (decide (v2 <= hi))), (34, B (decide (v2 <= hi)))], hp := [(0, al.arr 2 (af) 0 false ot), (1, al.arr 2 (af) 0 false L)], nx := 3 } else lp jx dF IS n (yE c lo hi [] ot [v2] L (i64.wrap (i + 1))) k else k (AEx.panic 131 4) { fr := aw 6 [(3, I c), (4, I lo), (5, I hi), (14, AV.nils), (16, I v2), (21, AV.os 1 0), (22, I (Int.ofNat L.length)), (23, I i), (24, B true), (25, AV.oe 1 0 i.toNat), (26, I v2), (27, I lo), (28, I v2), (29, B (decide (lo <= v2))), (30, B false), (31, AV.tup []), (32, AV.tup []), (33, AV.tup []), (34, B false)], hp := [(0, al.arr 2 (af) 0 false ot), (1, al.arr 2 (af) 0 false L)], nx := 3 } else k (AEx.exit 0) { fr := aw 6 [(3, I c), (4, I lo), (5, I hi), (14, AV.nils), (21, AV.os 1 0), (22, I (Int.ofNat L.length)), (23, I i), (24, B false)], hp := [(0, al.arr 2 (af) 0 false ot), (1, al.arr 2 (af) 0 false L)], nx := 3 } := by kernel_rfl
theorem B4 (c lo hi o : Int) (pm ot out L : ag) (i : Int) (n : Nat) {R : Type} (k : AEx -> LSt -> Option R) : lp jx dF IS (n + 1) (yE c lo hi pm ot (o :: out) L i) k = bif decide (i < Int.ofNat L.length) then (idx L i).bind fun v1 => (L[i.toNat]?).bind fun v2 => bif decide (lo <= v2) then bif !decide (v2 <= hi) then k (AEx.panic 131 4) { fr := aw 6 [(3, I c), (4, I lo), (5, I hi), (14, AV.os 1 0), (16, I v2), (21, AV.os 2 0), (22, I (Int.ofNat L.length)), (23, I i), (24, B true), (25, AV.oe 2 0 i.toNat), (26, I v2), (27, I lo), (28, I v2), (29, B (decide (lo <= v2))), (30, B true), (31, I v2), (32, I hi), (33, B (decide (v2 <= hi))), (34, B (decide (v2 <= hi)))], hp := [(0, al.arr 2 (af) 0 false ot), (1, al.arr 3 (af) 0 false (o :: out)), (2, al.arr 2 (af) 0 false L)], nx := 4 } else (app (o :: out) [v2]).bind fun v5 => lp jx dF IS n (yE c lo hi [] ot v5 L (i64.wrap (i + 1))) k else k (AEx.panic 131 4) { fr := aw 6 [(3, I c), (4, I lo), (5, I hi), (14, AV.os 1 0), (16, I v2), (21, AV.os 2 0), (22, I (Int.ofNat L.length)), (23, I i), (24, B true), (25, AV.oe 2 0 i.toNat), (26, I v2), (27, I lo), (28, I v2), (29, B (decide (lo <= v2))), (30, B false), (31, AV.tup []), (32, AV.tup []), (33, AV.tup []), (34, B false)], hp := [(0, al.arr 2 (af) 0 false ot), (1, al.arr 3 (af) 0 false (o :: out)), (2, al.arr 2 (af) 0 false L)], nx := 4 } else k (AEx.exit 0) { fr := aw 6 [(3, I c), (4, I lo), (5, I hi), (14, AV.os 1 0), (21, AV.os 2 0), (22, I (Int.ofNat L.length)), (23, I i), (24, B false)], hp := [(0, al.arr 2 (af) 0 false ot), (1, al.arr 3 (af) 0 false (o :: out)), (2, al.arr 2 (af) 0 false L)], nx := 4 } := by kernel_rfl
noncomputable def J3 : AEx -> LSt -> Option (aq × LHp) := (aW 0 (bt jx dF [4] (hlp jx dF) (cR (cR (cR (cR F7)))) (bA prog 1 f215.results.toList ah)))
def F9 (c lo hi v : Int) (q : AV) (i l : Int) (b : Bool) (r s : Nat) (hp : LHp) (nx : Nat) : LSt := { fr := aw 6 [(3, I c), (4, I lo), (5, I hi), (14, q), (16, I v), (21, AV.os r 0), (22, I l), (23, I i), (24, B true), (25, AV.oe s 0 i.toNat), (26, I v), (27, I lo), (28, I v), (29, B (decide (lo <= v))), (30, B true), (31, I v), (32, I hi), (33, B (decide (v <= hi))), (34, B b)], hp := hp, nx := nx }
def Ga (c lo hi v : Int) (q : AV) (i l : Int) (r s : Nat) (hp : LHp) (nx : Nat) : LSt := { fr := aw 6 [(3, I c), (4, I lo), (5, I hi), (14, q), (16, I v), (21, AV.os r 0), (22, I l), (23, I i), (24, B true), (25, AV.oe s 0 i.toNat), (26, I v), (27, I lo), (28, I v), (29, B (decide (lo <= v))), (30, B false), (31, AV.tup []), (32, AV.tup []), (33, AV.tup []), (34, B false)], hp := hp, nx := nx }
theorem Yt (c lo hi v i l : Int) (b : Bool) (pm ot L : ag) : J3 (.panic 131 4) (F9 c lo hi v .nils i l b 1 1 (ld ot ++ [(1, al.arr 2 af 0 false L)]) 7) = some (aq.panic 131 4, [(0, al.arr 2 (af) 0 false ot)]) := by kernel_rfl
theorem Yu (c lo hi v i l : Int) (pm ot L : ag) : J3 (.panic 131 4) (Ga c lo hi v .nils i l 1 1 (ld ot ++ [(1, al.arr 2 af 0 false L)]) 7) = some (aq.panic 131 4, [(0, al.arr 2 (af) 0 false ot)]) := by kernel_rfl
theorem Yv (c lo hi v i l : Int) (b : Bool) (pm ot out L : ag) : J3 (.panic 131 4) (F9 c lo hi v (.os 1 0) i l b 2 2 (F8 pm ot out L) 8) = some (aq.panic 131 4, [(0, al.arr 2 (af) 0 false ot)]) := by kernel_rfl
theorem Yw (c lo hi v i l : Int) (pm ot out L : ag) : J3 (.panic 131 4) (Ga c lo hi v (.os 1 0) i l 2 2 (F8 pm ot out L) 8) = some (aq.panic 131 4, [(0, al.arr 2 (af) 0 false ot)]) := by kernel_rfl
theorem Yx (c lo hi i l : Int) (pm ot out L : ag) : J3 (.exit 0) { fr := aw 6 [(3, I c), (4, I lo), (5, I hi), (14, AV.os 1 0), (21, AV.os 2 0), (22, I l), (23, I i), (24, B false)], hp := F8 pm ot out L, nx := 4 } = bif !Int.ofNat out.length == c then some (aq.panic 131 4, [(0, al.arr 2 (af) 0 false ot)]) else some (aq.ret [AV.os 1 0], [(0, al.arr 2 (af) 0 false ot), (1, al.arr 3 (af) 0 false out)]) := by kernel_rfl
def iN (c lo hi : Int) (pm ot l : ag) : Option (aq × LHp) := bif cX lo hi l && (Int.ofNat pm.length == c) then some (.ret [.os 1 0], ld ot ++ [(1, .arr 3 af 0 false pm)]) else some (.panic 131 4, ld ot)
theorem IT {c lo hi : Int} {pm ot : ag} (hl : pm.length <= 2147483648) : ∀ (r i n : Nat), i + r = pm.length -> 1 <= i -> r < n ->
  lp jx dF IS n (yE c lo hi pm ot (pm.take i) pm (i : Nat)) J3 = iN c lo hi pm ot (pm.drop i) := by
 intro r
 induction r with
 | zero =>
  intro i n hir h1 hn
  obtain ⟨n, rfl⟩ : ∃ m', n = m' + 1 := ⟨n - 1, by omega⟩
  rw [List.take_of_length_le (by omega), List.drop_eq_nil_of_le (by omega)]
  cases hpm : pm with
  | nil => rw [hpm] at hir; simp only [List.length_nil] at hir; omega
  | cons o out =>
   rw [hpm] at hir
   rw [B4, de (show ¬ ((i : Int) < Int.ofNat (o :: out).length) by simp only [aT]; omega), ax]
   refine (Yx _ _ _ _ _ [] ot _ _).trans ?_
   unfold iN cX
   simp only [List.all_nil, Bool.true_and]
   cases (Int.ofNat (o :: out).length == c) <;> rfl
 | succ r ih =>
  intro i n hir h1 hn
  obtain ⟨n, rfl⟩ : ∃ m', n = m' + 1 := ⟨n - 1, by omega⟩
  have cn : i < pm.length := by omega
  have e0 : i64.wrap ((i : Int) + 1) = ((i + 1 : Nat) : Int) := by rw [aJ (by omega) (by omega)]; omega
  have gx : pm[i]? = some pm[i] := List.getElem?_eq_getElem cn
  have gi : idx pm (i : Int) = some pm[i] := by unfold idx; rw [if_pos (by omega), Int.toNat_natCast, gx]
  have ed : pm.drop i = pm[i] :: pm.drop (i + 1) := List.drop_eq_getElem_cons cn
  have et : pm.take (i + 1) = pm.take i ++ [pm[i]] := (List.take_append_getElem cn).symm
  have key := ih (i + 1) n (by omega) (by omega) (by omega)
  cases ht : pm.take i with
  | nil =>
   have := congrArg List.length ht
   rw [List.length_take, List.length_nil] at this
   omega
  | cons o out =>
   have hlen : (o :: out).length + [pm[i]].length <= lim := by rw [List.length_singleton, show lim = 4294967296 from rfl]; rw [← ht, List.length_take]; omega
   rw [B4, aE (show ((i : Int) < Int.ofNat pm.length) by simp only [aT]; omega), ak, gi, aA, Int.toNat_natCast, gx, aA]
   cases h2 : decide (lo <= pm[i]) with
   | false =>
    have er : iN c lo hi pm ot (pm.drop i) = some (.panic 131 4, ld ot) := by
     unfold iN cX
     rw [ed, List.all_cons, h2]
     rfl
    rw [er, ax]
    have x := Yw c lo hi pm[i] (i : Int) (Int.ofNat pm.length) pm ot (o :: out) pm
    unfold Ga at x
    rw [h2] at x
    exact x
   | true =>
    rw [ak]
    cases h3 : decide (pm[i] <= hi) with
    | false =>
     have er : iN c lo hi pm ot (pm.drop i) = some (.panic 131 4, ld ot) := by
      unfold iN cX
      rw [ed, List.all_cons, h2, h3]
      rfl
     rw [er, Bool.not_false, ak]
     have x := Yv c lo hi pm[i] (i : Int) (Int.ofNat pm.length) false pm ot (o :: out) pm
     unfold F9 at x
     rw [h2, h3] at x
     exact x
    | true =>
     have er : iN c lo hi pm ot (pm.drop i) = iN c lo hi pm ot (pm.drop (i + 1)) := by
      unfold iN cX
      rw [ed, List.all_cons, h2, h3]
      rfl
     rw [er, Bool.not_true, ax, fB hlen, aA, e0, ← ht, ← et]
     exact key
def yF (c lo hi : Int) (pm ot L : ag) (i : Int) : LSt := { fr := aw 6 [(3, I c), (4, I lo), (5, I hi), (14, AV.nils), (21, AV.os 0 0), (22, I (Int.ofNat L.length)), (23, I i)], hp := [] ++ [(0, al.arr 2 af 0 false L)], nx := 1 }
def Gb (pm ot out L : ag) : LHp := [] ++ [(0, al.arr 3 af 0 false out), (1, al.arr 2 af 0 false L)]
def yG (c lo hi : Int) (pm ot out L : ag) (i : Int) : LSt := { fr := aw 6 [(3, I c), (4, I lo), (5, I hi), (14, AV.os 0 0), (21, AV.os 1 0), (22, I (Int.ofNat L.length)), (23, I i)], hp := Gb pm ot out L, nx := 2 }
theorem Mm (c lo hi : Int) (pm ot L : ag) (i : Int) (n : Nat) {R : Type} (k : AEx -> LSt -> Option R) : lp jx cO nE (n + 1) (yF c lo hi pm ot L i) k = bif decide (i < Int.ofNat L.length) then (idx L i).bind fun v1 => (L[i.toNat]?).bind fun v2 => bif decide (lo <= v2) then bif !decide (v2 <= hi) then k (AEx.panic 131 4) { fr := aw 6 [(3, I c), (4, I lo), (5, I hi), (14, AV.nils), (16, I v2), (21, AV.os 0 0), (22, I (Int.ofNat L.length)), (23, I i), (24, B true), (25, AV.oe 0 0 i.toNat), (26, I v2), (27, I lo), (28, I v2), (29, B (decide (lo <= v2))), (30, B true), (31, I v2), (32, I hi), (33, B (decide (v2 <= hi))), (34, B (decide (v2 <= hi)))], hp := [(0, al.arr 2 (af) 0 false L)], nx := 1 } else lp jx cO nE n (yG c lo hi [] [] [v2] L (i64.wrap (i + 1))) k else k (AEx.panic 131 4) { fr := aw 6 [(3, I c), (4, I lo), (5, I hi), (14, AV.nils), (16, I v2), (21, AV.os 0 0), (22, I (Int.ofNat L.length)), (23, I i), (24, B true), (25, AV.oe 0 0 i.toNat), (26, I v2), (27, I lo), (28, I v2), (29, B (decide (lo <= v2))), (30, B false), (31, AV.tup []), (32, AV.tup []), (33, AV.tup []), (34, B false)], hp := [(0, al.arr 2 (af) 0 false L)], nx := 1 } else k (AEx.exit 0) { fr := aw 6 [(3, I c), (4, I lo), (5, I hi), (14, AV.nils), (21, AV.os 0 0), (22, I (Int.ofNat L.length)), (23, I i), (24, B false)], hp := [(0, al.arr 2 (af) 0 false L)], nx := 1 } := by kernel_rfl
theorem B5 (c lo hi o : Int) (pm ot out L : ag) (i : Int) (n : Nat) {R : Type} (k : AEx -> LSt -> Option R) : lp jx cO nE (n + 1) (yG c lo hi pm ot (o :: out) L i) k = bif decide (i < Int.ofNat L.length) then (idx L i).bind fun v1 => (L[i.toNat]?).bind fun v2 => bif decide (lo <= v2) then bif !decide (v2 <= hi) then k (AEx.panic 131 4) { fr := aw 6 [(3, I c), (4, I lo), (5, I hi), (14, AV.os 0 0), (16, I v2), (21, AV.os 1 0), (22, I (Int.ofNat L.length)), (23, I i), (24, B true), (25, AV.oe 1 0 i.toNat), (26, I v2), (27, I lo), (28, I v2), (29, B (decide (lo <= v2))), (30, B true), (31, I v2), (32, I hi), (33, B (decide (v2 <= hi))), (34, B (decide (v2 <= hi)))], hp := [(0, al.arr 3 (af) 0 false (o :: out)), (1, al.arr 2 (af) 0 false L)], nx := 2 } else (app (o :: out) [v2]).bind fun v5 => lp jx cO nE n (yG c lo hi [] [] v5 L (i64.wrap (i + 1))) k else k (AEx.panic 131 4) { fr := aw 6 [(3, I c), (4, I lo), (5, I hi), (14, AV.os 0 0), (16, I v2), (21, AV.os 1 0), (22, I (Int.ofNat L.length)), (23, I i), (24, B true), (25, AV.oe 1 0 i.toNat), (26, I v2), (27, I lo), (28, I v2), (29, B (decide (lo <= v2))), (30, B false), (31, AV.tup []), (32, AV.tup []), (33, AV.tup []), (34, B false)], hp := [(0, al.arr 3 (af) 0 false (o :: out)), (1, al.arr 2 (af) 0 false L)], nx := 2 } else k (AEx.exit 0) { fr := aw 6 [(3, I c), (4, I lo), (5, I hi), (14, AV.os 0 0), (21, AV.os 1 0), (22, I (Int.ofNat L.length)), (23, I i), (24, B false)], hp := [(0, al.arr 3 (af) 0 false (o :: out)), (1, al.arr 2 (af) 0 false L)], nx := 2 } := by kernel_rfl
noncomputable def Gc : AEx -> LSt -> Option (aq × LHp) := (aW 0 (bt jx cO [4] (hlp jx cO) (cR (cR (cR (cR B2)))) (bA prog 0 f215.results.toList ah)))
def Gd (c lo hi v : Int) (q : AV) (i l : Int) (b : Bool) (r s : Nat) (hp : LHp) (nx : Nat) : LSt := { fr := aw 6 [(3, I c), (4, I lo), (5, I hi), (14, q), (16, I v), (21, AV.os r 0), (22, I l), (23, I i), (24, B true), (25, AV.oe s 0 i.toNat), (26, I v), (27, I lo), (28, I v), (29, B (decide (lo <= v))), (30, B true), (31, I v), (32, I hi), (33, B (decide (v <= hi))), (34, B b)], hp := hp, nx := nx }
def Ge (c lo hi v : Int) (q : AV) (i l : Int) (r s : Nat) (hp : LHp) (nx : Nat) : LSt := { fr := aw 6 [(3, I c), (4, I lo), (5, I hi), (14, q), (16, I v), (21, AV.os r 0), (22, I l), (23, I i), (24, B true), (25, AV.oe s 0 i.toNat), (26, I v), (27, I lo), (28, I v), (29, B (decide (lo <= v))), (30, B false), (31, AV.tup []), (32, AV.tup []), (33, AV.tup []), (34, B false)], hp := hp, nx := nx }
theorem Yy (c lo hi v i l : Int) (b : Bool) (pm ot L : ag) : Gc (.panic 131 4) (Gd c lo hi v .nils i l b 0 0 ([] ++ [(0, al.arr 2 af 0 false L)]) 7) = aV := by kernel_rfl
theorem Yz (c lo hi v i l : Int) (pm ot L : ag) : Gc (.panic 131 4) (Ge c lo hi v .nils i l 0 0 ([] ++ [(0, al.arr 2 af 0 false L)]) 7) = aV := by kernel_rfl
theorem YA (c lo hi v i l : Int) (b : Bool) (pm ot out L : ag) : Gc (.panic 131 4) (Gd c lo hi v (.os 0 0) i l b 1 1 (Gb pm ot out L) 8) = aV := by kernel_rfl
theorem YB (c lo hi v i l : Int) (pm ot out L : ag) : Gc (.panic 131 4) (Ge c lo hi v (.os 0 0) i l 1 1 (Gb pm ot out L) 8) = aV := by kernel_rfl
theorem YC (c lo hi i l : Int) (pm ot out L : ag) : Gc (.exit 0) { fr := aw 6 [(3, I c), (4, I lo), (5, I hi), (14, AV.os 0 0), (21, AV.os 1 0), (22, I l), (23, I i), (24, B false)], hp := Gb pm ot out L, nx := 2 } = bif !Int.ofNat out.length == c then aV else some (aq.ret [AV.os 0 0], [(0, al.arr 3 (af) 0 false out)]) := by kernel_rfl
def iO (c lo hi : Int) (pm ot l : ag) : Option (aq × LHp) := bif cX lo hi l && (Int.ofNat pm.length == c) then some (.ret [.os 0 0], [] ++ [(0, .arr 3 af 0 false pm)]) else some (.panic 131 4, [])
theorem IU {c lo hi : Int} {pm ot : ag} (hl : pm.length <= 2147483648) : ∀ (r i n : Nat), i + r = pm.length -> 1 <= i -> r < n ->
  lp jx cO nE n (yG c lo hi pm ot (pm.take i) pm (i : Nat)) Gc = iO c lo hi pm ot (pm.drop i) := by
 intro r
 induction r with
 | zero =>
  intro i n hir h1 hn
  obtain ⟨n, rfl⟩ : ∃ m', n = m' + 1 := ⟨n - 1, by omega⟩
  rw [List.take_of_length_le (by omega), List.drop_eq_nil_of_le (by omega)]
  cases hpm : pm with
  | nil => rw [hpm] at hir; simp only [List.length_nil] at hir; omega
  | cons o out =>
   rw [hpm] at hir
   rw [B5, de (show ¬ ((i : Int) < Int.ofNat (o :: out).length) by simp only [aT]; omega), ax]
   refine (YC _ _ _ _ _ [] ot _ _).trans ?_
   unfold iO cX
   simp only [List.all_nil, Bool.true_and]
   cases (Int.ofNat (o :: out).length == c) <;> rfl
 | succ r ih =>
  intro i n hir h1 hn
  obtain ⟨n, rfl⟩ : ∃ m', n = m' + 1 := ⟨n - 1, by omega⟩
  have cn : i < pm.length := by omega
  have e0 : i64.wrap ((i : Int) + 1) = ((i + 1 : Nat) : Int) := by rw [aJ (by omega) (by omega)]; omega
  have gx : pm[i]? = some pm[i] := List.getElem?_eq_getElem cn
  have gi : idx pm (i : Int) = some pm[i] := by unfold idx; rw [if_pos (by omega), Int.toNat_natCast, gx]
  have ed : pm.drop i = pm[i] :: pm.drop (i + 1) := List.drop_eq_getElem_cons cn
  have et : pm.take (i + 1) = pm.take i ++ [pm[i]] := (List.take_append_getElem cn).symm
  have key := ih (i + 1) n (by omega) (by omega) (by omega)
  cases ht : pm.take i with
  | nil =>
   have := congrArg List.length ht
   rw [List.length_take, List.length_nil] at this
   omega
  | cons o out =>
   have hlen : (o :: out).length + [pm[i]].length <= lim := by rw [List.length_singleton, show lim = 4294967296 from rfl]; rw [← ht, List.length_take]; omega
   rw [B5, aE (show ((i : Int) < Int.ofNat pm.length) by simp only [aT]; omega), ak, gi, aA, Int.toNat_natCast, gx, aA]
   cases h2 : decide (lo <= pm[i]) with
   | false =>
    have er : iO c lo hi pm ot (pm.drop i) = some (.panic 131 4, []) := by
     unfold iO cX
     rw [ed, List.all_cons, h2]
     rfl
    rw [er, ax]
    have x := YB c lo hi pm[i] (i : Int) (Int.ofNat pm.length) pm ot (o :: out) pm
    unfold Ge at x
    rw [h2] at x
    exact x
   | true =>
    rw [ak]
    cases h3 : decide (pm[i] <= hi) with
    | false =>
     have er : iO c lo hi pm ot (pm.drop i) = some (.panic 131 4, []) := by
      unfold iO cX
      rw [ed, List.all_cons, h2, h3]
      rfl
     rw [er, Bool.not_false, ak]
     have x := YA c lo hi pm[i] (i : Int) (Int.ofNat pm.length) false pm ot (o :: out) pm
     unfold Gd at x
     rw [h2, h3] at x
     exact x
    | true =>
     have er : iO c lo hi pm ot (pm.drop i) = iO c lo hi pm ot (pm.drop (i + 1)) := by
      unfold iO cX
      rw [ed, List.all_cons, h2, h3]
      rfl
     rw [er, Bool.not_true, ax, fB hlen, aA, e0, ← ht, ← et]
     exact key
def B6 (c lo hi : Int) (q : AV) (hp : LHp) (nx : Nat) : LSt := { fr := aw 6 [(3, I c), (4, I lo), (5, I hi), (14, AV.nils), (21, q), (22, I 0), (23, I 0)], hp := hp, nx := nx }
def YD (c lo hi : Int) (q : AV) (hp : LHp) (nx : Nat) : LSt := { fr := aw 6 [(3, I c), (4, I lo), (5, I hi), (14, AV.nils), (21, q), (22, I 0), (23, I 0), (24, B false)], hp := hp, nx := nx }
theorem YE (c lo hi : Int) (ot : ag) (n : Nat) {R : Type} (k : AEx -> LSt -> Option R) : lp jx dF IS (n + 1) (B6 c lo hi .emp (ld ot) 2) k = k (AEx.exit 0) { fr := aw 6 [(3, I c), (4, I lo), (5, I hi), (14, AV.nils), (21, AV.emp), (22, I 0), (23, I 0), (24, B false)], hp := [(0, al.arr 2 (af) 0 false ot)], nx := 2 } := by kernel_rfl
theorem YF (c lo hi : Int) (n : Nat) {R : Type} (k : AEx -> LSt -> Option R) : lp jx cO nE (n + 1) (B6 c lo hi .emp [] 0) k = k (AEx.exit 0) { fr := aw 6 [(3, I c), (4, I lo), (5, I hi), (14, AV.nils), (21, AV.emp), (22, I 0), (23, I 0), (24, B false)], hp := [], nx := 0 } := by kernel_rfl
theorem YG (c lo hi : Int) (n : Nat) {R : Type} (k : AEx -> LSt -> Option R) : lp jx cO nE (n + 1) (B6 c lo hi .nils [] 0) k = k (AEx.exit 0) { fr := aw 6 [(3, I c), (4, I lo), (5, I hi), (14, AV.nils), (21, AV.nils), (22, I 0), (23, I 0), (24, B false)], hp := [], nx := 0 } := by kernel_rfl
theorem YH (c lo hi : Int) (ot : ag) : J3 (.exit 0) (YD c lo hi .emp (ld ot) 2) = bif !0 == c then some (aq.panic 131 4, [(0, al.arr 2 (af) 0 false ot)]) else some (aq.ret [AV.nils], [(0, al.arr 2 (af) 0 false ot)]) := by kernel_rfl
theorem YI (c lo hi : Int) : Gc (.exit 0) (YD c lo hi .emp [] 0) = bif !0 == c then aV else ay [AV.nils] := by kernel_rfl
theorem YJ (c lo hi : Int) : Gc (.exit 0) (YD c lo hi .nils [] 0) = bif !0 == c then aV else ay [AV.nils] := by kernel_rfl
theorem Sx {c lo hi p : Int} {pm ot : ag} (hl : (p :: pm).length <= 2147483648) : lp jx dF IS fu (yD c lo hi (p :: pm) ot (p :: pm) 0) J3 = iN c lo hi (p :: pm) ot (p :: pm) := by
 have hf : fu = 18446744073709551616 := rfl
 obtain ⟨n, hn⟩ : ∃ n, fu = n + 1 := ⟨18446744073709551615, rfl⟩
 rw [hn, Ml, aE (show ((0 : Int) < Int.ofNat (p :: pm).length) by simp only [aT, List.length_cons]; omega), ak, show idx (p :: pm) 0 = some p from rfl, aA, show (p :: pm)[(0 : Int).toNat]? = some p from rfl, aA]
 cases h2 : decide (lo <= p) with
 | false =>
  have er : iN c lo hi (p :: pm) ot (p :: pm) = some (.panic 131 4, ld ot) := by
   unfold iN cX
   rw [List.all_cons, h2]
   rfl
  rw [er, ax]
  have x := Yu c lo hi p 0 (Int.ofNat (p :: pm).length) (p :: pm) ot (p :: pm)
  unfold Ga at x
  rw [h2] at x
  exact x
 | true =>
  rw [ak]
  cases h3 : decide (p <= hi) with
  | false =>
   have er : iN c lo hi (p :: pm) ot (p :: pm) = some (.panic 131 4, ld ot) := by
    unfold iN cX
    rw [List.all_cons, h2, h3]
    rfl
   rw [er, Bool.not_false, ak]
   have x := Yt c lo hi p 0 (Int.ofNat (p :: pm).length) false (p :: pm) ot (p :: pm)
   unfold F9 at x
   rw [h2, h3] at x
   exact x
  | true =>
   have er : iN c lo hi (p :: pm) ot (p :: pm) = iN c lo hi (p :: pm) ot ((p :: pm).drop 1) := by
    unfold iN cX
    rw [List.all_cons, h2, h3]
    rfl
   rw [er, Bool.not_true, ax]
   exact IT hl pm.length 1 n (by simp only [List.length_cons]; omega) (Nat.le_refl _) (by simp only [List.length_cons] at hl; omega)
theorem Sy {c lo hi p : Int} {pm ot : ag} (hl : (p :: pm).length <= 2147483648) : lp jx cO nE fu (yF c lo hi (p :: pm) ot (p :: pm) 0) Gc = iO c lo hi (p :: pm) ot (p :: pm) := by
 have hf : fu = 18446744073709551616 := rfl
 obtain ⟨n, hn⟩ : ∃ n, fu = n + 1 := ⟨18446744073709551615, rfl⟩
 rw [hn, Mm, aE (show ((0 : Int) < Int.ofNat (p :: pm).length) by simp only [aT, List.length_cons]; omega), ak, show idx (p :: pm) 0 = some p from rfl, aA, show (p :: pm)[(0 : Int).toNat]? = some p from rfl, aA]
 cases h2 : decide (lo <= p) with
 | false =>
  have er : iO c lo hi (p :: pm) ot (p :: pm) = some (.panic 131 4, []) := by
   unfold iO cX
   rw [List.all_cons, h2]
   rfl
  rw [er, ax]
  have x := Yz c lo hi p 0 (Int.ofNat (p :: pm).length) (p :: pm) ot (p :: pm)
  unfold Ge at x
  rw [h2] at x
  exact x
 | true =>
  rw [ak]
  cases h3 : decide (p <= hi) with
  | false =>
   have er : iO c lo hi (p :: pm) ot (p :: pm) = some (.panic 131 4, []) := by
    unfold iO cX
    rw [List.all_cons, h2, h3]
    rfl
   rw [er, Bool.not_false, ak]
   have x := Yy c lo hi p 0 (Int.ofNat (p :: pm).length) false (p :: pm) ot (p :: pm)
   unfold Gd at x
   rw [h2, h3] at x
   exact x
  | true =>
   have er : iO c lo hi (p :: pm) ot (p :: pm) = iO c lo hi (p :: pm) ot ((p :: pm).drop 1) := by
    unfold iO cX
    rw [List.all_cons, h2, h3]
    rfl
   rw [er, Bool.not_true, ax]
   exact IU hl pm.length 1 n (by simp only [List.length_cons]; omega) (Nat.le_refl _) (by simp only [List.length_cons] at hl; omega)
theorem YK (c lo hi : Int) (pm ot L : ag) : hlp jx dF IS (aq × LHp) (yD c lo hi pm ot L 0) J3 = lp jx dF IS fu (yD c lo hi pm ot L 0) J3 := rfl
theorem YL (c lo hi : Int) (pm ot L : ag) : hlp jx cO nE (aq × LHp) (yF c lo hi pm ot L 0) Gc = lp jx cO nE fu (yF c lo hi pm ot L 0) Gc := rfl
theorem Sz (c lo hi : Int) (ot : ag) : hlp jx dF IS (aq × LHp) (B6 c lo hi .emp (ld ot) 2) J3 = lp jx dF IS fu (B6 c lo hi .emp (ld ot) 2) J3 := rfl
theorem Gf (c lo hi : Int) (q : AV) : hlp jx cO nE (aq × LHp) (B6 c lo hi q [] 0) Gc = lp jx cO nE fu (B6 c lo hi q [] 0) Gc := rfl
def cy (c lo hi : Int) (l : ag) : Bool := cX lo hi l && (Int.ofNat l.length == c)
theorem Gg {c lo hi p : Int} {pm : ag} (h : cy c lo hi (p :: pm) = true) : (c == 0) = false := by
 unfold cy at h
 rw [bg] at h
 have := eq_of_beq h.2
 rw [← this, beq_eq_false_iff_ne]
 simp only [aT, List.length_cons]
 omega
def YM : List AV -> LHp -> Tq
 | [.d Y2 (_, _, _, _, aa, _), .d .str name, .os 0 0, .d zI c, .d zI lo, .d zI hi], [(0, .arr 2 zI 0 false ot)] => .br (!ot.isEmpty) (.br (decide (aa.length <= maxLen /\ (ai aa name ot).length <= 2147483648)) (.br (cy c lo hi (ai aa name ot)) (.br (c == 0) (.leaf (.ret [.nils]) (ld ot)) (.leaf (.ret [.os 1 0]) (ld ot ++ [(1, .arr 3 af 0 false (ai aa name ot))]))) (.leaf (.panic 131 4) (ld ot))) .no) .no
 | _, _ => .no
def YN : List AV -> LHp -> Tq
 | [.d Y2 (_, _, _, _, aa, _), .d .str name, .nils, .d zI c, .d zI lo, .d zI hi], [] => .br (decide (aa.length <= maxLen /\ (ai aa name []).length <= 2147483648)) (.br (cy c lo hi (ai aa name [])) (.br (c == 0) (.leaf (.ret [.nils]) []) (.leaf (.ret [.os 0 0]) [(0, .arr 3 af 0 false (ai aa name []))])) (.leaf (.panic 131 4) [])) .no
 | _, _ => .no
theorem SA : bE 215 (ao YM) := by
 have h1 := bS (d := 6) (l := [(4, [3, 4, 5, 14, 21, 22, 23])]) B3 func215 call215
 obtain ⟨n', Fb⟩ : ∃ n, fu = n + 1 := ⟨18446744073709551615, rfl⟩
 refine aO fun args hs ae aF h' => ?_
 unfold YM at h'
 split at h'
 ·rename_i op nm ins out aa _ name c lo hi ot
  obtain ⟨ho, vl⟩ := Tq.br_no h'
  obtain ⟨hb, h2⟩ := Tq.br_no vl
  obtain ⟨hl, hn⟩ := aZ hb
  cases ot with
  | nil => exact absurd ho (by decide)
  | cons o ot =>
   refine h1.okC ?_
   refine Eq.trans (Yr op nm ins out aa name c lo hi o ot) ?_
   rw [aE (show aa.length <= 9223372036854775807 from hl), ak]
   generalize ai aa name (o :: ot) = l at hn h2 ⊢
   cases l with
   | nil =>
    rw [show (decide (([] : ag) = [])) = true from rfl, ak]
    refine Eq.trans ((Sz c lo hi (o :: ot)).trans ?_) h2
    rw [Fb, YE]
    refine (YH c lo hi (o :: ot)).trans ?_
    cases hc : (0 : Int) == c with
    | true => obtain rfl := eq_of_beq hc; rfl
    | false =>
     unfold cy cX
     show _ = Tq.run (Tq.br ((0 : Int) == c) _ _) _
     rw [Tq.run, hc]
     rfl
   | cons p pm =>
    rw [show (decide (p :: pm = [])) = false from rfl, ax, aE hn, ak]
    refine Eq.trans ((YK c lo hi (p :: pm) (o :: ot) (p :: pm)).trans ((Sx hn).trans ?_)) h2
    show (bif cy c lo hi (p :: pm) then _ else _) = (bif cy c lo hi (p :: pm) then (bif c == 0 then _ else _) else _)
    cases hk : cy c lo hi (p :: pm) with
    | false => rfl
    | true => rw [Gg hk]; rfl
 ·cases h'
theorem SB : bE 215 (ao YN) := by
 have h1 := bS (d := 6) (l := [(4, [3, 4, 5, 14, 21, 22, 23])]) B3 func215 call215
 obtain ⟨n', Fb⟩ : ∃ n, fu = n + 1 := ⟨18446744073709551615, rfl⟩
 refine aO fun args hs ae aF h' => ?_
 unfold YN at h'
 split at h'
 ·rename_i op nm ins out aa _ name c lo hi
  obtain ⟨hb, h2⟩ := Tq.br_no h'
  obtain ⟨hl, hn⟩ := aZ hb
  refine h1.okC ?_
  have e0 : ∀ q, q = .nils \/ q = .emp -> lp jx cO nE fu (B6 c lo hi q [] 0) Gc = (bif cy c lo hi [] then (ay [AV.nils] : Option (aq × LHp)) else some (.panic 131 4, [])) := fun q hq => by
   have e2 : (bif !((0 : Int) == c) then aV else ay [AV.nils]) = (bif cy c lo hi [] then (ay [AV.nils] : Option (aq × LHp)) else some (.panic 131 4, [])) := by
    unfold cy cX
    show _ = bif ((0 : Int) == c) then _ else _
    cases (0 : Int) == c <;> rfl
   rcases hq with rfl | rfl
   ·rw [Fb, YG]
    exact (YJ c lo hi).trans e2
   ·rw [Fb, YF]
    exact (YI c lo hi).trans e2
  have e9 : ∀ x : Option (aq × LHp), (bif cy c lo hi [] then (ay [AV.nils] : Option (aq × LHp)) else some (.panic 131 4, [])) = (bif cy c lo hi [] then (bif c == 0 then some (.ret [.nils], []) else x) else some (.panic 131 4, [])) := fun x => by
   cases hk : cy c lo hi [] with
   | false => rfl
   | true =>
    have hc : ((0 : Int) == c) = true := hk
    obtain rfl := eq_of_beq hc
    rfl
  refine Eq.trans (Ys op nm ins out aa name c lo hi) ?_
  rw [aE (show aa.length <= 9223372036854775807 from hl), ak]
  have hd : ai aa name [] = match aa.find? (gZ name 7) with | some a => a.2.2.2.2.2.2.1 | none => [] := rfl
  change (bif (aa.find? (gZ name 7)).isNone then _ else _) = _
  cases hq : (aa.find? (gZ name 7)).isNone with
  | true =>
   have hz : ai aa name [] = [] := by
    rw [hd]
    cases hf2 : aa.find? (gZ name 7) with
    | none => rfl
    | some a => rw [hf2] at hq; cases hq
   rw [hz] at h2
   rw [ak]
   exact Eq.trans ((Gf c lo hi .nils).trans (e0 .nils (.inl rfl))) (Eq.trans (e9 _) h2)
  | false =>
   rw [ax]
   clear hd hq
   generalize ai aa name [] = l at hn h2 ⊢
   cases l with
   | nil =>
    rw [show (decide (([] : ag) = [])) = true from rfl, ak]
    exact Eq.trans ((Gf c lo hi .emp).trans (e0 .emp (.inr rfl))) (Eq.trans (e9 _) h2)
   | cons p pm =>
    rw [show (decide (p :: pm = [])) = false from rfl, ax, aE hn, ak]
    refine Eq.trans ((YL c lo hi (p :: pm) [] (p :: pm)).trans ((Sy (ot := []) hn).trans ?_)) h2
    show (bif cy c lo hi (p :: pm) then _ else _) = (bif cy c lo hi (p :: pm) then (bif c == 0 then _ else _) else _)
    cases hk : cy c lo hi (p :: pm) with
    | false => rfl
    | true => rw [Gg hk]; rfl
 ·cases h'
def nuF (args : List AV) (hs : LHp) : Tq := orT (YN args hs) (YM args hs)
theorem Mn : bE 215 (ao nuF) := jO SB SA
theorem YO (a : Int) (d : ag) : aC vn f107 4 [] [.d (.slice af) (a :: d)] [] ah = (app [] (a :: d)).bind fun v0 => some (aq.ret [AV.os 0 0], [(0, al.arr 3 (af) 0 false v0)]) := by kernel_rfl
def YP : List AV -> LHp -> Tq
 | [.d zS xs], [] => .br (xs.isEmpty) (.leaf (.ret [.emp]) []) (.br (decide (xs.length <= 2147483648)) (.leaf (.ret [.os 0 0]) [(0, .arr 3 af 0 false xs)]) .no)
 | _, _ => .no
theorem SC : bE 107 (ao YP) := by
 have h2 := bS (d := 4) (l := []) fK func107 call107
 have h1 : bE 107 R8 := yz
 refine aO fun args hs ae aF h' => ?_
 unfold YP at h'
 split at h'
 ·rename_i xs
  cases xs with
  | nil =>
   cases h'
   exact h1.2 _ _ _ _ rfl
  | cons a d =>
   have h3 : (Tq.br (decide ((a :: d).length <= 2147483648)) (.leaf (.ret [.os 0 0]) [(0, .arr 3 af 0 false (a :: d))]) .no).run ah = some (ae, aF) := h'
   obtain ⟨hb, h4⟩ := Tq.br_no h3
   exact h2.okC ((YO a d).trans (Eq.trans (by rw [Sv (aZ hb)]; rfl) h4))
 ·cases h'
noncomputable def Wk : Code := bD f76
noncomputable def mM : Code := cL (cL (cR (cL (cR (cR (cR (cR (cR Wk))))))))
noncomputable def dG : Cfg := ⟨94, 7, 0, [(2, [0, 1, 18, 19, 20]), (13, [1, 10, 11, 48, 49])], true⟩
noncomputable def ux : Env := XY.add 107 (ao YP)
theorem Mo : ux.Good := pw.add SC
def uy (ys o : ag) (a i : Int) : LSt := { fr := aw 7 [(1, .d (.slice af) ys), (10, .os 0 0), (11, I a), (48, I (Int.ofNat ys.length)), (49, I i)], hp := [(0, .arr 3 af 0 false o)], nx := 1 }
noncomputable def Gh : AEx -> LSt -> Option (aq × LHp) := (aW 2 (bt ux dG [13] (hlp ux dG) (cR (cR (cR (cR (cR (cR Wk)))))) (bA prog 0 f76.results.toList ah)))
theorem YQ (xs ys : ag) : aC ux f76 7 [(2, [0, 1, 18, 19, 20]), (13, [1, 10, 11, 48, 49])] [.d (.slice af) xs, .d (.slice af) ys] [] ah = bif decide (xs.length <= 9223372036854775807) then bif aB xs != 0 then ay [AV.nils, I (aB xs)] else bif decide (ys.length <= 9223372036854775807) then bif aB ys != 0 then ay [AV.nils, I (aB ys)] else bif decide (Int.ofNat xs.length < Int.ofNat ys.length) then bif ys.isEmpty then (hlp ux dG) mM _ { fr := aw 7 [(1, AV.d (af).slice xs), (10, AV.emp), (11, I (i64.wrap (Int.ofNat ys.length - Int.ofNat xs.length))), (48, I (Int.ofNat xs.length)), (49, I 0)], hp := [], nx := 0 } Gh else bif decide (ys.length <= 2147483648) then (hlp ux dG) mM _ (uy xs ys (i64.wrap (Int.ofNat ys.length - Int.ofNat xs.length)) 0) Gh else none else bif xs.isEmpty then (hlp ux dG) mM _ { fr := aw 7 [(1, AV.d (af).slice ys), (10, AV.emp), (11, I (i64.wrap (Int.ofNat xs.length - Int.ofNat ys.length))), (48, I (Int.ofNat ys.length)), (49, I 0)], hp := [], nx := 0 } Gh else bif decide (xs.length <= 2147483648) then (hlp ux dG) mM _ (uy ys xs (i64.wrap (Int.ofNat xs.length - Int.ofNat ys.length)) 0) Gh else none else none else none := (bI [13] dG rfl).trans (by obtain ⟨hl, h⟩ := bw ux dG; rw [h]; kernel_rfl)
def SD (a : Int) : LSt := { fr := aw 7 [(1, .d (.slice af) []), (10, .emp), (11, I a), (48, I 0), (49, I 0)], hp := [], nx := 0 }
theorem Mp (ys o : ag) (a i : Int) (n : Nat) {R : Type} (k : AEx -> LSt -> Option R) : lp ux dG mM (n + 1) (uy ys o a i) k = bif decide (i < Int.ofNat ys.length) then (idx o (i64.wrap (a + i))).bind fun v1 => (o[(i64.wrap (a + i)).toNat]?).bind fun v2 => bif v2 == 1 then (idx ys i).bind fun v4 => (fJ o (i64.wrap (a + i)).toNat v4).bind fun v5 => lp ux dG mM n (uy ys v5 a (i64.wrap (i + 1))) k else (idx ys i).bind fun v4 => bif v4 != 1 then (idx ys i).bind fun v6 => (o[(i64.wrap (a + i)).toNat]?).bind fun v7 => bif v6 != v7 then k AEx.ret { fr := aw 7 [(1, AV.d (af).slice ys), (4, AV.nils), (5, I 4), (10, AV.os 0 0), (11, I a), (12, I i), (13, AV.oe 0 0 (i64.wrap (a + i)).toNat), (48, I (Int.ofNat ys.length)), (49, I i), (50, B true), (51, I i), (52, AV.os 0 0), (53, I a), (54, I i), (55, I (i64.wrap (a + i))), (56, AV.oe 0 0 (i64.wrap (a + i)).toNat), (57, B false), (58, AV.oe 0 0 (i64.wrap (a + i)).toNat), (59, AV.oe 0 0 (i64.wrap (a + i)).toNat), (60, I v2), (61, B (v2 == 1)), (68, B true), (69, AV.d (af).slice ys), (70, I i), (71, AV.ip (af) v4), (72, I v4), (73, B (v4 != 1)), (74, B true), (75, AV.d (af).slice ys), (76, I i), (77, AV.ip (af) v6), (78, I v6), (79, AV.oe 0 0 (i64.wrap (a + i)).toNat), (80, AV.oe 0 0 (i64.wrap (a + i)).toNat), (81, I v7), (82, B (v6 != v7)), (83, B (v6 != v7))], hp := [(0, al.arr 3 (af) 0 false o)], nx := 1 } else lp ux dG mM n (uy ys o a (i64.wrap (i + 1))) k else lp ux dG mM n (uy ys o a (i64.wrap (i + 1))) k else k (AEx.exit 2) { fr := aw 7 [(1, AV.d (af).slice ys), (10, AV.os 0 0), (11, I a), (48, I (Int.ofNat ys.length)), (49, I i), (50, B false)], hp := [(0, al.arr 3 (af) 0 false o)], nx := 1 } := by kernel_rfl
theorem YR (a : Int) (n : Nat) {R : Type} (k : AEx -> LSt -> Option R) : lp ux dG mM (n + 1) (SD a) k = k (AEx.exit 2) { fr := aw 7 [(1, AV.d (af).slice []), (10, AV.emp), (11, I a), (48, I 0), (49, I 0), (50, B false)], hp := [], nx := 0 } := by kernel_rfl
theorem ae8 (ys o : ag) (a i : Int) : Gh (.exit 2) { fr := aw 7 [(1, .d (.slice af) ys), (10, .os 0 0), (11, I a), (48, I (Int.ofNat ys.length)), (49, I i), (50, B false)], hp := [(0, .arr 3 af 0 false o)], nx := 1 } = bif decide (o.length <= 9223372036854775807) then bif aB o != 0 then ay [AV.nils, I (aB o)] else some (aq.ret [AV.os 0 0, I 0], [(0, al.arr 3 (af) 0 false o)]) else none := by kernel_rfl
theorem YS (a : Int) : Gh (.exit 2) { fr := aw 7 [(1, .d (.slice af) []), (10, .emp), (11, I a), (48, I 0), (49, I 0), (50, B false)], hp := [], nx := 0 } = ay [AV.emp, I 0] := by kernel_rfl
noncomputable def Em : Code := bD f244
noncomputable def Mq : Code := cL (cL (cL (cR (cR (cR (cR (cR (cR (cR (cR Em))))))))))
noncomputable def kv : Cfg := ⟨66, 7, 0, [(11, [0, 1, 2, 3, 9, 10])], true⟩
theorem SE (s : aj) : aC g28 f277 4 [] [.d .str s, .d .str [44]] [] ah = bif [44] == s then ay [I 0] else ay [I (Lib.indexByte s 44)] := by kernel_rfl
theorem SF (s : aj) : aC g30 f276 6 [(6, [0, 1, 5])] [.d .str s, .d .str [44]] [] ah = ay [I (Int.ofNat (Lib.countByte s 44))] := by kernel_rfl
def dd (s : aj) : Int := Lib.indexByte s 44
def Mr : List AV -> LHp -> Tq
 | [.d .str s, .d .str sep], [] => .br (decide (sep = [44])) (.leaf (.ret [I (dd s)]) []) .no
 | _, _ => .no
theorem Ms (s : aj) : aC g28 f277 4 [] [.d .str s, .d .str [44]] [] ah = some (.ret [I (dd s)], []) := by
 rw [SE]
 cases h : [44] == s with
 | false => rfl
 | true =>
  obtain rfl := eq_of_beq h
  rfl
theorem Mt : bE 277 (ao Mr) := by
 have h1 : bE 277 (au g28 f277 4 []) := FO
 refine aO fun args hs ae aF h' => ?_
 unfold Mr at h'
 split at h'
 ·obtain ⟨hb, h2⟩ := Tq.br_no h'
  obtain rfl := aZ hb
  exact h1.okC ((Ms _).trans h2)
 ·cases h'
def Mv : List AV -> LHp -> Tq
 | [.d .str s, .d .str sep], [] => .br (decide (sep = [44])) (.leaf (.ret [I (Int.ofNat (s.count 44))]) []) .no
 | _, _ => .no
theorem Mw : bE 276 (ao Mv) := by
 have h1 : bE 276 (au g30 f276 6 [(6, [0, 1, 5])]) := FP
 refine aO fun args hs ae aF h' => ?_
 unfold Mv at h'
 split at h'
 ·obtain ⟨hb, h2⟩ := Tq.br_no h'
  obtain rfl := aZ hb
  exact h1.okC ((SF _).trans h2)
 ·cases h'
noncomputable def J4 : Env := (g31.add 277 (ao Mr)).add 276 (ao Mv)
theorem Mx : J4.Good := (mL.add Mt).add Mw
def nW (s : aj) : Int := if i64.wrap (Int.ofNat s.length + 1) < i64.wrap (Int.ofNat (s.count 44) + 1) then i64.wrap (Int.ofNat s.length + 1) else i64.wrap (Int.ofNat (s.count 44) + 1)
def My (s : aj) (N i : Int) (l : List (aj)) : LSt := ⟨aw 7 [(0, .d .str s), (1, .d .str [44]), (2, I 0), (3, I N), (9, .os 0 0), (10, I i)], [(0, .arr 9 .str 0 false l)], 1⟩
theorem Mz (hl : Hl) (s : aj) : Qx J4 f244 7 [(11, [0, 1, 2, 3, 9, 10])] [11] hl [.d .str s, .d .str [44], I 0, I (-1)] [] ah =
  (if 0 <= nW s /\ nW s <= 4294967296 then some (List.replicate (nW s).toNat []) else none).bind fun v0 => hl Mq _ (My s (i64.wrap (nW s - 1)) 0 v0) (aW 0 (bt J4 kv [11] hl (cR (cR (cR (cR (cR (cR (cR (cR (cR Em))))))))) (bA prog 0 f244.results.toList ah))) := by kernel_rfl
noncomputable def KSg : AEx -> LSt -> Option (aq × LHp) := aW 0 (bt J4 kv [11] (hlp J4 kv) (cR (cR (cR (cR (cR (cR (cR (cR (cR Em))))))))) (bA prog 0 f244.results.toList ah))
theorem SG (s : aj) : aC J4 f244 7 [(11, [0, 1, 2, 3, 9, 10])] [.d .str s, .d .str [44], I 0, I (-1)] [] ah =
  (if 0 <= nW s /\ nW s <= 4294967296 then some (List.replicate (nW s).toNat []) else none).bind fun v0 => lp J4 kv Mq fu (My s (i64.wrap (nW s - 1)) 0 v0) KSg := wR.trans (Mz (hlp J4 kv) s)
theorem Gi (s : aj) (N i : Int) (l : List (aj)) (n : Nat) {R : Type} (k : AEx -> LSt -> Option R) : lp J4 kv Mq (n + 1) (My s N i l) k = bif decide (i < N) then bif decide (dd s < 0) then k (AEx.exit 0) { fr := aw 7 [(0, AV.d Ty.str s), (1, AV.d Ty.str [44]), (2, I 0), (3, I N), (9, AV.os 0 0), (10, I i), (11, I (dd s)), (34, I i), (35, I N), (36, B true), (37, AV.d Ty.str s), (38, AV.d Ty.str [44]), (39, I (dd s)), (40, I (dd s)), (41, B true)], hp := [(0, al.arr 9 Ty.str 0 false l)], nx := 1 } else (if (0 : Int) <= 0 /\ 0 <= i64.wrap (dd s + 0) /\ i64.wrap (dd s + 0) <= Int.ofNat s.length then some (List.drop 0 (List.take (i64.wrap (dd s + 0)).toNat s)) else none).bind fun v2 => (idx l i).bind fun v3 => (fJ l i.toNat v2).bind fun v4 => (if 0 <= i64.wrap (dd s + 1) /\ i64.wrap (dd s + 1) <= Int.ofNat s.length /\ Int.ofNat s.length <= Int.ofNat s.length then some (List.drop (i64.wrap (dd s + 1)).toNat (List.take (Int.ofNat s.length).toNat s)) else none).bind fun v5 => lp J4 kv Mq n (My v5 N (i64.wrap (i + 1)) v4) k else k (AEx.exit 0) { fr := aw 7 [(0, AV.d Ty.str s), (1, AV.d Ty.str [44]), (2, I 0), (3, I N), (9, AV.os 0 0), (10, I i), (34, I i), (35, I N), (36, B false)], hp := [(0, al.arr 9 Ty.str 0 false l)], nx := 1 } := by kernel_rfl
theorem SH (s : aj) (N i : Int) (l : List (aj)) : KSg (.exit 0) { fr := aw 7 [(0, AV.d Ty.str s), (1, AV.d Ty.str [44]), (2, I 0), (3, I N), (9, AV.os 0 0), (10, I i), (34, I i), (35, I N), (36, B false)], hp := [(0, .arr 9 .str 0 false l)], nx := 1 } = (idx l i).bind fun v0 => (fJ l i.toNat s).bind fun v1 => (if (0 : Int) <= 0 /\ 0 <= i64.wrap (i + 1) /\ i64.wrap (i + 1) <= Int.ofNat v1.length then some (List.drop 0 (List.take (i64.wrap (i + 1)).toNat v1)) else none).bind fun v2 => ay [AV.d Ty.str.slice v2] := by kernel_rfl
def cE : aj -> List (aj)
 | [] => [[]]
 | x :: r => bif x == 44 then [] :: cE r else (match cE r with | h :: t => (x :: h) :: t | [] => [[x]])
theorem uz : ∀ s : aj, (cE s).length = s.count 44 + 1
 | [] => rfl
 | x :: r => by
  have h := uz r
  unfold cE
  cases hx : x == 44 with
  | true =>
   obtain rfl := eq_of_beq hx
   rw [ak, List.length_cons, h, List.count_cons_self]
  | false =>
   rw [ax, List.count_cons_of_ne (by intro e; rw [e] at hx; exact absurd hx (by decide))]
   cases hr : cE r with
   | nil => rw [hr] at h; simp at h
   | cons a t => rw [hr] at h; simpa using h
theorem oC : ∀ {s : aj}, dd s < 0 -> s.count 44 = 0 /\ cE s = [s]
 | [], _ => ⟨rfl, rfl⟩
 | x :: r, h => by
  unfold dd Lib.indexByte at h
  cases hx : x == 44 with
  | true => rw [hx] at h; exact absurd (show (0 : Int) < 0 from h) (by decide)
  | false =>
   rw [hx] at h
   have hr : dd r < 0 := by
    unfold dd
    cases hq : Lib.indexByte r 44 == -1 with
    | true => rw [eq_of_beq hq]; decide
    | false =>
     rw [hq] at h
     have h : Lib.indexByte r 44 + 1 < 0 := h
     omega
   obtain ⟨h1, h2⟩ := oC hr
   refine ⟨?_, ?_⟩
   ·rw [List.count_cons_of_ne (by intro e; rw [e] at hx; exact absurd hx (by decide))]
    exact h1
   ·unfold cE
    rw [hx, ax, h2]
theorem oD : ∀ {s : aj}, ¬ dd s < 0 -> ∃ m : Nat, dd s = m /\ m < s.length /\ s.count 44 = (s.drop (m + 1)).count 44 + 1 /\ cE s = s.take m :: cE (s.drop (m + 1))
 | [], h => absurd (show (-1 : Int) < 0 by decide) h
 | x :: r, h => by
  cases hx : x == 44 with
  | true =>
   refine ⟨0, ?_, by simp, ?_, ?_⟩
   ·unfold dd Lib.indexByte
    rw [hx]
    rfl
   ·obtain rfl := eq_of_beq hx
    rw [List.count_cons_self]
    rfl
   ·rw [cE.eq_2, hx, ak]
    rfl
  | false =>
   have e : dd (x :: r) = bif dd r == -1 then -1 else dd r + 1 := by
    show (if (x == 44) = true then (0 : Int) else if (Lib.indexByte r 44 == -1) = true then -1 else Lib.indexByte r 44 + 1) = _
    rw [hx]
    unfold dd
    cases Lib.indexByte r 44 == -1 <;> rfl
   have hr : ¬ dd r < 0 := by
    intro hc
    apply h
    rw [e]
    cases hq : dd r == -1 with
    | true => show (-1 : Int) < 0; decide
    | false =>
     have := Lib.indexByte_ge r 44
     have h2 : dd r ≠ -1 := by simpa using hq
     unfold dd at h2 hc
     omega
   obtain ⟨m, h1, h2, h3, h4⟩ := oD hr
   refine ⟨m + 1, ?_, by simpa using h2, ?_, ?_⟩
   ·rw [e, h1]
    have : (((m : Nat) : Int) == -1) = false := by rw [beq_eq_false_iff_ne]; omega
    rw [this]
    rfl
   ·rw [List.count_cons_of_ne (by intro e; rw [e] at hx; exact absurd hx (by decide))]
    exact h3
   ·rw [cE.eq_2, hx, ax, h4]
    rfl
theorem se {α : Type} (dn : List α) (x y : α) (t : List α) : fJ (dn ++ x :: t) dn.length y = some (dn ++ y :: t) := by
 unfold fJ
 rw [show Nat.blt dn.length (dn ++ x :: t).length = true from Nat.ble_eq_true_of_le (by rw [List.length_append, List.length_cons]; omega), ak, List.set_append_right _ _ (Nat.le_refl _), Nat.sub_self]
 rfl
theorem nr {α : Type} (dn : List α) (x : α) (t : List α) : idx (dn ++ x :: t) ((dn.length : Nat) : Int) = some x := by
 unfold idx
 rw [if_pos (by omega), Int.toNat_natCast, List.getElem?_append_right (Nat.le_refl _), Nat.sub_self]
 rfl
theorem YT {x : aj} {m : Nat} (h : m <= x.length) : (if (0 : Int) <= 0 /\ 0 <= ((m : Nat) : Int) /\ ((m : Nat) : Int) <= Int.ofNat x.length then some (List.drop 0 (List.take ((m : Nat) : Int).toNat x)) else none) = some (x.take m) := by
 rw [if_pos ⟨by omega, by omega, by simp only [aT]; omega⟩, Int.toNat_natCast]
 rfl
theorem YU {x : aj} {n : Nat} (h : n <= x.length) : (if 0 <= ((n : Nat) : Int) /\ ((n : Nat) : Int) <= Int.ofNat x.length /\ Int.ofNat x.length <= Int.ofNat x.length then some (List.drop ((n : Nat) : Int).toNat (List.take (Int.ofNat x.length).toNat x)) else none) = some (x.drop n) := by
 rw [if_pos ⟨by omega, by simp only [aT]; omega, Int.le_refl _⟩, Int.toNat_natCast]
 show some (List.drop n (List.take x.length x)) = _
 rw [List.take_length]
theorem SI : ∀ (c : Nat) (s : aj) (dn : List (aj)) (nn : Nat), s.count 44 = c -> s.length <= 2147483648 -> dn.length + c <= 2147483648 -> c < nn ->
  lp J4 kv Mq nn (My s ((dn.length + c : Nat) : Int) ((dn.length : Nat) : Int) (dn ++ List.replicate (c + 1) [])) KSg = some (.ret [.d (.slice .str) (dn ++ cE s)], []) := by
 intro c
 induction c with
 | zero =>
  intro s dn nn hc hs hb hn
  obtain ⟨nn, rfl⟩ : ∃ m', nn = m' + 1 := ⟨nn - 1, by omega⟩
  have HC : dd s < 0 := by
   rcases Classical.em (dd s < 0) with h | h
   ·exact h
   ·obtain ⟨m, _, _, h3, _⟩ := oD h
    omega
  have w1 : i64.wrap (((dn.length : Nat) : Int) + 1) = ((dn.length + 1 : Nat) : Int) := by rw [aJ (by omega) (by omega)]; omega
  rw [Gi, de (show ¬ (((dn.length : Nat) : Int) < ((dn.length + 0 : Nat) : Int)) by omega), ax]
  refine Eq.trans (SH s _ _ _) ?_
  rw [show List.replicate (0 + 1) ([] : aj) = [[]] from rfl, nr, aA, Int.toNat_natCast, se, aA, w1, if_pos ⟨by omega, by omega, by rw [List.length_append]; simp only [aT, List.length_cons, List.length_nil]; omega⟩, aA, Int.toNat_natCast, (oC HC).2, List.take_of_length_le (by rw [List.length_append, List.length_cons, List.length_nil]; omega)]
  rfl
 | succ c ih =>
  intro s dn nn hc hs hb hn
  obtain ⟨nn, rfl⟩ : ∃ m', nn = m' + 1 := ⟨nn - 1, by omega⟩
  have HC : ¬ dd s < 0 := fun h => by rw [(oC h).1] at hc; omega
  obtain ⟨m, h1, h2, h3, h4⟩ := oD HC
  have key := ih (s.drop (m + 1)) (dn ++ [s.take m]) nn (by omega) (by rw [List.length_drop]; omega) (by rw [List.length_append, List.length_cons, List.length_nil]; omega) (by omega)
  have w1 : i64.wrap (((dn.length : Nat) : Int) + 1) = (((dn ++ [s.take m]).length : Nat) : Int) := by rw [List.length_append, List.length_cons, List.length_nil, aJ (by omega) (by omega)]; omega
  have w2 : i64.wrap (((m : Nat) : Int) + 0) = ((m : Nat) : Int) := by rw [Int.add_zero]; exact aJ (by omega) (by omega)
  have w3 : i64.wrap (((m : Nat) : Int) + 1) = ((m + 1 : Nat) : Int) := by rw [aJ (by omega) (by omega)]; omega
  have e1 : dn ++ [s.take m] ++ cE (s.drop (m + 1)) = dn ++ cE s := by rw [h4, List.append_assoc]; rfl
  have e2 : dn ++ [s.take m] ++ List.replicate (c + 1) ([] : aj) = dn ++ s.take m :: List.replicate (c + 1) [] := by rw [List.append_assoc]; rfl
  have e3 : (dn ++ [s.take m]).length + c = dn.length + (c + 1) := by rw [List.length_append, List.length_cons, List.length_nil]; omega
  rw [e1, e2, e3] at key
  rw [Gi, aE (show ((dn.length : Nat) : Int) < ((dn.length + (c + 1) : Nat) : Int) by omega), ak, de HC, ax, h1, w2, YT (by omega), aA, List.replicate_succ, nr, aA, Int.toNat_natCast, se, aA, w3, YU (by omega), aA, w1]
  exact key
theorem B7 (s : aj) : s.count 44 <= s.length := List.count_le_length
theorem MA {s : aj} (hs : s.length <= 2147483647) : aC J4 f244 7 [(11, [0, 1, 2, 3, 9, 10])] [.d .str s, .d .str [44], I 0, I (-1)] [] ah = some (.ret [.d (.slice .str) (cE s)], []) := by
 have hc := B7 s
 have w1 : i64.wrap (Int.ofNat s.length + 1) = ((s.length + 1 : Nat) : Int) := by simp only [aT]; rw [aJ (by omega) (by omega)]; omega
 have w2 : i64.wrap (Int.ofNat (s.count 44) + 1) = ((s.count 44 + 1 : Nat) : Int) := by simp only [aT]; rw [aJ (by omega) (by omega)]; omega
 have hr : nW s = ((s.count 44 + 1 : Nat) : Int) := by
  unfold nW
  rw [w1, w2, if_neg (by omega)]
 have w3 : i64.wrap (((s.count 44 + 1 : Nat) : Int) - 1) = ((s.count 44 : Nat) : Int) := by rw [aJ (by omega) (by omega)]; omega
 have key := SI (s.count 44) s [] fu rfl (by omega) (by simp only [List.length_nil]; omega) (by unfold fu; omega)
 rw [SG, hr, if_pos ⟨by omega, by omega⟩, aA, Int.toNat_natCast, w3]
 rw [List.length_nil, Nat.zero_add] at key
 exact key
def Wl : List Int -> List Int -> Option (ag)
 | d :: r, e :: s => bif d == 1 then (Wl r s).map (e :: ·) else bif e != 1 && e != d then none else (Wl r s).map (d :: ·)
 | r, _ => some r
def wV (o : Option (ag)) : Option (aq × LHp) := match o with
 | some l => bif aB l != 0 then some (.ret [.nils, I (aB l)], []) else some (.ret [.os 0 0, I 0], [(0, .arr 3 af 0 false l)])
 | none => some (.ret [.nils, I 4], [])
theorem YV {a : Int} {L : Nat} (hL : L <= 2147483648) : ∀ (ysr yp pre rest : ag) (nn : Nat), rest.length = ysr.length -> a + ((yp.length : Nat) : Int) = ((pre.length : Nat) : Int) -> pre.length + rest.length = L -> yp.length <= pre.length -> ysr.length < nn ->
  lp ux dG mM nn (uy (yp ++ ysr) (pre ++ rest) a ((yp.length : Nat) : Int)) Gh = wV ((Wl rest ysr).map (pre ++ ·)) := by
 intro ysr
 induction ysr with
 | nil =>
  intro yp pre rest nn h1 h2 h3 h4 hn
  obtain ⟨nn, rfl⟩ : ∃ m', nn = m' + 1 := ⟨nn - 1, by omega⟩
  have hr : rest = [] := List.length_eq_zero_iff.1 h1
  subst hr
  rw [Mp, de (show ¬ (((yp.length : Nat) : Int) < Int.ofNat (yp ++ ([] : ag)).length) by rw [List.append_nil]; simp only [aT]; omega), ax]
  refine (ae8 _ _ _ _).trans ?_
  rw [List.append_nil, aE (show pre.length <= 9223372036854775807 by simp only [List.length_nil] at h3; omega), ak]
  show _ = wV (some (pre ++ []))
  rw [List.append_nil]
  rfl
 | cons e s ih =>
  intro yp pre rest nn h1 h2 h3 h4 hn
  obtain ⟨nn, rfl⟩ : ∃ m', nn = m' + 1 := ⟨nn - 1, by omega⟩
  cases rest with
  | nil => simp at h1
  | cons d r =>
   simp only [List.length_cons] at h1 h3 hn
   have w0 : i64.wrap (a + ((yp.length : Nat) : Int)) = ((pre.length : Nat) : Int) := by rw [h2]; exact aJ (by omega) (by omega)
   have w1 : i64.wrap (((yp.length : Nat) : Int) + 1) = (((yp ++ [e]).length : Nat) : Int) := by rw [List.length_append, List.length_cons, List.length_nil, aJ (by omega) (by omega)]; omega
   have g1 := nr pre d r
   have g2 : (pre ++ d :: r)[pre.length]? = some d := by rw [List.getElem?_append_right (Nat.le_refl _), Nat.sub_self]; rfl
   have g3 := nr yp e s
   have key : ∀ v : Int, lp ux dG mM nn (uy (yp ++ e :: s) (pre ++ v :: r) a (((yp ++ [e]).length : Nat) : Int)) Gh = wV ((Wl r s).map (pre ++ v :: ·)) := fun v => by
    have k := ih (yp ++ [e]) (pre ++ [v]) r nn (by omega) (by rw [List.length_append, List.length_append, List.length_cons, List.length_nil, List.length_cons, List.length_nil]; omega) (by rw [List.length_append, List.length_cons, List.length_nil]; omega) (by rw [List.length_append, List.length_append, List.length_cons, List.length_nil, List.length_cons, List.length_nil]; omega) (by omega)
    rw [List.append_assoc, List.append_assoc] at k
    refine Eq.trans k ?_
    congr 2
    funext l
    rw [List.append_assoc]
    rfl
   rw [Mp, aE (show ((yp.length : Nat) : Int) < Int.ofNat (yp ++ e :: s).length by rw [List.length_append, List.length_cons]; simp only [aT]; omega), ak, w0, g1, aA, Int.toNat_natCast, g2, aA, g3, aA, aA, se, aA, w1]
   have eb : Wl (d :: r) (e :: s) = bif d == 1 then (Wl r s).map (e :: ·) else bif e != 1 && e != d then none else (Wl r s).map (d :: ·) := rfl
   rw [eb]
   cases d == 1 with
   | true =>
    rw [ak, ak, Option.map_map]
    exact key e
   | false =>
    rw [ax, ax]
    cases e != 1 with
    | true =>
     rw [ak, aA, aA, Bool.true_and]
     cases e != d with
     | true =>
      show _ = _
      kernel_rfl
     | false =>
      rw [ax, ax, Option.map_map]
      exact key d
    | false =>
     rw [ax, Bool.false_and, ax, Option.map_map]
     exact key d
def bcA (A B : ag) : Option (ag) := (Wl (A.drop (A.length - B.length)) B).map (A.take (A.length - B.length) ++ ·)
def SJ (xs ys : ag) : Option (ag) := bif decide (Int.ofNat xs.length < Int.ofNat ys.length) then bcA ys xs else bcA xs ys
def C7 (xs ys : ag) : Bool := bif decide (Int.ofNat xs.length < Int.ofNat ys.length) then ys.isEmpty else xs.isEmpty
def bcN (xs ys : ag) : Bool := (SJ xs ys).isNone
def En (xs ys : ag) : ag := (SJ xs ys).getD []
theorem Wm (ys o : ag) (a : Int) : hlp ux dG mM (aq × LHp) (uy ys o a 0) Gh = lp ux dG mM fu (uy ys o a 0) Gh := rfl
theorem YW (a : Int) : hlp ux dG mM (aq × LHp) (SD a) Gh = lp ux dG mM fu (SD a) Gh := rfl
theorem Gj {A B : ag} (h : B.length <= A.length) (hA : A.length <= 2147483648) : lp ux dG mM fu (uy B A (i64.wrap (Int.ofNat A.length - Int.ofNat B.length)) 0) Gh = wV (bcA A B) := by
 have w : i64.wrap (Int.ofNat A.length - Int.ofNat B.length) = ((A.length - B.length : Nat) : Int) := by
  simp only [aT]
  rw [aJ (by omega) (by omega)]
  omega
 have k := YV (a := ((A.length - B.length : Nat) : Int)) (L := A.length) hA B [] (A.take (A.length - B.length)) (A.drop (A.length - B.length)) fu (by rw [List.length_drop]; omega) (by rw [List.length_take, List.length_nil]; omega) (by rw [List.length_take, List.length_drop]; omega) (by simp) (by unfold fu; omega)
 rw [List.take_append_drop, List.nil_append] at k
 rw [w]
 exact k
theorem YX (a : Int) : lp ux dG mM fu (SD a) Gh = some (.ret [.emp, I 0], []) := by
 obtain ⟨n', Fb⟩ : ∃ n, fu = n + 1 := ⟨18446744073709551615, rfl⟩
 rw [Fb, YR]
 exact YS a
def MB (xs ys : ag) : Tq :=
 .br (decide (xs.length <= 2147483648 /\ ys.length <= 2147483648)) (.br (aB xs != 0) (.leaf (.ret [.nils, I (aB xs)]) []) (.br (aB ys != 0) (.leaf (.ret [.nils, I (aB ys)]) [])
  (.br (C7 xs ys) (.leaf (.ret [.emp, I 0]) []) (.br (bcN xs ys) (.leaf (.ret [.nils, I 4]) []) (.br (aB (En xs ys) != 0) (.leaf (.ret [.nils, I (aB (En xs ys))]) []) (.leaf (.ret [.os 0 0, I 0]) [(0, .arr 3 af 0 false (En xs ys))])))))) .no
theorem MC (o : Option (ag)) : wV o = bif o.isNone then some (.ret [.nils, I 4], []) else bif aB (o.getD []) != 0 then some (.ret [.nils, I (aB (o.getD []))], []) else some (.ret [.os 0 0, I 0], [(0, .arr 3 af 0 false (o.getD []))]) := by
 cases o <;> rfl
theorem SK {xs ys : ag} (hx : xs.length <= 2147483648) (hy : ys.length <= 2147483648) : aC ux f76 7 [(2, [0, 1, 18, 19, 20]), (13, [1, 10, 11, 48, 49])] [.d (.slice af) xs, .d (.slice af) ys] [] ah = (MB xs ys).run ah := by
 have hb : (MB xs ys).run ah = bif aB xs != 0 then some (.ret [.nils, I (aB xs)], []) else bif aB ys != 0 then some (.ret [.nils, I (aB ys)], []) else bif C7 xs ys then some (.ret [.emp, I 0], []) else wV (SJ xs ys) := by
  rw [MC]
  unfold MB
  simp only [Tq.run, aE (show xs.length <= 2147483648 /\ ys.length <= 2147483648 from ⟨hx, hy⟩), ak]
  rfl
 rw [hb, YQ, aE (show xs.length <= 9223372036854775807 by omega), aE (show ys.length <= 9223372036854775807 by omega), ak]
 cases aB xs != 0 with
 | true => rfl
 | false =>
  rw [ax, ax, ak]
  cases aB ys != 0 with
  | true => rfl
  | false =>
   rw [ax, ax]
   unfold C7 SJ
   cases cn : decide (Int.ofNat xs.length < Int.ofNat ys.length) with
   | true =>
    have hl : xs.length < ys.length := by have := aZ cn; simp only [aT] at this; omega
    rw [ak, ak, ak]
    cases hys : ys with
    | nil => rw [hys] at hl; simp at hl
    | cons d r =>
     rw [← hys, show ys.isEmpty = false by rw [hys]; rfl, ax, ax, aE hy, ak]
     exact (Wm xs ys _).trans (Gj (by omega) hy)
   | false =>
    have hl : ys.length <= xs.length := by have := rq cn; simp only [aT] at this; omega
    rw [ax, ax, ax]
    cases hxs : xs with
    | nil =>
     rw [hxs] at hl
     have hy0 : ys = [] := List.length_eq_zero_iff.1 (by simpa using hl)
     subst hy0
     rw [show (([] : ag).isEmpty) = true from rfl, ak, ak]
     exact (YW _).trans (YX _)
    | cons d r =>
     rw [← hxs, show xs.isEmpty = false by rw [hxs]; rfl, ax, ax, aE hx, ak]
     exact (Wm ys xs _).trans (Gj hl hx)
def YY : List AV -> LHp -> Tq
 | [.d zS xs, .d zS ys], [] => MB xs ys
 | _, _ => .no
theorem SL : bE 76 (ao YY) := by
 have h1 := bS (d := 7) (l := [(2, [0, 1, 18, 19, 20]), (13, [1, 10, 11, 48, 49])]) Mo func76 call76
 refine aO fun args hs ae aF h' => ?_
 unfold YY at h'
 split at h'
 ·have h2 := h'
  unfold MB at h2
  obtain ⟨hb, _⟩ := Tq.br_no h2
  obtain ⟨hx, hy⟩ := aZ hb
  exact h1.okC ((SK hx hy).trans h')
 ·cases h'
noncomputable def gSr : Env := XY.add 76 (ao YY)
theorem MD : gSr.Good := pw.add SL
theorem YZ (xs ys : ag) : aC gSr f148 5 [] [.d (.slice af) xs, .d (.slice af) ys] [] ah = bif decide (xs.length <= 2147483648 /\ ys.length <= 2147483648) then bif aB xs != 0 then bif aB xs != 0 then some (aq.panic 131 (aB xs), []) else ay [AV.nils] else bif aB ys != 0 then bif aB ys != 0 then some (aq.panic 131 (aB ys), []) else ay [AV.nils] else bif C7 xs ys then ay [AV.emp] else bif bcN xs ys then aV else bif aB (En xs ys) != 0 then bif aB (En xs ys) != 0 then some (aq.panic 131 (aB (En xs ys)), []) else ay [AV.nils] else some (aq.ret [AV.os 0 0], [(0, al.arr 3 (af) 0 false (En xs ys))]) else none := by kernel_rfl
def fC (xs ys : ag) : Int := bif aB xs != 0 then aB xs else bif aB ys != 0 then aB ys else bif C7 xs ys then 0 else bif bcN xs ys then 4 else aB (En xs ys)
def Eo (xs ys : ag) : Tq := .br (decide (xs.length <= 2147483648 /\ ys.length <= 2147483648)) (.br (fC xs ys == 0) (.br (C7 xs ys) (.leaf (.ret [.emp]) []) (.leaf (.ret [.os 0 0]) [(0, .arr 3 af 0 false (En xs ys))])) (.leaf (.panic 131 (fC xs ys)) [])) .no
theorem SM (xs ys : ag) : aC gSr f148 5 [] [.d (.slice af) xs, .d (.slice af) ys] [] ah = (Eo xs ys).run ah := by
 rw [YZ]
 unfold Eo
 simp only [Tq.run]
 cases decide (xs.length <= 2147483648 /\ ys.length <= 2147483648) with
 | false => rfl
 | true =>
  unfold fC
  cases h1 : aB xs != 0 with
  | true =>
   have : (aB xs == 0) = false := by simpa using h1
   simp only [ak, this, ax]
  | false =>
   cases h2 : aB ys != 0 with
   | true =>
    have : (aB ys == 0) = false := by simpa using h2
    simp only [ak, this, ax]
   | false =>
    cases C7 xs ys with
    | true => rfl
    | false =>
     cases bcN xs ys with
     | true => rfl
     | false =>
      cases h3 : aB (En xs ys) != 0 with
      | true =>
       have : (aB (En xs ys) == 0) = false := by simpa using h3
       simp only [ak, this, ax]
      | false =>
       have : aB (En xs ys) = 0 := by simpa using h3
       simp only [ak, ax, this]
       rfl
def SN : List AV -> LHp -> Tq
 | [.d zS xs, .d zS ys], [] => Eo xs ys
 | _, _ => .no
theorem Gk : bE 148 (ao SN) := by
 have h1 := bS (d := 5) (l := []) MD func148 call148
 refine aO fun args hs ae aF h' => ?_
 unfold SN at h'
 split at h'
 ·exact h1.okC ((SM _ _).trans h')
 ·cases h'
noncomputable def Wn : Code := bD f210
noncomputable def yH : Code := cL (cL (cR (cL (cR (cR Wn)))))
noncomputable def ij : Cfg := ⟨15, 4, 0, [(3, [3, 5, 6])], true⟩
theorem Y9 (op nm : aj) (ins : List (aj)) (out : aj) (aa : bk) (name : aj) (ot : ag) : aC gIs f25 5 [] [dh op nm ins out aa, .d .str name, .d (.slice af) ot] [] ah = bif decide (aa.length <= 9223372036854775807) then bif decide (bu (fun a => a.fst == name && a.snd.fst == 7) aa < 0) then bif decide (ot = []) then ay [AV.emp] else bif decide (ot.length <= 2147483648) then some (aq.ret [AV.os 0 0], [(0, al.arr 2 (af) 0 false ot)]) else none else (List.find? (fun a => a.fst == name && a.snd.fst == 7) aa).bind fun v2 => bif decide (v2.2.2.2.2.2.2.1 = []) then ay [AV.emp] else bif decide (List.length v2.2.2.2.2.2.2.1 <= 2147483648) then some (aq.ret [AV.os 0 0], [(0, al.arr 2 (af) 0 false v2.2.2.2.2.2.2.1)]) else none else none := by kernel_rfl
noncomputable def KUp : AEx -> LSt -> Option (aq × LHp) := (aW 0 (bt j9 ij [3] (hlp j9 ij) (cR (cR (cR Wn))) (bA prog 0 f210.results.toList ah)))
theorem ME (n : Int) : aC j9 f210 4 [(3, [3, 5, 6])] [I n] [] ah = (hlp j9 ij) yH _ { fr := aw 4 [(3, AV.nils), (5, I n), (6, I 0)], hp := [], nx := 0 } KUp := (bI [3] ij rfl).trans (by obtain ⟨hl, h⟩ := bw j9 ij; rw [h]; kernel_rfl)
noncomputable def Gl : Code := bD f196
noncomputable def SO : Code := cL (cL (cR (cL (cR Gl))))
noncomputable def iW : Cfg := ⟨19, 5, 0, [(2, [0, 1, 7, 8])], true⟩
theorem Za (op : aj) : aC g14 f193 4 [(2, [0, 5, 6])] [.d .str op] [] ah = bif [73, 100, 101, 110, 116, 105, 116, 121] == op then ay [B true] else bif [78, 101, 103] == op then ay [B true] else bif [65, 98, 115] == op then ay [B true] else bif [78, 111, 116] == op then ay [B true] else bif [82, 101, 108, 117] == op then ay [B true] else bif [83, 113, 114, 116] == op then ay [B true] else bif [70, 108, 111, 111, 114] == op then ay [B true] else bif [69, 120, 112] == op then ay [B true] else bif [83, 105, 103, 109, 111, 105, 100] == op then ay [B true] else bif [84, 97, 110, 104] == op then ay [B true] else ay [B false] := by kernel_rfl
def gL (op : aj) : Bool := ones.any fun o => o == op
theorem SP (op : aj) : aC g14 f193 4 [(2, [0, 5, 6])] [.d .str op] [] ah = some (.ret [B (gL op)], []) := by
 rw [Za]
 unfold gL ones
 simp only [List.any_cons, List.any_nil, Bool.or_false]
 repeat (first | rfl | (cases (_ : aj) == op <;> simp only [ak, ax, Bool.true_or, Bool.false_or]))
def SQ : List AV -> LHp -> Option (aq × LHp)
 | [.d .str op], [] => some (.ret [B (gL op)], [])
 | _, _ => none
theorem Gm : bE 193 (fnE SQ) := by
 refine ic pt bX func193 call193 (depth := 4) (live := [(2, [0, 5, 6])]) (by decide +kernel) rfl fun args hs p h => ?_
 unfold SQ at h
 split at h
 ·cases h
  exact SP _
 ·cases h
noncomputable def afa : Env := g31.add 193 (fnE SQ)
theorem IV : afa.Good := mL.add Gm
theorem SR (op : aj) : aC afa f205 3 [] [.d .str op] [] ah = ay [B !gL op] := by kernel_rfl
def MF : List AV -> LHp -> Option (aq × LHp)
 | [.d .str op], [] => some (.ret [B (!gL op)], [])
 | _, _ => none
theorem MG : bE 205 (fnE MF) := by
 refine ic IV bX func205 call205 (depth := 3) (live := []) (by decide +kernel) rfl fun args hs p h => ?_
 unfold MF at h
 split at h
 ·cases h
  exact SR _
 ·cases h
noncomputable def Gn : Env := We.add 205 (fnE MF)
theorem MH : Gn.Good := k8.add MG
def MI (ws : List (aj)) (i : Int) : LSt := ⟨aw 5 [(0, .d (.slice .str) ws), (1, .fn (.func 205) [] []), (7, I (Int.ofNat ws.length)), (8, I i)], [], 0⟩
theorem Zb (ws : List (aj)) : aC Gn f196 5 [(2, [0, 1, 7, 8])] [.d (.slice .str) ws, .fn (.func 205) [] []] [] ah = (hlp Gn iW) SO _ (MI ws 0) (aW 0 (bt Gn iW [2] (hlp Gn iW) (cR (cR Gl)) (bA prog 0 f196.results.toList ah))) := (bI [2] iW rfl).trans (by obtain ⟨hl, h⟩ := bw Gn iW; rw [h]; kernel_rfl)
theorem Zc (ws : List (aj)) (i : Int) (n : Nat) {R : Type} (k : AEx -> LSt -> Option R) : lp Gn iW SO (n + 1) (MI ws i) k = bif decide (i < Int.ofNat ws.length) then (idx ws i).bind fun v1 => bif !gL v1 then k AEx.ret { fr := aw 5 [(0, AV.d Ty.str.slice ws), (1, AV.fn (Fn.func 205) [] []), (4, I i), (5, I i), (7, I (Int.ofNat ws.length)), (8, I i), (9, B true), (10, I i), (11, AV.fn (Fn.func 205) [] []), (12, AV.d Ty.str.slice ws), (13, I i), (14, AV.ip Ty.str v1), (15, AV.d Ty.str v1), (16, B true), (17, I i)], hp := [], nx := 0 } else lp Gn iW SO n (MI ws (i64.wrap (i + 1))) k else k (AEx.exit 0) { fr := aw 5 [(0, AV.d Ty.str.slice ws), (1, AV.fn (Fn.func 205) [] []), (7, I (Int.ofNat ws.length)), (8, I i), (9, B false)], hp := [], nx := 0 } := by kernel_rfl
theorem SS (ws : List (aj)) (hl : ws.length <= maxLen) : aC Gn f196 5 [(2, [0, 1, 7, 8])] [.d (.slice .str) ws, .fn (.func 205) [] []] [] ah = some (.ret [I (bu (fun w => !gL w) ws)], []) := by
 rw [Zb]
 have hs := fun (i : Int) (n : Nat) => Zc ws i n (aW 0 (bt Gn iW [2] (hlp Gn iW) (cR (cR Gl)) (bA prog 0 f196.results.toList ah)))
 have h := fM (T := fun n s => lp Gn iW SO n s (aW 0 (bt Gn iW [2] (hlp Gn iW) (cR (cR Gl)) (bA prog 0 f196.results.toList ah)))) (xs := ws) (st := fun i => MI ws i) hl hs
 unfold MI at h
 refine h.trans ?_
 unfold bu
 cases hq : ws.findIdx? (fun w => !gL w) with
 | none => show _ = _; kernel_rfl
 | some i =>
  obtain ⟨hi, _⟩ := List.findIdx?_eq_some_iff_getElem.1 hq
  simp only [List.getElem?_eq_getElem hi, aA]
  show _ = _
  kernel_rfl
def Zd : List AV -> LHp -> Tq
 | [.d (.slice .str) ws, .fn (.func 205) [] []], [] => .br (decide (ws.length <= maxLen)) (.leaf (.ret [I (bu (fun w => !gL w) ws)]) []) .no
 | _, _ => .no
theorem SU : bE 196 (ao Zd) := by
 refine cj MH bX func196 call196 (depth := 5) (live := [(2, [0, 1, 7, 8])]) (by decide +kernel) rfl fun args hs p h => ?_
 unfold Zd at h
 split at h
 ·obtain ⟨hl, h⟩ := Tq.br_no h
  cases h
  have hl := aZ hl
  exact SS _ hl
 ·cases h
noncomputable def gCs : Env := Wf.add 196 (ao Zd)
theorem MJ : gCs.Good := jQ.add SU
theorem Ze (ws : List (aj)) : aC gCs f204 4 [] [.d (.slice .str) ws, .fn (.func 205) [] []] [] ah = bif decide (ws.length <= 9223372036854775807) then ay [B (decide (bu (fun w => !gL w) ws >= 0))] else none := by kernel_rfl
def MK : List AV -> LHp -> Tq
 | [.d .str s, .d .str sep, .d zI a, .d zI b], [] => .br (sep == [44]) (.br (a == 0) (.br (b == -1) (.br (decide (s.length <= 2147483647)) (.leaf (.ret [.d (.slice .str) (cE s)]) []) .no) .no) .no) .no
 | _, _ => .no
theorem ML : bE 244 (ao MK) := by
 have h1 := bS (d := 7) (l := [(11, [0, 1, 2, 3, 9, 10])]) Mx func244 call244
 refine aO fun args hs ae aF h' => ?_
 unfold MK at h'
 split at h'
 ·obtain ⟨hb, h2⟩ := Tq.br_no h'
  obtain ⟨hc, h3⟩ := Tq.br_no h2
  obtain ⟨hd, h4⟩ := Tq.br_no h3
  obtain ⟨hl, h5⟩ := Tq.br_no h4
  obtain rfl := eq_of_beq hb
  obtain rfl := eq_of_beq hc
  obtain rfl := eq_of_beq hd
  exact h1.okC ((MA (aZ hl)).trans h5)
 ·cases h'
noncomputable def gSp : Env := g31.add 244 (ao MK)
theorem MM : gSp.Good := mL.add ML
theorem Zf (s : aj) : aC gSp f195 4 [] [.d .str s, .d .str [44]] [] ah = bif decide (s.length <= 2147483647) then ay [AV.d Ty.str.slice (cE s)] else none := by kernel_rfl
def SV : List AV -> LHp -> Tq
 | [.d .str s, .d .str sep], [] => .br (sep == [44]) (.br (decide (s.length <= 2147483647)) (.leaf (.ret [.d (.slice .str) (cE s)]) []) .no) .no
 | _, _ => .no
theorem Gp : bE 195 (ao SV) := by
 have h1 := bS (d := 4) (l := []) MM func195 call195
 refine aO fun args hs ae aF h' => ?_
 unfold SV at h'
 split at h'
 ·obtain ⟨hb, h2⟩ := Tq.br_no h'
  obtain rfl := eq_of_beq hb
  exact h1.okC ((Zf _).trans h2)
 ·cases h'
def Zg : List AV -> LHp -> Tq
 | [.d (.slice .str) ws, .fn (.func 205) [] []], [] => .br (decide (ws.length <= maxLen)) (.leaf (.ret [B (!ws.all gL)]) []) .no
 | _, _ => .no
theorem MN {ws : List (aj)} : decide (bu (fun w => !gL w) ws >= 0) = !ws.all gL := by
 unfold bu
 cases h : ws.findIdx? (fun w => !gL w) with
 | none =>
  rw [List.findIdx?_eq_none_iff] at h
  rw [List.all_eq_true.2 fun x hx => by simpa using h x hx]
  rfl
 | some i =>
  obtain ⟨hi, hp, _⟩ := List.findIdx?_eq_some_iff_getElem.1 h
  have : ws.all gL = false := by
   rw [List.all_eq_false]
   exact ⟨_, List.getElem_mem hi, by simpa using hp⟩
  rw [this]
  exact aE (by show ((i : Nat) : Int) >= 0; omega)
theorem SW : bE 204 (ao Zg) := by
 have h1 := bS (d := 4) (l := []) MJ func204 call204
 refine aO fun args hs ae aF h' => ?_
 unfold Zg at h'
 split at h'
 ·refine h1.okC ((Ze _).trans ?_)
  rw [MN]
  exact h'
 ·cases h'
noncomputable def gTh : Env := ((Wf.add 64 (ao Ej)).add 195 (ao SV)).add 204 (ao Zg)
theorem MO : gTh.Good := ((jQ.add pC).add Gp).add SW
theorem Zh (op nm : aj) (ins : List (aj)) (out : aj) (aa : bk) : aC gTh f144 5 [] [dh op nm ins out aa] [] ah = bif decide (aa.length <= 9223372036854775807) then bif decide (bu (fun a => a.fst == [116, 104, 101, 110] && a.snd.fst == 3) aa < 0) then ay [AV.nils, I 0] else (List.find? (fun a => a.fst == [116, 104, 101, 110] && a.snd.fst == 3) aa).bind fun v2 => bif decide (List.length v2.2.2.2.2.1 <= 2147483647) then bif decide ((cE v2.2.2.2.2.1).length <= 9223372036854775807) then bif !(cE v2.2.2.2.2.1).all gL then ay [AV.nils, I 4] else ay [AV.d Ty.str.slice (cE v2.2.2.2.2.1), I 0] else none else none else none := by kernel_rfl
def ns : aj := [116, 104, 101, 110]
def lP (aa : bk) : Bool := (aa.find? (gZ ns 3)).isNone
def pF (aa : bk) : List (aj) := match aa.find? (gZ ns 3) with | some a => cE a.2.2.2.2.1 | none => []
def jo (aa : bk) : Bool := !(pF aa).all gL
theorem qB (s : aj) : (cE s).length <= s.length + 1 := by rw [uz]; have := B7 s; omega
def aD (aa : bk) : Bool := decide (aa.length <= 2147483647) && aa.all fun a => decide (a.1.length <= 2147483647) && decide (a.2.2.2.2.1.length <= 2147483647) && decide (a.2.2.2.2.2.2.1.length <= 2147483648)
theorem il {aa : bk} (h : aD aa = true) {a : (Y1).den} (ha : a ∈ aa) : a.1.length <= 2147483647 /\ a.2.2.2.2.1.length <= 2147483647 /\ a.2.2.2.2.2.2.1.length <= 2147483648 := by
 unfold aD at h
 rw [bg] at h
 have := List.all_eq_true.1 h.2 a ha
 simp only [bg, decide_eq_true_eq] at this
 exact ⟨this.1.1, this.1.2, this.2⟩
theorem bQ {aa : bk} (h : aD aa = true) : aa.length <= 2147483647 := by
 unfold aD at h
 rw [bg] at h
 exact aZ h.1
def SX : List AV -> LHp -> Tq
 | [.d Y2 (_, _, _, _, aa, _)], [] => .br (aD aa) (.br (lP aa) (.leaf (.ret [.nils, I 0]) []) (.br (jo aa) (.leaf (.ret [.nils, I 4]) []) (.leaf (.ret [.d (.slice .str) (pF aa), I 0]) []))) .no
 | _, _ => .no
theorem Gq : bE 144 (ao SX) := by
 have h1 := bS (d := 5) (l := []) MO func144 call144
 refine aO fun args hs ae aF h' => ?_
 unfold SX at h'
 split at h'
 ·rename_i op nm ins out aa _
  obtain ⟨hb, h2⟩ := Tq.br_no h'
  refine h1.okC ((Zh op nm ins out aa).trans ?_)
  refine Eq.trans ?_ h2
  have hlen := bQ hb
  rw [aE (show aa.length <= 9223372036854775807 by have := hlen; omega), ku, ak]
  unfold lP jo pF
  change (bif (aa.find? (gZ ns 3)).isNone then _ else (aa.find? (gZ ns 3)).bind _) = _
  cases hq : aa.find? (gZ ns 3) with
  | none => rfl
  | some a =>
   have hm := il hb (List.mem_of_find?_eq_some hq)
   have hs := qB a.2.2.2.2.1
   simp only [Option.isNone_some, ax, aA]
   rw [aE hm.2.1, ak, aE (show (cE a.2.2.2.2.1).length <= 9223372036854775807 by have := hm.2.1; omega), ak]
   rfl
 ·cases h'
theorem Zi (c : Int) : aC We f199 4 [] [.d (.int .u8) c] [] ah = bif c == 105 then ay [I 2] else bif c == 115 then ay [I 7] else bif c == 102 then ay [I 1] else bif c == 116 then ay [I 4] else ay [I 3] := by kernel_rfl
theorem Zj (w p : aj) : aC g16 f198 4 [] [.d .str w, .d .str p] [] ah = bif decide (Int.ofNat w.length >= Int.ofNat p.length) then (if (0 : Int) <= 0 /\ 0 <= Int.ofNat p.length /\ Int.ofNat p.length <= Int.ofNat w.length then some (List.drop 0 (List.take (Int.ofNat p.length).toNat w)) else none).bind fun v1 => ay [B (v1 == p)] else ay [B false] := by kernel_rfl
theorem Zk (w : aj) : aC g35 f203 4 [] [.d .str w, .d .str [42]] [] ah = bif decide (Int.ofNat w.length >= 1) then (if 0 <= i64.wrap (Int.ofNat w.length - 1) /\ i64.wrap (Int.ofNat w.length - 1) <= Int.ofNat w.length /\ Int.ofNat w.length <= Int.ofNat w.length then some (List.drop (i64.wrap (Int.ofNat w.length - 1)).toNat (List.take (Int.ofNat w.length).toNat w)) else none).bind fun v1 => ay [B (v1 == [42])] else ay [B false] := by kernel_rfl
theorem Zl (w : aj) : aC g33 f202 4 [] [.d .str w, .d .str [32]] [] ah = bif [32] == w then (if (0 : Int) <= 1 /\ 1 <= Int.ofNat w.length /\ Int.ofNat w.length <= Int.ofNat w.length then some (List.drop 1 (List.take (Int.ofNat w.length).toNat w)) else none).bind fun v1 => ay [AV.d Ty.str [], AV.d Ty.str v1, B true] else bif decide (Lib.indexByte w 32 >= 0) then (if (0 : Int) <= 0 /\ 0 <= Lib.indexByte w 32 /\ Lib.indexByte w 32 <= Int.ofNat w.length then some (List.drop 0 (List.take (Lib.indexByte w 32).toNat w)) else none).bind fun v2 => (if 0 <= i64.wrap (Lib.indexByte w 32 + 1) /\ i64.wrap (Lib.indexByte w 32 + 1) <= Int.ofNat w.length /\ Int.ofNat w.length <= Int.ofNat w.length then some (List.drop (i64.wrap (Lib.indexByte w 32 + 1)).toNat (List.take (Int.ofNat w.length).toNat w)) else none).bind fun v3 => ay [AV.d Ty.str v2, AV.d Ty.str v3, B true] else ay [AV.d Ty.str w, AV.d Ty.str [], B false] := by kernel_rfl
def dJ (c : Int) : Int := bif c == 105 then 2 else bif c == 115 then 7 else bif c == 102 then 1 else bif c == 116 then 4 else 3
def Zm : List AV -> LHp -> Option (aq × LHp)
 | [.d (.int .u8) c], [] => some (.ret [I (dJ c)], [])
 | _, _ => none
theorem SY (c : Int) : aC We f199 4 [] [.d (.int .u8) c] [] ah = some (.ret [I (dJ c)], []) := by
 rw [Zi]
 unfold dJ
 cases c == 105 <;> cases c == 115 <;> cases c == 102 <;> cases c == 116 <;> rfl
theorem SZ : bE 199 (fnE Zm) := by
 refine ic k8 bX func199 call199 (depth := 4) (live := []) (by decide +kernel) rfl fun args hs p h => ?_
 unfold Zm at h
 split at h
 ·cases h
  exact SY _
 ·cases h
def cP (w p : aj) : Bool := decide (p.length <= w.length) && (w.take p.length == p)
def Zn : List AV -> LHp -> Option (aq × LHp)
 | [.d .str w, .d .str p], [] => some (.ret [B (cP w p)], [])
 | _, _ => none
theorem S0 (w p : aj) : aC g16 f198 4 [] [.d .str w, .d .str p] [] ah = some (.ret [B (cP w p)], []) := by
 rw [Zj]
 unfold cP
 by_cases h : p.length <= w.length
 ·rw [aE (show Int.ofNat w.length >= Int.ofNat p.length by simp only [aT]; omega), ak, aE h, Bool.true_and]
  have := YT h
  simp only [aT] at this ⊢
  rw [this]
  rfl
 ·rw [de (show ¬ Int.ofNat w.length >= Int.ofNat p.length by simp only [aT]; omega), ax, de h, Bool.false_and]
theorem S1 : bE 198 (fnE Zn) := by
 refine ic ug bX func198 call198 (depth := 4) (live := []) (by decide +kernel) rfl fun args hs p h => ?_
 unfold Zn at h
 split at h
 ·cases h
  exact S0 _ _
 ·cases h
def gM (w : aj) : Bool := w.drop (w.length - 1) == [42]
theorem S2 {w : aj} (hw : w.length <= 2147483648) : aC g35 f203 4 [] [.d .str w, .d .str [42]] [] ah = some (.ret [B (gM w)], []) := by
 rw [Zk]
 unfold gM
 by_cases h : 1 <= w.length
 ·have w1 : i64.wrap (Int.ofNat w.length - 1) = ((w.length - 1 : Nat) : Int) := by simp only [aT]; rw [aJ (by omega) (by omega)]; omega
  rw [aE (show Int.ofNat w.length >= 1 by simp only [aT]; omega), ak, w1, YU (by omega)]
  rfl
 ·rw [de (show ¬ Int.ofNat w.length >= 1 by simp only [aT]; omega), ax]
  have : w = [] := List.length_eq_zero_iff.1 (by omega)
  subst this
  rfl
def Zo : List AV -> LHp -> Tq
 | [.d .str w, .d .str p], [] => .br (p == [42]) (.br (decide (w.length <= 2147483648)) (.leaf (.ret [B (gM w)]) []) .no) .no
 | _, _ => .no
theorem S3 : bE 203 (ao Zo) := by
 have h1 : bE 203 (au g35 f203 4 []) := FR
 refine aO fun args hs ae aF h' => ?_
 unfold Zo at h'
 split at h'
 ·obtain ⟨hb, h2⟩ := Tq.br_no h'
  obtain ⟨hl, h3⟩ := Tq.br_no h2
  obtain rfl := eq_of_beq hb
  exact h1.okC ((S2 (aZ hl)).trans h3)
 ·cases h'
def gh (w : aj) : aj := bif decide (Lib.indexByte w 32 >= 0) then w.take (Lib.indexByte w 32).toNat else w
def cH (w : aj) : aj := bif decide (Lib.indexByte w 32 >= 0) then w.drop ((Lib.indexByte w 32).toNat + 1) else []
theorem nX : ∀ (l : aj) (c : UInt8), Lib.indexByte l c < l.length
 | [], _ => by unfold Lib.indexByte; simp
 | b :: l, c => by
  have := nX l c
  unfold Lib.indexByte
  rw [List.length_cons]
  split
  ·omega
  ·split <;> omega
theorem S4 {w : aj} (hw : w.length <= 2147483648) : aC g33 f202 4 [] [.d .str w, .d .str [32]] [] ah = some (.ret [.d .str (gh w), .d .str (cH w), B (decide (Lib.indexByte w 32 >= 0))], []) := by
 rw [Zl]
 unfold gh cH
 cases hw1 : [32] == w with
 | true =>
  obtain rfl := eq_of_beq hw1
  rfl
 | false =>
  have cn := nX w 32
  cases h : decide (Lib.indexByte w 32 >= 0) with
  | false => rfl
  | true =>
   obtain ⟨i, hi⟩ := Int.eq_ofNat_of_zero_le (aZ h)
   rw [hi] at cn ⊢
   have w1 : i64.wrap (((i : Nat) : Int) + 1) = ((i + 1 : Nat) : Int) := by rw [aJ (by omega) (by omega)]; omega
   rw [ax, ak, YT (by omega), aA, w1, YU (by omega)]
   rfl
def Zp : List AV -> LHp -> Tq
 | [.d .str w, .d .str p], [] => .br (p == [32]) (.br (decide (w.length <= 2147483648)) (.leaf (.ret [.d .str (gh w), .d .str (cH w), B (decide (Lib.indexByte w 32 >= 0))]) []) .no) .no
 | _, _ => .no
theorem S5 : bE 202 (ao Zp) := by
 have h1 : bE 202 (au g33 f202 4 []) := FQ
 refine aO fun args hs ae aF h' => ?_
 unfold Zp at h'
 split at h'
 ·obtain ⟨hb, h2⟩ := Tq.br_no h'
  obtain ⟨hl, h3⟩ := Tq.br_no h2
  obtain rfl := eq_of_beq hb
  exact h1.okC ((S4 (aZ hl)).trans h3)
 ·cases h'
noncomputable def afb : Env := g17.add 198 (fnE Zn)
theorem IW : afb.Good := uh.add S1
theorem Zq (w : aj) (a : (Y1).den) : aC afb f197 4 [] [.d .str w, .op 0 [] 0] [(0, .box (.d (Y1) a))] ah = (if List.length a.1 + 1 < 4611686018427387904 then some (a.1 ++ [32]) else none).bind fun v0 => some (aq.ret [B (cP w v0)], [(0, al.box (AV.d Y1 a))]) := by kernel_rfl
theorem Zr (b a : (Y1).den) : aC g11 f201 4 [] [.d (Y1) b, .op 0 [] 0] [(0, .box (.d (Y1) a))] ah = some (aq.ret [B (b.1 == a.1)], [(0, al.box (AV.d Y1 a))]) := by kernel_rfl
noncomputable def Gr : Code := bD f196
noncomputable def S6 : Code := cL (cL (cR (cL (cR Gr))))
noncomputable def iX : Cfg := ⟨19, 5, 1, [(2, [0, 1, 7, 8])], true⟩
noncomputable def Gs : Code := bD f49
noncomputable def S7 : Code := cL (cL (cR (cL (cR Gs))))
noncomputable def iY : Cfg := ⟨19, 5, 1, [(2, [0, 1, 7, 8])], true⟩
def nF (a : (Y1).den) : LHp := [(0, .box (.d (Y1) a))]
def oE (a : (Y1).den) (w : aj) : Bool := cP w (a.1 ++ [32])
def Zs : List AV -> LHp -> Tq
 | [.d .str w, .op 0 [] 0], [(0, .box (.d Y1 a))] => .br (decide (List.length a.1 <= 2147483647)) (.leaf (.ret [B (oE a w)]) (nF a)) .no
 | _, _ => .no
theorem S8 : bE 197 (ao Zs) := by
 have h1 := bS (d := 4) (l := []) IW func197 call197
 refine aO fun args hs ae aF h' => ?_
 unfold Zs at h'
 split at h'
 ·rename_i w a
  obtain ⟨hb, h2⟩ := Tq.br_no h'
  have hl := aZ hb
  refine h1.okC ((Zq w a).trans ?_)
  rw [if_pos (show List.length a.1 + 1 < 4611686018427387904 by have := hl; omega), aA]
  exact h2
 ·cases h'
def Zt : List AV -> LHp -> Option (aq × LHp)
 | [.d Y1 b, .op 0 [] 0], [(0, .box (.d Y1 a))] => some (.ret [B (b.1 == a.1)], nF a)
 | _, _ => none
theorem S9 : bE 201 (fnE Zt) := by
 refine ic ue bX func201 call201 (depth := 4) (live := []) (by decide +kernel) rfl fun args hs p h => ?_
 unfold Zt at h
 split at h
 ·cases h
  exact Zr _ _
 ·cases h
noncomputable def Gt : Env := We.add 197 (ao Zs)
theorem MP : Gt.Good := k8.add S8
noncomputable def Gu : Env := g13.add 201 (fnE Zt)
theorem MQ : Gu.Good := pq.add S9
def MR (ws : List (aj)) (a : (Y1).den) (i : Int) : LSt := ⟨aw 5 [(0, .d (.slice .str) ws), (1, .fn (.func 197) [] [.op 0 [] 0]), (7, I (Int.ofNat ws.length)), (8, I i)], nF a, 2⟩
theorem Zu (ws : List (aj)) (a : (Y1).den) : aC Gt f196 5 [(2, [0, 1, 7, 8])] [.d (.slice .str) ws, .fn (.func 197) [] [.op 0 [] 0]] (nF a) ah = (hlp Gt iX) S6 _ (MR ws a 0) (aW 0 (bt Gt iX [2] (hlp Gt iX) (cR (cR Gr)) (bA prog 1 f196.results.toList ah))) := (bI [2] iX rfl).trans (by obtain ⟨hl, h⟩ := bw Gt iX; rw [h]; kernel_rfl)
def MS (bs : bk) (a : (Y1).den) (i : Int) : LSt := ⟨aw 5 [(0, .d (.slice (Y1)) bs), (1, .fn (.func 201) [] [.op 0 [] 0]), (7, I (Int.ofNat bs.length)), (8, I i)], nF a, 2⟩
theorem Zv (bs : bk) (a : (Y1).den) : aC Gu f49 5 [(2, [0, 1, 7, 8])] [.d (.slice (Y1)) bs, .fn (.func 201) [] [.op 0 [] 0]] (nF a) ah = (hlp Gu iY) S7 _ (MS bs a 0) (aW 0 (bt Gu iY [2] (hlp Gu iY) (cR (cR Gs)) (bA prog 1 f49.results.toList ah))) := (bI [2] iY rfl).trans (by obtain ⟨hl, h⟩ := bw Gu iY; rw [h]; kernel_rfl)
theorem Zw (ws : List (aj)) (a : (Y1).den) (i : Int) (n : Nat) {R : Type} (k : AEx -> LSt -> Option R) : lp Gt iX S6 (n + 1) (MR ws a i) k = bif decide (i < Int.ofNat ws.length) then (idx ws i).bind fun v1 => bif decide (List.length a.1 <= 2147483647) then bif oE a v1 then k AEx.ret { fr := aw 5 [(0, AV.d Ty.str.slice ws), (1, AV.fn (Fn.func 197) [] [AV.op 0 [] 0]), (4, I i), (5, I i), (7, I (Int.ofNat ws.length)), (8, I i), (9, B true), (10, I i), (11, AV.fn (Fn.func 197) [] [AV.op 0 [] 0]), (12, AV.d Ty.str.slice ws), (13, I i), (14, AV.ip Ty.str v1), (15, AV.d Ty.str v1), (16, B true), (17, I i)], hp := [(0, al.box (AV.d Y1 a)), (0, al.box (AV.d Y1 a))], nx := 3 } else lp Gt iX S6 n (MR ws a (i64.wrap (i + 1))) k else none else k (AEx.exit 0) { fr := aw 5 [(0, AV.d Ty.str.slice ws), (1, AV.fn (Fn.func 197) [] [AV.op 0 [] 0]), (7, I (Int.ofNat ws.length)), (8, I i), (9, B false)], hp := [(0, al.box (AV.d Y1 a))], nx := 2 } := by kernel_rfl
theorem Zx (bs : bk) (a : (Y1).den) (i : Int) (n : Nat) {R : Type} (k : AEx -> LSt -> Option R) : lp Gu iY S7 (n + 1) (MS bs a i) k = bif decide (i < Int.ofNat bs.length) then (idx bs i).bind fun v1 => bif v1.1 == a.1 then k AEx.ret { fr := aw 5 [(0, AV.d Y1.slice bs), (1, AV.fn (Fn.func 201) [] [AV.op 0 [] 0]), (4, I i), (5, I i), (7, I (Int.ofNat bs.length)), (8, I i), (9, B true), (10, I i), (11, AV.fn (Fn.func 201) [] [AV.op 0 [] 0]), (12, AV.d Y1.slice bs), (13, I i), (14, AV.ip Y1 v1), (15, AV.d Y1 v1), (16, B true), (17, I i)], hp := [(0, al.box (AV.d Y1 a)), (0, al.box (AV.d Y1 a))], nx := 3 } else lp Gu iY S7 n (MS bs a (i64.wrap (i + 1))) k else k (AEx.exit 0) { fr := aw 5 [(0, AV.d Y1.slice bs), (1, AV.fn (Fn.func 201) [] [AV.op 0 [] 0]), (7, I (Int.ofNat bs.length)), (8, I i), (9, B false)], hp := [(0, al.box (AV.d Y1 a))], nx := 2 } := by kernel_rfl
theorem Ta {ws : List (aj)} {a : (Y1).den} (hl : ws.length <= maxLen /\ List.length a.1 <= 2147483647) : aC Gt f196 5 [(2, [0, 1, 7, 8])] [.d (.slice .str) ws, .fn (.func 197) [] [.op 0 [] 0]] (nF a) ah = some (.ret [I (bu (oE a) ws)], nF a) := by
 rw [Zu]
 have hs := fun (i : Int) (n : Nat) => Zw ws a i n (aW 0 (bt Gt iX [2] (hlp Gt iX) (cR (cR Gr)) (bA prog 1 f196.results.toList ah)))
 simp only [aE hl.2, ak] at hs
 have h := fM (T := fun n s => lp Gt iX S6 n s (aW 0 (bt Gt iX [2] (hlp Gt iX) (cR (cR Gr)) (bA prog 1 f196.results.toList ah)))) (xs := ws) (st := fun i => MR ws a i) hl.1 hs
 unfold MR nF at h
 refine h.trans ?_
 unfold bu
 cases hq : ws.findIdx? (oE a) with
 | none => show _ = _; kernel_rfl
 | some i =>
  obtain ⟨hi, _⟩ := List.findIdx?_eq_some_iff_getElem.1 hq
  simp only [List.getElem?_eq_getElem hi, aA]
  show _ = _
  kernel_rfl
theorem Tb {bs : bk} {a : (Y1).den} (hl : bs.length <= maxLen) : aC Gu f49 5 [(2, [0, 1, 7, 8])] [.d (.slice (Y1)) bs, .fn (.func 201) [] [.op 0 [] 0]] (nF a) ah = some (.ret [I (bu (fun b => b.1 == a.1) bs)], nF a) := by
 rw [Zv]
 have hs := fun (i : Int) (n : Nat) => Zx bs a i n (aW 0 (bt Gu iY [2] (hlp Gu iY) (cR (cR Gs)) (bA prog 1 f49.results.toList ah)))
 have h := fM (T := fun n s => lp Gu iY S7 n s (aW 0 (bt Gu iY [2] (hlp Gu iY) (cR (cR Gs)) (bA prog 1 f49.results.toList ah)))) (xs := bs) (st := fun i => MS bs a i) hl hs
 unfold MS nF at h
 refine h.trans ?_
 unfold bu
 cases hq : bs.findIdx? (fun b => b.1 == a.1) with
 | none => show _ = _; kernel_rfl
 | some i =>
  obtain ⟨hi, _⟩ := List.findIdx?_eq_some_iff_getElem.1 hq
  simp only [List.getElem?_eq_getElem hi, aA]
  show _ = _
  kernel_rfl
def Zy : List AV -> LHp -> Tq
 | [.d (.slice .str) ws, .fn (.func 197) [] [.op 0 [] 0]], [(0, .box (.d Y1 a))] => .br (decide (ws.length <= maxLen /\ List.length a.1 <= 2147483647)) (.leaf (.ret [I (bu (oE a) ws)]) (nF a)) .no
 | _, _ => .no
theorem Tc : bE 196 (ao Zy) := by
 refine cj MP bX func196 call196 (depth := 5) (live := [(2, [0, 1, 7, 8])]) (by decide +kernel) rfl fun args hs p h => ?_
 unfold Zy at h
 split at h
 ·obtain ⟨hl, h⟩ := Tq.br_no h
  cases h
  have hl := aZ hl
  exact Ta hl
 ·cases h
def Zz : List AV -> LHp -> Tq
 | [.d (.slice Y1) bs, .fn (.func 201) [] [.op 0 [] 0]], [(0, .box (.d Y1 a))] => .br (decide (bs.length <= maxLen)) (.leaf (.ret [I (bu (fun b => b.1 == a.1) bs)]) (nF a)) .no
 | _, _ => .no
theorem Td : bE 49 (ao Zz) := by
 refine cj MQ bX func49 call49 (depth := 5) (live := [(2, [0, 1, 7, 8])]) (by decide +kernel) rfl fun args hs p h => ?_
 unfold Zz at h
 split at h
 ·obtain ⟨hl, h⟩ := Tq.br_no h
  cases h
  have hl := aZ hl
  exact Tb hl
 ·cases h
noncomputable def gF2 : Env := We.add 49 (ao Zz)
theorem MT : gF2.Good := k8.add Td
theorem ZA (bs : bk) (a : (Y1).den) : aC gF2 f200 4 [] [.d (.slice (Y1)) bs, .fn (.func 201) [] [.op 0 [] 0]] (nF a) ah = bif decide (bs.length <= 9223372036854775807) then some (aq.ret [B (decide (bu (fun b => b.fst == a.fst) bs >= 0))], [(0, al.box (AV.d Y1 a))]) else none := by kernel_rfl
theorem pG {α : Type} {p : α -> Bool} {ws : List α} : decide (bu p ws >= 0) = ws.any p := by
 unfold bu
 cases h : ws.findIdx? p with
 | none =>
  rw [List.findIdx?_eq_none_iff] at h
  rw [List.any_eq_false.2 fun x hx => by simpa using h x hx]
  rfl
 | some i =>
  obtain ⟨hi, hp, _⟩ := List.findIdx?_eq_some_iff_getElem.1 h
  rw [List.any_eq_true.2 ⟨_, List.getElem_mem hi, hp⟩]
  exact aE (by show ((i : Nat) : Int) >= 0; omega)
def ZB : List AV -> LHp -> Tq
 | [.d (.slice Y1) bs, .fn (.func 201) [] [.op 0 [] 0]], [(0, .box (.d Y1 a))] => .br (decide (bs.length <= maxLen)) (.leaf (.ret [B (bs.any fun b => b.1 == a.1)]) (nF a)) .no
 | _, _ => .no
theorem Te : bE 200 (ao ZB) := by
 have h1 := bS (d := 4) (l := []) MT func200 call200
 refine aO fun args hs ae aF h' => ?_
 unfold ZB at h'
 split at h'
 ·refine h1.okC ((ZA _ _).trans ?_)
  rw [pG]
  exact h'
 ·cases h'
noncomputable def wW : Code := bD f143
noncomputable def Ep : Code := cL (cL (cR (cL (cR (cR wW)))))
noncomputable def Er : Code := cL (cL (cR (cL (cR (cR (cR wW))))))
noncomputable def dk : Cfg := ⟨92, 7, 0, [(3, [2, 5, 20, 21, 22]), (14, [2, 63, 64, 65])], true⟩
noncomputable def rE : Env := ((((((Wf.add 64 (ao Ej)).add 195 (ao SV)).add 199 (fnE Zm)).add 203 (ao Zo)).add 202 (ao Zp)).add 196 (ao Zy)).add 200 (ao ZB)
theorem MU : rE.Good := ((((((jQ.add pC).add Gp).add SZ).add S3).add S5).add Tc).add Te
def Tf (op nm : aj) (ins : List (aj)) (out : aj) (aa : bk) : LHp := [(0, .box (dh op nm ins out aa))]
def Es (op nm : aj) (ins : List (aj)) (out : aj) (aa : bk) (ws : List (aj)) (i : Int) : LSt := ⟨aw 7 [(2, .op 0 [] 0), (5, .d (.slice .str) ws), (20, .d (.slice (Y1)) aa), (21, I (Int.ofNat aa.length)), (22, I i)], Tf op nm ins out aa, 1⟩
theorem ZC (op nm : aj) (ins : List (aj)) (out : aj) (aa : bk) (r : aj) : aC rE f143 7 [(3, [2, 5, 20, 21, 22]), (14, [2, 63, 64, 65])] [dh op nm ins out aa, .d .str r] [] ah = (if r.length + 7 < 4611686018427387904 then some (r ++ [44, 116, 104, 101, 110, 32, 120]) else none).bind fun v0 => bif decide (v0.length <= 2147483647) then (hlp rE dk) Ep _ (Es op nm ins out aa (cE v0) 0) (aW 0 (bt rE dk [3, 14] (hlp rE dk) (cR (cR (cR wW))) (bA prog 0 f143.results.toList ah))) else none := (bI [3, 14] dk rfl).trans (by obtain ⟨hl, h⟩ := bw rE dk; rw [h]; kernel_rfl)
theorem MV (op nm : aj) (ins : List (aj)) (out : aj) (aa : bk) (ws : List (aj)) (i : Int) (n : Nat) {R : Type} (k : AEx -> LSt -> Option R) : lp rE dk Ep (n + 1) (Es op nm ins out aa ws i) k = bif decide (i < Int.ofNat aa.length) then (idx aa i).bind fun v1 => bif decide (ws.length <= 9223372036854775807 /\ List.length v1.1 <= 2147483647) then bif decide (bu (fun w => cP w (v1.fst ++ [32])) ws < 0) then k AEx.ret { fr := aw 7 [(2, AV.op 0 [] 0), (4, I 5), (5, AV.d Ty.str.slice ws), (6, I i), (7, AV.op 1 [] 0), (8, I (bu (fun w => cP w (v1.fst ++ [32])) ws)), (20, AV.d Y1.slice aa), (21, I (Int.ofNat aa.length)), (22, I i), (23, B true), (24, I i), (25, AV.ip Y1 v1), (26, AV.d Y1 v1), (27, AV.d Ty.str.slice ws), (28, AV.fn (Fn.func 197) [] [AV.op 1 [] 0]), (29, I (bu (fun w => cP w (v1.fst ++ [32])) ws)), (30, I (bu (fun w => cP w (v1.fst ++ [32])) ws)), (31, B true)], hp := [(1, al.box (AV.d Y1 v1)), (1, al.box (AV.d Y1 v1)), (1, al.box ((AV.d Ty.str []).pr ((I 0).pr ((I 0).pr ((I 0).pr ((AV.d Ty.str []).pr (((I 0).pr (AV.nils.pr (AV.nils.pr (AV.d Ty.unit PUnit.unit)))).pr (AV.nils.pr (AV.d Ty.unit PUnit.unit))))))))), (0, al.box (AV.d Y2 (op, nm, ins, out, aa, PUnit.unit)))], nx := 3 } else (idx ws (bu (fun w => cP w (v1.fst ++ [32])) ws)).bind fun v4 => (Ak v4 (i64.wrap (Int.ofNat (List.length v1.1) + 1))).bind fun v5 => bif dJ v5 != v1.2.1 then k AEx.ret { fr := aw 7 [(2, AV.op 0 [] 0), (4, I 4), (5, AV.d Ty.str.slice ws), (6, I i), (7, AV.op 1 [] 0), (8, I (bu (fun w => cP w (v1.fst ++ [32])) ws)), (20, AV.d Y1.slice aa), (21, I (Int.ofNat aa.length)), (22, I i), (23, B true), (24, I i), (25, AV.ip Y1 v1), (26, AV.d Y1 v1), (27, AV.d Ty.str.slice ws), (28, AV.fn (Fn.func 197) [] [AV.op 1 [] 0]), (29, I (bu (fun w => cP w (v1.fst ++ [32])) ws)), (30, I (bu (fun w => cP w (v1.fst ++ [32])) ws)), (31, B false), (32, AV.d Ty.str.slice ws), (33, I (bu (fun w => cP w (v1.fst ++ [32])) ws)), (34, AV.ip Ty.str v4), (35, AV.d Ty.str v4), (36, AV.op 1 [0] 0), (37, AV.d Ty.str v1.1), (38, I (Int.ofNat (List.length v1.1))), (39, I (i64.wrap (Int.ofNat (List.length v1.1) + 1))), (40, AV.d (Ty.int u8) v5), (41, I (dJ v5)), (42, AV.op 1 [1] 1), (43, I v1.2.1), (44, B (dJ v5 != v1.2.1)), (45, B true), (46, AV.tup []), (47, AV.tup []), (48, AV.tup []), (49, AV.tup []), (50, AV.tup []), (51, AV.tup []), (52, B true)], hp := [(1, al.box (AV.d Y1 v1)), (1, al.box (AV.d Y1 v1)), (1, al.box ((AV.d Ty.str []).pr ((I 0).pr ((I 0).pr ((I 0).pr ((AV.d Ty.str []).pr (((I 0).pr (AV.nils.pr (AV.nils.pr (AV.d Ty.unit PUnit.unit)))).pr (AV.nils.pr (AV.d Ty.unit PUnit.unit))))))))), (0, al.box (AV.d Y2 (op, nm, ins, out, aa, PUnit.unit)))], nx := 3 } else (if (0 : Int) <= 0 /\ 0 <= i /\ i <= Int.ofNat aa.length then some (List.drop 0 (List.take i.toNat aa)) else none).bind fun v7 => bif decide (v7.length <= 9223372036854775807) then bif v7.any fun b => b.fst == v1.fst then k AEx.ret { fr := aw 7 [(2, AV.op 0 [] 0), (4, I 4), (5, AV.d Ty.str.slice ws), (6, I i), (7, AV.op 1 [] 0), (8, I (bu (fun w => cP w (v1.fst ++ [32])) ws)), (20, AV.d Y1.slice aa), (21, I (Int.ofNat aa.length)), (22, I i), (23, B true), (24, I i), (25, AV.ip Y1 v1), (26, AV.d Y1 v1), (27, AV.d Ty.str.slice ws), (28, AV.fn (Fn.func 197) [] [AV.op 1 [] 0]), (29, I (bu (fun w => cP w (v1.fst ++ [32])) ws)), (30, I (bu (fun w => cP w (v1.fst ++ [32])) ws)), (31, B false), (32, AV.d Ty.str.slice ws), (33, I (bu (fun w => cP w (v1.fst ++ [32])) ws)), (34, AV.ip Ty.str v4), (35, AV.d Ty.str v4), (36, AV.op 1 [0] 0), (37, AV.d Ty.str v1.1), (38, I (Int.ofNat (List.length v1.1))), (39, I (i64.wrap (Int.ofNat (List.length v1.1) + 1))), (40, AV.d (Ty.int u8) v5), (41, I (dJ v5)), (42, AV.op 1 [1] 1), (43, I v1.2.1), (44, B (dJ v5 != v1.2.1)), (45, B false), (46, AV.op 0 [4] 4), (47, AV.d Y1.slice aa), (48, I i), (49, AV.d Y1.slice v7), (50, AV.fn (Fn.func 201) [] [AV.op 1 [] 0]), (51, B (v7.any fun b => b.fst == v1.fst)), (52, B true)], hp := [(1, al.box (AV.d Y1 v1)), (1, al.box (AV.d Y1 v1)), (1, al.box (AV.d Y1 v1)), (1, al.box ((AV.d Ty.str []).pr ((I 0).pr ((I 0).pr ((I 0).pr ((AV.d Ty.str []).pr (((I 0).pr (AV.nils.pr (AV.nils.pr (AV.d Ty.unit PUnit.unit)))).pr (AV.nils.pr (AV.d Ty.unit PUnit.unit))))))))), (0, al.box (AV.d Y2 (op, nm, ins, out, aa, PUnit.unit)))], nx := 4 } else bif v1.2.1 == 1 then bif !bz 1 v1.2.2.1 then k AEx.ret { fr := aw 7 [(2, AV.op 0 [] 0), (4, I 4), (5, AV.d Ty.str.slice ws), (6, I i), (7, AV.op 1 [] 0), (8, I (bu (fun w => cP w (v1.fst ++ [32])) ws)), (20, AV.d Y1.slice aa), (21, I (Int.ofNat aa.length)), (22, I i), (23, B true), (24, I i), (25, AV.ip Y1 v1), (26, AV.d Y1 v1), (27, AV.d Ty.str.slice ws), (28, AV.fn (Fn.func 197) [] [AV.op 1 [] 0]), (29, I (bu (fun w => cP w (v1.fst ++ [32])) ws)), (30, I (bu (fun w => cP w (v1.fst ++ [32])) ws)), (31, B false), (32, AV.d Ty.str.slice ws), (33, I (bu (fun w => cP w (v1.fst ++ [32])) ws)), (34, AV.ip Ty.str v4), (35, AV.d Ty.str v4), (36, AV.op 1 [0] 0), (37, AV.d Ty.str v1.1), (38, I (Int.ofNat (List.length v1.1))), (39, I (i64.wrap (Int.ofNat (List.length v1.1) + 1))), (40, AV.d (Ty.int u8) v5), (41, I (dJ v5)), (42, AV.op 1 [1] 1), (43, I v1.2.1), (44, B (dJ v5 != v1.2.1)), (45, B false), (46, AV.op 0 [4] 4), (47, AV.d Y1.slice aa), (48, I i), (49, AV.d Y1.slice v7), (50, AV.fn (Fn.func 201) [] [AV.op 1 [] 0]), (51, B (v7.any fun b => b.fst == v1.fst)), (52, B false), (53, AV.op 1 [1] 1), (54, I v1.2.1), (55, B (v1.2.1 == 1)), (56, B true), (57, AV.op 1 [2] 2), (58, I v1.2.2.1), (59, B (bz 1 v1.2.2.1)), (60, B !bz 1 v1.2.2.1), (61, B true)], hp := [(1, al.box (AV.d Y1 v1)), (1, al.box (AV.d Y1 v1)), (1, al.box (AV.d Y1 v1)), (1, al.box ((AV.d Ty.str []).pr ((I 0).pr ((I 0).pr ((I 0).pr ((AV.d Ty.str []).pr (((I 0).pr (AV.nils.pr (AV.nils.pr (AV.d Ty.unit PUnit.unit)))).pr (AV.nils.pr (AV.d Ty.unit PUnit.unit))))))))), (0, al.box (AV.d Y2 (op, nm, ins, out, aa, PUnit.unit)))], nx := 4 } else lp rE dk Ep n (Es op nm ins out aa ws (i64.wrap (i + 1))) k else lp rE dk Ep n (Es op nm ins out aa ws (i64.wrap (i + 1))) k else none else none else k (AEx.exit 0) { fr := aw 7 [(2, AV.op 0 [] 0), (5, AV.d Ty.str.slice ws), (20, AV.d Y1.slice aa), (21, I (Int.ofNat aa.length)), (22, I i), (23, B false)], hp := [(0, al.box (AV.d Y2 (op, nm, ins, out, aa, PUnit.unit)))], nx := 1 } := by kernel_rfl
def Et (op nm : aj) (ins : List (aj)) (out : aj) (aa : bk) (ws : List (aj)) (i : Int) : LSt := ⟨aw 7 [(2, .op 0 [] 0), (63, .d (.slice .str) ws), (64, I (Int.ofNat ws.length)), (65, I i)], Tf op nm ins out aa, 1⟩
theorem MW (op nm : aj) (ins : List (aj)) (out : aj) (aa : bk) (ws : List (aj)) (i : Int) (n : Nat) {R : Type} (k : AEx -> LSt -> Option R) : lp rE dk Er (n + 1) (Et op nm ins out aa ws i) k = bif decide (i < Int.ofNat ws.length) then (idx ws i).bind fun v1 => bif decide (List.length v1 <= 2147483648) then (if (cH v1).length + 1 < 4611686018427387904 then some (cH v1 ++ [32]) else none).bind fun v3 => (Ak v3 0).bind fun v4 => bif decide (aa.length <= 9223372036854775807) then bif decide (bu (fun a => a.fst == gh v1 && a.snd.fst == dJ v4) aa < 0) then bif decide ((cH v1).length <= 2147483648) then bif gM (cH v1) then k AEx.ret { fr := aw 7 [(2, AV.op 0 [] 0), (4, I 4), (10, AV.d Ty.str v1), (11, AV.d Ty.str (gh v1)), (12, AV.d Ty.str (cH v1)), (13, B (decide (Lib.indexByte v1 32 >= 0))), (14, AV.op 1 [] 0), (15, B false), (63, AV.d Ty.str.slice ws), (64, I (Int.ofNat ws.length)), (65, I i), (66, B true), (67, AV.ip Ty.str v1), (68, AV.d Ty.str v1), (69, AV.tup [AV.d Ty.str (gh v1), AV.d Ty.str (cH v1), B (decide (Lib.indexByte v1 32 >= 0))]), (70, AV.d Ty.str v1), (71, AV.tup [AV.d Ty.str (gh v1), AV.d Ty.str (cH v1), B (decide (Lib.indexByte v1 32 >= 0))]), (72, AV.d Ty.str (gh v1)), (73, AV.d Ty.str (cH v1)), (74, B (decide (Lib.indexByte v1 32 >= 0))), (75, AV.tup [(AV.d Ty.str []).pr ((I 0).pr ((I 0).pr ((I 0).pr ((AV.d Ty.str []).pr (((I 0).pr (AV.nils.pr (AV.nils.pr (AV.d Ty.unit PUnit.unit)))).pr (AV.nils.pr (AV.d Ty.unit PUnit.unit))))))), B false]), (76, AV.d Y2 (op, nm, ins, out, aa, PUnit.unit)), (77, AV.d Ty.str (gh v1)), (78, AV.d Ty.str (cH v1)), (79, AV.d Ty.str v3), (80, AV.d (Ty.int u8) v4), (81, I (dJ v4)), (82, AV.tup [(AV.d Ty.str []).pr ((I 0).pr ((I 0).pr ((I 0).pr ((AV.d Ty.str []).pr (((I 0).pr (AV.nils.pr (AV.nils.pr (AV.d Ty.unit PUnit.unit)))).pr (AV.nils.pr (AV.d Ty.unit PUnit.unit))))))), B false]), (83, (AV.d Ty.str []).pr ((I 0).pr ((I 0).pr ((I 0).pr ((AV.d Ty.str []).pr (((I 0).pr (AV.nils.pr (AV.nils.pr (AV.d Ty.unit PUnit.unit)))).pr (AV.nils.pr (AV.d Ty.unit PUnit.unit)))))))), (84, B false), (85, AV.d Ty.str (cH v1)), (86, B (gM (cH v1))), (87, B true), (88, B false), (89, B true), (90, B true)], hp := [(1, al.box ((AV.d Ty.str []).pr ((I 0).pr ((I 0).pr ((I 0).pr ((AV.d Ty.str []).pr (((I 0).pr (AV.nils.pr (AV.nils.pr (AV.d Ty.unit PUnit.unit)))).pr (AV.nils.pr (AV.d Ty.unit PUnit.unit))))))))), (1, al.box ((AV.d Ty.str []).pr ((I 0).pr ((I 0).pr ((I 0).pr ((AV.d Ty.str []).pr (((I 0).pr (AV.nils.pr (AV.nils.pr (AV.d Ty.unit PUnit.unit)))).pr (AV.nils.pr (AV.d Ty.unit PUnit.unit))))))))), (0, al.box (AV.d Y2 (op, nm, ins, out, aa, PUnit.unit)))], nx := 2 } else lp rE dk Er n (Et op nm ins out aa ws (i64.wrap (i + 1))) k else none else (List.find? (fun a => a.fst == gh v1 && a.snd.fst == dJ v4) aa).bind fun v7 => bif decide ((cH v1).length <= 2147483648) then bif gM (cH v1) then lp rE dk Er n (Et op nm ins out aa ws (i64.wrap (i + 1))) k else lp rE dk Er n (Et op nm ins out aa ws (i64.wrap (i + 1))) k else none else none else none else k (AEx.exit 2) { fr := aw 7 [(2, AV.op 0 [] 0), (63, AV.d Ty.str.slice ws), (64, I (Int.ofNat ws.length)), (65, I i), (66, B false)], hp := [(0, al.box (AV.d Y2 (op, nm, ins, out, aa, PUnit.unit)))], nx := 1 } := by kernel_rfl
noncomputable def afc (hl : Hl) : AEx -> LSt -> Option (aq × LHp) := aW 0 (bt rE dk [3, 14] hl (cR (cR (cR wW))) (bA prog 0 f143.results.toList ah))
noncomputable def ZD : AEx -> LSt -> Option (aq × LHp) := aW 2 (bt rE dk [3, 14] (hlp rE dk) (cR (cR (cR (cR wW)))) (bA prog 0 f143.results.toList ah))
def Wo (op nm : aj) (ins : List (aj)) (out : aj) (aa : bk) (ws : List (aj)) (i : Int) : LSt := ⟨aw 7 [(2, .op 0 [] 0), (5, .d (.slice .str) ws), (20, .d (.slice (Y1)) aa), (21, I (Int.ofNat aa.length)), (22, I i), (23, B false)], Tf op nm ins out aa, 1⟩
theorem ZE (hl : Hl) (op nm : aj) (ins : List (aj)) (out : aj) (aa : bk) (ws : List (aj)) (i : Int) : afc hl (.exit 0) (Wo op nm ins out aa ws i) = hl Er _ (Et op nm ins out aa ws 0) (aW 2 (bt rE dk [3, 14] hl (cR (cR (cR (cR wW)))) (bA prog 0 f143.results.toList ah))) := by kernel_rfl
noncomputable def KAr : AEx -> LSt -> Option (aq × LHp) := afc (hlp rE dk)
theorem ZF (op nm : aj) (ins : List (aj)) (out : aj) (aa : bk) (ws : List (aj)) (i : Int) : KAr (.exit 0) (Wo op nm ins out aa ws i) = lp rE dk Er fu (Et op nm ins out aa ws 0) ZD := (ZE (hlp rE dk) op nm ins out aa ws i).trans rfl
theorem ZG (op nm : aj) (ins : List (aj)) (out : aj) (aa : bk) (ws : List (aj)) : hlp rE dk Ep (aq × LHp) (Es op nm ins out aa ws 0) KAr = lp rE dk Ep fu (Es op nm ins out aa ws 0) KAr := rfl
def afd (op nm : aj) (ins : List (aj)) (out : aj) (aa : bk) (ws : List (aj)) (i : Int) : LSt := ⟨aw 7 [(2, .op 0 [] 0), (63, .d (.slice .str) ws), (64, I (Int.ofNat ws.length)), (65, I i), (66, B false)], Tf op nm ins out aa, 1⟩
theorem ZH (op nm : aj) (ins : List (aj)) (out : aj) (aa : bk) (ws : List (aj)) (i : Int) : ZD (.exit 2) (afd op nm ins out aa ws i) = ay [I 0] := by kernel_rfl
def qC (w : aj) : Bool := decide (w.length <= 2147483648) && !(w.getLast? == some 32)
theorem MX {w : aj} {a : (Y1).den} (hw : qC w = true) (hp : oE a w = true) : List.length a.1 + 1 < w.length := by
 unfold qC at hw
 unfold oE cP at hp
 simp only [bg, decide_eq_true_eq, Bool.not_eq_true', beq_eq_false_iff_ne, beq_iff_eq] at hw hp
 obtain ⟨h1, h2⟩ := hp
 rw [List.length_append] at h1 h2
 have h1 : List.length a.1 + 1 <= w.length := h1
 rcases Nat.lt_or_ge (List.length a.1 + 1) w.length with h | h
 ·exact h
 ·exfalso
  apply hw.2
  rw [List.take_of_length_le (by show w.length <= List.length a.1 + 1; omega)] at h2
  rw [h2]
  simp
def hJ (w : aj) (i : Nat) : Int := ((w.getD i 0).toNat : Int)
theorem Gv {w : aj} {i : Nat} (h : i < w.length) : Ak w ((i : Nat) : Int) = some (hJ w i) := by
 unfold Ak hJ
 rw [if_pos (by omega), Int.toNat_natCast, List.getD_eq_getElem?_getD, List.getElem?_eq_getElem h]
 rfl
def MY (ws : List (aj)) (pre : bk) (a : (Y1).den) : Int := match ws.find? (oE a) with
 | none => 5
 | some w => bif dJ (hJ w (List.length a.1 + 1)) != a.2.1 then 4 else bif pre.any (fun b => b.1 == a.1) then 4 else bif a.2.1 == 1 then (bif !bz 1 a.2.2.1 then 4 else 0) else 0
def MZ (ws : List (aj)) : bk -> bk -> Int
 | _, [] => 0
 | pre, a :: r => bif MY ws pre a != 0 then MY ws pre a else MZ ws (pre ++ [a]) r
def ZI (aa : bk) (w : aj) : Bool := gM (cH w) && (aa.find? (gZ (gh w) (dJ (hJ (cH w ++ [32]) 0)))).isNone
theorem Tg (w : aj) : (cH w).length <= w.length := by
 unfold cH
 cases decide (Lib.indexByte w 32 >= 0) with
 | false => simp
 | true => rw [ak, List.length_drop]; omega
theorem ZJ {op nm : aj} {ins : List (aj)} {out : aj} {aa : bk} {ws : List (aj)} (hl : aa.length <= 2147483647) (hws : ws.length <= 2147483648) (hw : ∀ w ∈ ws, qC w = true) : ∀ (r j nn : Nat), j + r = ws.length -> r < nn ->
  lp rE dk Er nn (Et op nm ins out aa ws ((j : Nat) : Int)) ZD = some (.ret [I (bif (ws.drop j).any (ZI aa) then 4 else 0)], []) := by
 intro r
 induction r with
 | zero =>
  intro j nn hj hn
  obtain ⟨nn, rfl⟩ : ∃ m', nn = m' + 1 := ⟨nn - 1, by omega⟩
  rw [MW, de (show ¬ (((j : Nat) : Int) < Int.ofNat ws.length) by simp only [aT]; omega), ax, List.drop_eq_nil_of_le (by omega)]
  exact ZH op nm ins out aa ws _
 | succ r ih =>
  intro j nn hj hn
  obtain ⟨nn, rfl⟩ : ∃ m', nn = m' + 1 := ⟨nn - 1, by omega⟩
  have key := ih (j + 1) nn (by omega) (by omega)
  have cn : j < ws.length := by omega
  have gI : idx ws ((j : Nat) : Int) = some (ws[j]) := by
   unfold idx
   rw [if_pos (by omega), Int.toNat_natCast, List.getElem?_eq_getElem cn]
  have ed : ws.drop j = ws[j] :: ws.drop (j + 1) := List.drop_eq_getElem_cons cn
  have hwo := hw ws[j] (List.getElem_mem cn)
  have hw1 : (ws[j]).length <= 2147483648 := by
   unfold qC at hwo
   rw [bg] at hwo
   exact aZ hwo.1
  generalize ws[j] = w at *
  have hk := Tg w
  have w1 : i64.wrap (((j : Nat) : Int) + 1) = ((j + 1 : Nat) : Int) := by rw [aJ (by omega) (by omega)]; omega
  have g0 : Ak (cH w ++ [32]) 0 = some (hJ (cH w ++ [32]) 0) := Gv (i := 0) (by rw [List.length_append]; exact Nat.succ_pos _)
  have e1 : decide (bu (fun a => a.fst == gh w && a.snd.fst == dJ (hJ (cH w ++ [32]) 0)) aa < 0) = (aa.find? (gZ (gh w) (dJ (hJ (cH w ++ [32]) 0)))).isNone := ku _ _
  have e2 : List.find? (fun a => a.fst == gh w && a.snd.fst == dJ (hJ (cH w ++ [32]) 0)) aa = aa.find? (gZ (gh w) (dJ (hJ (cH w ++ [32]) 0))) := rfl
  rw [MW, aE (show ((j : Nat) : Int) < Int.ofNat ws.length by simp only [aT]; omega), ak, gI, aA, aE hw1, ak, if_pos (show (cH w).length + 1 < 4611686018427387904 by omega), aA, g0, aA, aE (show aa.length <= 9223372036854775807 by omega), ak, aE (show (cH w).length <= 2147483648 by omega), ak, w1, e1, e2, ed, List.any_cons]
  have en : ZI aa w = (gM (cH w) && (aa.find? (gZ (gh w) (dJ (hJ (cH w ++ [32]) 0)))).isNone) := rfl
  rw [en]
  cases hf : aa.find? (gZ (gh w) (dJ (hJ (cH w ++ [32]) 0))) with
  | none =>
   cases hs : gM (cH w) with
   | true => show _ = _; kernel_rfl
   | false => exact key
  | some a =>
   simp only [Option.isNone_some, ax, aA, ak, Bool.and_false, Bool.false_or]
   cases hs : gM (cH w) with
   | true => exact key
   | false => exact key
def jT (ws : List (aj)) (aa : bk) : Int := bif MZ ws [] aa != 0 then MZ ws [] aa else bif ws.any (ZI aa) then 4 else 0
theorem M0 {α : Type} {pre r : List α} {L : List α} (h : L = pre ++ r) : (if (0 : Int) <= 0 /\ 0 <= ((pre.length : Nat) : Int) /\ ((pre.length : Nat) : Int) <= Int.ofNat L.length then some (List.drop 0 (List.take ((pre.length : Nat) : Int).toNat L)) else none) = some pre := by
 rw [if_pos ⟨by omega, by omega, by rw [h, List.length_append]; simp only [aT]; omega⟩, Int.toNat_natCast, h, List.take_left]
 rfl
theorem ZK {op nm : aj} {ins : List (aj)} {out : aj} {aa : bk} {ws : List (aj)} (hl : aD aa = true) (hws : ws.length <= 2147483648) (hw : ∀ w ∈ ws, qC w = true) : ∀ (rest pre : bk) (nn : Nat), aa = pre ++ rest -> rest.length < nn ->
  lp rE dk Ep nn (Es op nm ins out aa ws ((pre.length : Nat) : Int)) KAr = some (.ret [I (bif MZ ws pre rest != 0 then MZ ws pre rest else bif ws.any (ZI aa) then 4 else 0)], []) := by
 have hlen := bQ hl
 intro rest
 induction rest with
 | nil =>
  intro pre nn hp hn
  obtain ⟨nn, rfl⟩ : ∃ m', nn = m' + 1 := ⟨nn - 1, by omega⟩
  have eQ : aa.length = pre.length := by rw [hp, List.append_nil]
  rw [MV, de (show ¬ (((pre.length : Nat) : Int) < Int.ofNat aa.length) by simp only [aT]; omega), ax]
  refine (ZF op nm ins out aa ws _).trans ?_
  have key := ZJ (op := op) (nm := nm) (ins := ins) (out := out) hlen hws hw ws.length 0 fu (by omega) (by unfold fu; omega)
  rw [List.drop_zero] at key
  exact key
 | cons a r ih =>
  intro pre nn hp hn
  obtain ⟨nn, rfl⟩ : ∃ m', nn = m' + 1 := ⟨nn - 1, by omega⟩
  have key := ih (pre ++ [a]) nn (by rw [hp, List.append_assoc]; rfl) (by simp only [List.length_cons] at hn; omega)
  have eQ : aa.length = pre.length + (r.length + 1) := by rw [hp, List.length_append, List.length_cons]
  have ha := il hl (a := a) (by rw [hp]; simp)
  have gI : idx aa ((pre.length : Nat) : Int) = some a := by rw [hp]; exact nr pre a r
  have w1 : i64.wrap (((pre.length : Nat) : Int) + 1) = (((pre ++ [a]).length : Nat) : Int) := by rw [List.length_append, List.length_cons, List.length_nil, aJ (by omega) (by omega)]; omega
  have e1 : decide (bu (fun w => cP w (a.fst ++ [32])) ws < 0) = (ws.find? (oE a)).isNone := ku _ _
  have e2 : idx ws (bu (fun w => cP w (a.fst ++ [32])) ws) = ws.find? (oE a) := ud _ _
  have w2 : i64.wrap (Int.ofNat (List.length a.1) + 1) = ((List.length a.1 + 1 : Nat) : Int) := by
   have := ha.1
   simp only [aT]
   rw [aJ (by omega) (by omega)]
   omega
  have ed : MZ ws pre (a :: r) = bif MY ws pre a != 0 then MY ws pre a else MZ ws (pre ++ [a]) r := rfl
  rw [MV, aE (show ((pre.length : Nat) : Int) < Int.ofNat aa.length by simp only [aT]; omega), ak, gI, aA, aE (show ws.length <= 9223372036854775807 /\ List.length a.1 <= 2147483647 from ⟨by omega, ha.1⟩), ak, e1, e2, M0 hp, w2, w1, ed]
  cases hf : ws.find? (oE a) with
  | none =>
   have ho : MY ws pre a = 5 := by unfold MY; rw [hf]
   rw [ho]
   show _ = _
   kernel_rfl
  | some w =>
   have hpr : oE a w = true := List.find?_some hf
   have hwo := MX (hw w (List.mem_of_find?_eq_some hf)) hpr
   have ho : MY ws pre a = bif dJ (hJ w (List.length a.1 + 1)) != a.2.1 then 4 else bif pre.any (fun b => b.1 == a.1) then 4 else bif a.2.1 == 1 then (bif !bz 1 a.2.2.1 then 4 else 0) else 0 := by unfold MY; rw [hf]
   rw [Option.isNone_some, ax, aA, Gv hwo, aA, aA, aE (show pre.length <= 9223372036854775807 by omega), ak, ho]
   cases dJ (hJ w (List.length a.1 + 1)) != a.2.1 with
   | true => show _ = _; kernel_rfl
   | false =>
    simp only [ax]
    cases pre.any (fun b => b.1 == a.1) with
    | true => show _ = _; kernel_rfl
    | false =>
     simp only [ax]
     cases a.2.1 == 1 with
     | true =>
      simp only [ak]
      cases !bz 1 a.2.2.1 with
      | true => show _ = _; kernel_rfl
      | false => exact key
     | false => exact key
def eT (r : aj) : List (aj) := cE (r ++ [44, 116, 104, 101, 110, 32, 120])
def mN (r : aj) : Bool := decide (r.length <= 1000000) && (eT r).all qC
theorem Th {op nm : aj} {ins : List (aj)} {out : aj} {aa : bk} {r : aj} (hl : aD aa = true) (hr : mN r = true) : aC rE f143 7 [(3, [2, 5, 20, 21, 22]), (14, [2, 63, 64, 65])] [dh op nm ins out aa, .d .str r] [] ah = some (.ret [I (jT (eT r) aa)], []) := by
 unfold mN at hr
 rw [bg] at hr
 have h1 := aZ hr.1
 have hw := List.all_eq_true.1 hr.2
 have h2 : (r ++ [44, 116, 104, 101, 110, 32, 120]).length = r.length + 7 := by rw [List.length_append]; rfl
 have h3 := qB (r ++ [44, 116, 104, 101, 110, 32, 120])
 rw [ZC, if_pos (show r.length + 7 < 4611686018427387904 by omega), aA]
 change (bif decide (List.length (α := UInt8) (r ++ [44, 116, 104, 101, 110, 32, 120]) <= 2147483647) then _ else _) = _
 rw [aE (show List.length (α := UInt8) (r ++ [44, 116, 104, 101, 110, 32, 120]) <= 2147483647 by omega), ak]
 have hlen := bQ hl
 refine (ZG op nm ins out aa (eT r)).trans ?_
 exact ZK hl (by unfold eT; omega) hw aa [] fu rfl (by unfold fu; omega)
def ZL : List AV -> LHp -> Tq
 | [.d Y2 (_, _, _, _, aa, _), .d .str r], [] => .br (aD aa && mN r) (.leaf (.ret [I (jT (eT r) aa)]) []) .no
 | _, _ => .no
theorem Ti : bE 143 (ao ZL) := by
 have h1 := bS (d := 7) (l := [(3, [2, 5, 20, 21, 22]), (14, [2, 63, 64, 65])]) MU func143 call143
 refine aO fun args hs ae aF h' => ?_
 unfold ZL at h'
 split at h'
 ·obtain ⟨hb, h2⟩ := Tq.br_no h'
  rw [bg] at hb
  exact h1.okC ((Th hb.1 hb.2).trans h2)
 ·cases h'
noncomputable def gRo : Env := g15.add 193 (fnE SQ)
theorem M1 : gRo.Good := mJ.add Gm
noncomputable def eU : Option (aq × LHp) := ay [AV.d ((af).pair ((af).pair (Ty.str.pair Ty.unit))) (2, 2, [], PUnit.unit), B true]
noncomputable def sf : Option (aq × LHp) := ay [AV.d ((af).pair ((af).pair (Ty.str.pair Ty.unit))) (1, 1, [97, 120, 101, 115, 32, 115, 44, 107, 101, 101, 112, 100, 105, 109, 115, 32, 105], PUnit.unit), B true]
noncomputable def yI : Option (aq × LHp) := ay [AV.d ((af).pair ((af).pair (Ty.str.pair Ty.unit))) (1, 1, [107, 101, 114, 110, 101, 108, 95, 115, 104, 97, 112, 101, 32, 115, 42, 44, 115, 116, 114, 105, 100, 101, 115, 32, 115, 44, 112, 97, 100, 115, 32, 115], PUnit.unit), B true]
noncomputable def yJ : Option (aq × LHp) := ay [AV.d ((af).pair ((af).pair (Ty.str.pair Ty.unit))) (1, 1, [115, 104, 97, 112, 101, 32, 115, 42], PUnit.unit), B true]
noncomputable def yK : Option (aq × LHp) := ay [AV.d ((af).pair ((af).pair (Ty.str.pair Ty.unit))) (1, 1, [97, 120, 101, 115, 32, 115, 42], PUnit.unit), B true]
noncomputable def yL : Option (aq × LHp) := ay [AV.d ((af).pair ((af).pair (Ty.str.pair Ty.unit))) (1, 1, [97, 120, 105, 115, 32, 105], PUnit.unit), B true]
theorem ZM (op : aj) : aC gRo f141 7 [] [.d .str op] [] ah = bif op == XJ then ay [AV.d ((af).pair ((af).pair (Ty.str.pair Ty.unit))) (1, 1, [], PUnit.unit), B true] else bif op == K8 then eU else bif op == QD then eU else bif op == K9 then eU else bif op == La then eU else bif op == Lb then eU else bif op == QE then eU else bif op == V9 then eU else bif op == [79, 114] then eU else bif op == Wa then eU else bif op == vF then eU else bif op == ym then eU else bif op == yo then eU else bif op == Lc then eU else bif op == tY then ay [AV.d ((af).pair ((af).pair (Ty.str.pair Ty.unit))) (3, 3, [], PUnit.unit), B true] else bif op == Ld then ay [AV.d ((af).pair ((af).pair (Ty.str.pair Ty.unit))) (1, 1, [109, 105, 110, 32, 102, 44, 109, 97, 120, 32, 102], PUnit.unit), B true] else bif op == D9 then ay [AV.d ((af).pair ((af).pair (Ty.str.pair Ty.unit))) (1, 1, [116, 111, 32, 105, 42], PUnit.unit), B true] else bif op == Ea then sf else bif op == Eb then sf else bif op == Lf then sf else bif op == yq then ay [AV.d ((af).pair ((af).pair (Ty.str.pair Ty.unit))) (1, 1, [97, 120, 105, 115, 32, 105, 44, 107, 101, 101, 112, 100, 105, 109, 115, 32, 105], PUnit.unit), B true] else bif op == Ir then yJ else bif op == Is then yJ else bif op == It then ay [AV.d ((af).pair ((af).pair (Ty.str.pair Ty.unit))) (1, 1, [112, 101, 114, 109, 32, 115], PUnit.unit), B true] else bif op == Iu then ay [AV.d ((af).pair ((af).pair (Ty.str.pair Ty.unit))) (1, 20, [97, 120, 105, 115, 32, 105, 42], PUnit.unit), B true] else bif op == Iv then ay [AV.d ((af).pair ((af).pair (Ty.str.pair Ty.unit))) (1, 1, [115, 116, 97, 114, 116, 115, 32, 115, 42, 44, 101, 110, 100, 115, 32, 115, 42, 44, 97, 120, 101, 115, 32, 115], PUnit.unit), B true] else bif op == vG then ay [AV.d ((af).pair ((af).pair (Ty.str.pair Ty.unit))) (2, 2, [97, 120, 105, 115, 32, 105], PUnit.unit), B true] else bif op == [80, 97, 100] then ay [AV.d ((af).pair ((af).pair (Ty.str.pair Ty.unit))) (1, 1, [112, 97, 100, 115, 32, 115, 42, 44, 118, 97, 108, 117, 101, 32, 102], PUnit.unit), B true] else bif op == Iw then yK else bif op == Ix then yK else bif op == Lg then yL else bif op == Lh then yL else bif op == Iy then ay [AV.d ((af).pair ((af).pair (Ty.str.pair Ty.unit))) (2, 3, [116, 114, 97, 110, 115, 65, 32, 105, 44, 116, 114, 97, 110, 115, 66, 32, 105, 44, 97, 108, 112, 104, 97, 32, 102, 44, 98, 101, 116, 97, 32, 102], PUnit.unit), B true] else bif op == vH then ay [AV.d ((af).pair ((af).pair (Ty.str.pair Ty.unit))) (2, 3, [115, 116, 114, 105, 100, 101, 115, 32, 115, 44, 112, 97, 100, 115, 32, 115, 44, 100, 105, 108, 97, 116, 105, 111, 110, 115, 32, 115, 44, 103, 114, 111, 117, 112, 32, 105], PUnit.unit), B true] else bif op == rC then yI else bif op == Ec then yI else bif op == Li then ay [AV.d ((af).pair ((af).pair (Ty.str.pair Ty.unit))) (5, 5, [101, 112, 115, 105, 108, 111, 110, 32, 102], PUnit.unit), B true] else bif op == tZ then ay [AV.d ((af).pair ((af).pair (Ty.str.pair Ty.unit))) (0, 0, [118, 97, 108, 117, 101, 32, 116, 42], PUnit.unit), B true] else ay [AV.d ((af).pair ((af).pair (Ty.str.pair Ty.unit))) (1, 1, [], PUnit.unit), B (gL op)] := by kernel_rfl
def wX (op : aj) : Option (Int × Int × aj × Unit) :=
 bif op == XJ then some (1, 1, [], ()) else
 bif op == K8 then some (2, 2, [], ()) else
 bif op == QD then some (2, 2, [], ()) else
 bif op == K9 then some (2, 2, [], ()) else
 bif op == La then some (2, 2, [], ()) else
 bif op == Lb then some (2, 2, [], ()) else
 bif op == QE then some (2, 2, [], ()) else
 bif op == V9 then some (2, 2, [], ()) else
 bif op == [79, 114] then some (2, 2, [], ()) else
 bif op == Wa then some (2, 2, [], ()) else
 bif op == vF then some (2, 2, [], ()) else
 bif op == ym then some (2, 2, [], ()) else
 bif op == yo then some (2, 2, [], ()) else
 bif op == Lc then some (2, 2, [], ()) else
 bif op == tY then some (3, 3, [], ()) else
 bif op == Ld then some (1, 1, [109, 105, 110, 32, 102, 44, 109, 97, 120, 32, 102], ()) else
 bif op == D9 then some (1, 1, [116, 111, 32, 105, 42], ()) else
 bif op == Ea then some (1, 1, [97, 120, 101, 115, 32, 115, 44, 107, 101, 101, 112, 100, 105, 109, 115, 32, 105], ()) else
 bif op == Eb then some (1, 1, [97, 120, 101, 115, 32, 115, 44, 107, 101, 101, 112, 100, 105, 109, 115, 32, 105], ()) else
 bif op == Lf then some (1, 1, [97, 120, 101, 115, 32, 115, 44, 107, 101, 101, 112, 100, 105, 109, 115, 32, 105], ()) else
 bif op == yq then some (1, 1, [97, 120, 105, 115, 32, 105, 44, 107, 101, 101, 112, 100, 105, 109, 115, 32, 105], ()) else
 bif op == Ir then some (1, 1, [115, 104, 97, 112, 101, 32, 115, 42], ()) else
 bif op == Is then some (1, 1, [115, 104, 97, 112, 101, 32, 115, 42], ()) else
 bif op == It then some (1, 1, [112, 101, 114, 109, 32, 115], ()) else
 bif op == Iu then some (1, 20, [97, 120, 105, 115, 32, 105, 42], ()) else
 bif op == Iv then some (1, 1, [115, 116, 97, 114, 116, 115, 32, 115, 42, 44, 101, 110, 100, 115, 32, 115, 42, 44, 97, 120, 101, 115, 32, 115], ()) else
 bif op == vG then some (2, 2, [97, 120, 105, 115, 32, 105], ()) else
 bif op == [80, 97, 100] then some (1, 1, [112, 97, 100, 115, 32, 115, 42, 44, 118, 97, 108, 117, 101, 32, 102], ()) else
 bif op == Iw then some (1, 1, [97, 120, 101, 115, 32, 115, 42], ()) else
 bif op == Ix then some (1, 1, [97, 120, 101, 115, 32, 115, 42], ()) else
 bif op == Lg then some (1, 1, [97, 120, 105, 115, 32, 105], ()) else
 bif op == Lh then some (1, 1, [97, 120, 105, 115, 32, 105], ()) else
 bif op == Iy then some (2, 3, [116, 114, 97, 110, 115, 65, 32, 105, 44, 116, 114, 97, 110, 115, 66, 32, 105, 44, 97, 108, 112, 104, 97, 32, 102, 44, 98, 101, 116, 97, 32, 102], ()) else
 bif op == vH then some (2, 3, [115, 116, 114, 105, 100, 101, 115, 32, 115, 44, 112, 97, 100, 115, 32, 115, 44, 100, 105, 108, 97, 116, 105, 111, 110, 115, 32, 115, 44, 103, 114, 111, 117, 112, 32, 105], ()) else
 bif op == rC then some (1, 1, [107, 101, 114, 110, 101, 108, 95, 115, 104, 97, 112, 101, 32, 115, 42, 44, 115, 116, 114, 105, 100, 101, 115, 32, 115, 44, 112, 97, 100, 115, 32, 115], ()) else
 bif op == Ec then some (1, 1, [107, 101, 114, 110, 101, 108, 95, 115, 104, 97, 112, 101, 32, 115, 42, 44, 115, 116, 114, 105, 100, 101, 115, 32, 115, 44, 112, 97, 100, 115, 32, 115], ()) else
 bif op == Li then some (5, 5, [101, 112, 115, 105, 108, 111, 110, 32, 102], ()) else
 bif op == tZ then some (0, 0, [118, 97, 108, 117, 101, 32, 116, 42], ()) else
 none
def cC (op : aj) : Int × Int × aj × Unit := (wX op).getD (1, 1, [], ())
def uA (op : aj) : Bool := (wX op).isSome || gL op
def ZN : List AV -> LHp -> Option (aq × LHp)
 | [.d .str op], [] => some (.ret [.d (Y7) (cC op), B (uA op)], [])
 | _, _ => none
theorem Tj (op : aj) : aC gRo f141 7 [] [.d .str op] [] ah = some (.ret [.d (Y7) (cC op), B (uA op)], []) := by
 rw [ZM]; simp only [eU, sf, yI, yJ, yK, yL]
 unfold cC uA wX
 cases op == XJ
 rotate_left
 ·rfl
 cases op == K8
 rotate_left
 ·rfl
 cases op == QD
 rotate_left
 ·rfl
 cases op == K9
 rotate_left
 ·rfl
 cases op == La
 rotate_left
 ·rfl
 cases op == Lb
 rotate_left
 ·rfl
 cases op == QE
 rotate_left
 ·rfl
 cases op == V9
 rotate_left
 ·rfl
 cases op == [79, 114]
 rotate_left
 ·rfl
 cases op == Wa
 rotate_left
 ·rfl
 cases op == vF
 rotate_left
 ·rfl
 cases op == ym
 rotate_left
 ·rfl
 cases op == yo
 rotate_left
 ·rfl
 cases op == Lc
 rotate_left
 ·rfl
 cases op == tY
 rotate_left
 ·rfl
 cases op == Ld
 rotate_left
 ·rfl
 cases op == D9
 rotate_left
 ·rfl
 cases op == Ea
 rotate_left
 ·rfl
 cases op == Eb
 rotate_left
 ·rfl
 cases op == Lf
 rotate_left
 ·rfl
 cases op == yq
 rotate_left
 ·rfl
 cases op == Ir
 rotate_left
 ·rfl
 cases op == Is
 rotate_left
 ·rfl
 cases op == It
 rotate_left
 ·rfl
 cases op == Iu
 rotate_left
 ·rfl
 cases op == Iv
 rotate_left
 ·rfl
 cases op == vG
 rotate_left
 ·rfl
 cases op == [80, 97, 100]
 rotate_left
 ·rfl
 cases op == Iw
 rotate_left
 ·rfl
 cases op == Ix
 rotate_left
 ·rfl
 cases op == Lg
 rotate_left
 ·rfl
 cases op == Lh
 rotate_left
 ·rfl
 cases op == Iy
 rotate_left
 ·rfl
 cases op == vH
 rotate_left
 ·rfl
 cases op == rC
 rotate_left
 ·rfl
 cases op == Ec
 rotate_left
 ·rfl
 cases op == Li
 rotate_left
 ·rfl
 cases op == tZ
 rotate_left
 ·rfl
 rfl
theorem Tk : bE 141 (fnE ZN) := by
 refine ic M1 bX func141 call141 (depth := 7) (live := []) (by decide +kernel) rfl fun args hs p h => ?_
 unfold ZN at h
 split at h
 ·cases h
  exact Tj _
 ·cases h
theorem IX (op : aj) : mN (cC op).2.2.1 = true := by
 unfold cC wX
 cases op == XJ
 rotate_left
 ·kernel_rfl
 cases op == K8
 rotate_left
 ·kernel_rfl
 cases op == QD
 rotate_left
 ·kernel_rfl
 cases op == K9
 rotate_left
 ·kernel_rfl
 cases op == La
 rotate_left
 ·kernel_rfl
 cases op == Lb
 rotate_left
 ·kernel_rfl
 cases op == QE
 rotate_left
 ·kernel_rfl
 cases op == V9
 rotate_left
 ·kernel_rfl
 cases op == [79, 114]
 rotate_left
 ·kernel_rfl
 cases op == Wa
 rotate_left
 ·kernel_rfl
 cases op == vF
 rotate_left
 ·kernel_rfl
 cases op == ym
 rotate_left
 ·kernel_rfl
 cases op == yo
 rotate_left
 ·kernel_rfl
 cases op == Lc
 rotate_left
 ·kernel_rfl
 cases op == tY
 rotate_left
 ·kernel_rfl
 cases op == Ld
 rotate_left
 ·kernel_rfl
 cases op == D9
 rotate_left
 ·kernel_rfl
 cases op == Ea
 rotate_left
 ·kernel_rfl
 cases op == Eb
 rotate_left
 ·kernel_rfl
 cases op == Lf
 rotate_left
 ·kernel_rfl
 cases op == yq
 rotate_left
 ·kernel_rfl
 cases op == Ir
 rotate_left
 ·kernel_rfl
 cases op == Is
 rotate_left
 ·kernel_rfl
 cases op == It
 rotate_left
 ·kernel_rfl
 cases op == Iu
 rotate_left
 ·kernel_rfl
 cases op == Iv
 rotate_left
 ·kernel_rfl
 cases op == vG
 rotate_left
 ·kernel_rfl
 cases op == [80, 97, 100]
 rotate_left
 ·kernel_rfl
 cases op == Iw
 rotate_left
 ·kernel_rfl
 cases op == Ix
 rotate_left
 ·kernel_rfl
 cases op == Lg
 rotate_left
 ·kernel_rfl
 cases op == Lh
 rotate_left
 ·kernel_rfl
 cases op == Iy
 rotate_left
 ·kernel_rfl
 cases op == vH
 rotate_left
 ·kernel_rfl
 cases op == rC
 rotate_left
 ·kernel_rfl
 cases op == Ec
 rotate_left
 ·kernel_rfl
 cases op == Li
 rotate_left
 ·kernel_rfl
 cases op == tZ
 rotate_left
 ·kernel_rfl
 kernel_rfl
noncomputable def Gw : Code := bD f194
noncomputable def Tl : Code := cL (cL (cR (cL (cR Gw))))
noncomputable def iZ : Cfg := ⟨19, 5, 0, [(2, [0, 1, 7, 8])], true⟩
def M3 (ws : List (aj)) (v : aj) (i : Int) : LSt := ⟨aw 5 [(0, .d (.slice .str) ws), (1, .d .str v), (7, I (Int.ofNat ws.length)), (8, I i)], [], 0⟩
theorem ZO (ws : List (aj)) (v : aj) : aC g15 f194 5 [(2, [0, 1, 7, 8])] [.d (.slice .str) ws, .d .str v] [] ah = (hlp g15 iZ) Tl _ (M3 ws v 0) (aW 0 (bt g15 iZ [2] (hlp g15 iZ) (cR (cR Gw)) (bA prog 0 f194.results.toList ah))) := (bI [2] iZ rfl).trans (by obtain ⟨hl, h⟩ := bw g15 iZ; rw [h]; kernel_rfl)
theorem ZP (ws : List (aj)) (v : aj) (i : Int) (n : Nat) {R : Type} (k : AEx -> LSt -> Option R) : lp g15 iZ Tl (n + 1) (M3 ws v i) k = bif decide (i < Int.ofNat ws.length) then (idx ws i).bind fun v1 => bif v == v1 then k AEx.ret { fr := aw 5 [(0, AV.d Ty.str.slice ws), (1, AV.d Ty.str v), (4, I i), (5, I i), (7, I (Int.ofNat ws.length)), (8, I i), (9, B true), (10, I i), (11, AV.d Ty.str v), (12, AV.d Ty.str.slice ws), (13, I i), (14, AV.ip Ty.str v1), (15, AV.d Ty.str v1), (16, B true), (17, I i)], hp := [], nx := 0 } else lp g15 iZ Tl n (M3 ws v (i64.wrap (i + 1))) k else k (AEx.exit 0) { fr := aw 5 [(0, AV.d Ty.str.slice ws), (1, AV.d Ty.str v), (7, I (Int.ofNat ws.length)), (8, I i), (9, B false)], hp := [], nx := 0 } := by kernel_rfl
theorem Tm {ws : List (aj)} {v : aj} (hl : ws.length <= maxLen) : aC g15 f194 5 [(2, [0, 1, 7, 8])] [.d (.slice .str) ws, .d .str v] [] ah = some (.ret [I (bu (fun w => v == w) ws)], []) := by
 rw [ZO]
 have hs := fun (i : Int) (n : Nat) => ZP ws v i n (aW 0 (bt g15 iZ [2] (hlp g15 iZ) (cR (cR Gw)) (bA prog 0 f194.results.toList ah)))
 have h := fM (T := fun n s => lp g15 iZ Tl n s (aW 0 (bt g15 iZ [2] (hlp g15 iZ) (cR (cR Gw)) (bA prog 0 f194.results.toList ah)))) (xs := ws) (st := fun i => M3 ws v i) hl hs
 unfold M3 at h
 refine h.trans ?_
 unfold bu
 cases hq : ws.findIdx? (fun w => v == w) with
 | none => show _ = _; kernel_rfl
 | some i =>
  obtain ⟨hi, _⟩ := List.findIdx?_eq_some_iff_getElem.1 hq
  simp only [List.getElem?_eq_getElem hi, aA]
  show _ = _
  kernel_rfl
def ZQ : List AV -> LHp -> Tq
 | [.d (.slice .str) ws, .d .str v], [] => .br (decide (ws.length <= maxLen)) (.leaf (.ret [I (bu (fun w => v == w) ws)]) []) .no
 | _, _ => .no
theorem Tn : bE 194 (ao ZQ) := by
 refine cj mJ bX func194 call194 (depth := 5) (live := [(2, [0, 1, 7, 8])]) (by decide +kernel) rfl fun args hs p h => ?_
 unfold ZQ at h
 split at h
 ·obtain ⟨hl, h⟩ := Tq.br_no h
  cases h
  have hl := aZ hl
  exact Tm hl
 ·cases h
noncomputable def gCx : Env := g15.add 194 (ao ZQ)
theorem M4 : gCx.Good := mJ.add Tn
theorem ZR (ws : List (aj)) (v : aj) : aC gCx f142 4 [] [.d (.slice .str) ws, .d .str v] [] ah = bif decide (ws.length <= 9223372036854775807) then ay [B (decide (bu (fun w => v == w) ws >= 0))] else none := by kernel_rfl
def ZS : List AV -> LHp -> Tq
 | [.d (.slice .str) ws, .d .str v], [] => .br (decide (ws.length <= maxLen)) (.leaf (.ret [B (ws.any fun w => v == w)]) []) .no
 | _, _ => .no
theorem To : bE 142 (ao ZS) := by
 have h1 := bS (d := 4) (l := []) M4 func142 call142
 refine aO fun args hs ae aF h' => ?_
 unfold ZS at h'
 split at h'
 ·refine h1.okC ((ZR _ _).trans ?_)
  rw [pG]
  exact h'
 ·cases h'
def ZT : List AV -> LHp -> Tq
 | [.d Y0 v], [] => .br (decide (List.length v.2.1 <= maxLen /\ List.length v.2.2.1 <= maxLen)) (.leaf (.ret [I (gG v.1 v.2.1 v.2.2.1)]) []) .no
 | _, _ => .no
theorem Tp : bE 57 (ao ZT) := by
 refine aO fun args hs ae aF h' => ?_
 unfold ZT at h'
 split at h'
 ·exact FF.2 _ _ _ _ h'
 ·cases h'
noncomputable def gKc : Env := (((((Wf.add 141 (fnE ZN)).add 142 (ao ZS)).add 143 (ao ZL)).add 144 (ao SX)).add 64 (ao Ej)).add 57 (ao ZT)
theorem M5 : gKc.Good := (((((jQ.add Tk).add To).add Ti).add Gq).add pC).add Tp
noncomputable def sg (op : aj) (aa : bk) : Option (aq × LHp) := bif decide (aa.length <= 9223372036854775807) then bif decide (bu (fun a => a.fst == QF && a.snd.fst == 4) aa < 0) then ay [I 0] else (List.find? (fun a => a.fst == QF && a.snd.fst == 4) aa).bind fun vP => bif op == tZ then bif decide (List.length vP.2.2.2.2.2.1.2.1 <= 9223372036854775807 /\ List.length vP.2.2.2.2.2.1.2.2.1 <= 9223372036854775807) then ay [I (gG vP.2.2.2.2.2.1.1 vP.2.2.2.2.2.1.2.1 vP.2.2.2.2.2.1.2.2.1)] else none else ay [I 0] else none
theorem ZU (op nm : aj) (ins : List (aj)) (out : aj) (aa : bk) : aC gKc f102 7 [] [dh op nm ins out aa] [] ah = bif !uA op then ay [I 5] else bif decide (Int.ofNat ins.length < (cC op).1) then ay [I 4] else bif decide (Int.ofNat ins.length > (cC op).2.1) then ay [I 4] else bif out == [] then ay [I 5] else bif decide (ins.length <= 9223372036854775807) then bif ins.any fun w => [] == w then ay [I 5] else bif aD aa && mN (cC op).2.2.1 then bif jT (eT (cC op).2.2.1) aa != 0 then ay [I (jT (eT (cC op).2.2.1) aa)] else bif aD aa then bif lP aa then sg op aa else bif jo aa then ay [I 4] else sg op aa else none else none else none := by kernel_rfl
def ff : aj := tZ
def jU : aj := QF
def mO (aa : bk) : Bool := aa.all fun a => decide (List.length a.2.2.2.2.2.1.2.1 <= maxLen /\ List.length a.2.2.2.2.2.1.2.2.1 <= maxLen)
def uB (op : aj) (aa : bk) : Int := match aa.find? (gZ jU 4) with
 | none => 0
 | some a => bif op == ff then gG a.2.2.2.2.2.1.1 a.2.2.2.2.2.1.2.1 a.2.2.2.2.2.1.2.2.1 else 0
def B8 (op : aj) (ins : List (aj)) (out : aj) (aa : bk) : Int :=
 bif !uA op then 5 else bif decide (Int.ofNat ins.length < (cC op).1) then 4 else bif decide (Int.ofNat ins.length > (cC op).2.1) then 4 else
 bif out == [] then 5 else bif ins.any (fun w => [] == w) then 5 else bif jT (eT (cC op).2.2.1) aa != 0 then jT (eT (cC op).2.2.1) aa else
 bif lP aa then uB op aa else bif jo aa then 4 else uB op aa
theorem M6 {op nm : aj} {ins : List (aj)} {out : aj} {aa : bk} (h1 : ins.length <= maxLen) (h2 : aD aa = true) (h3 : mO aa = true) : aC gKc f102 7 [] [dh op nm ins out aa] [] ah = some (.ret [I (B8 op ins out aa)], []) := by
 have hlen := bQ h2
 have hc : (bif decide (bu (fun a => a.fst == jU && a.snd.fst == 4) aa < 0) then ay [I 0]
   else (List.find? (fun a => a.fst == jU && a.snd.fst == 4) aa).bind fun v =>
    bif op == ff then (bif decide (List.length v.2.2.2.2.2.1.2.1 <= 9223372036854775807 /\ List.length v.2.2.2.2.2.1.2.2.1 <= 9223372036854775807) then ay [I (gG v.2.2.2.2.2.1.1 v.2.2.2.2.2.1.2.1 v.2.2.2.2.2.1.2.2.1)] else none) else ay [I 0]) = (ay [I (uB op aa)] : Option (aq × LHp)) := by
  rw [ku]
  unfold uB
  change (bif (aa.find? (gZ jU 4)).isNone then _ else (aa.find? (gZ jU 4)).bind _) = _
  cases hf : aa.find? (gZ jU 4) with
  | none => rfl
  | some a =>
   have ht := List.all_eq_true.1 h3 a (List.mem_of_find?_eq_some hf)
   have ht2 : decide (List.length a.2.2.2.2.2.1.2.1 <= 9223372036854775807 /\ List.length a.2.2.2.2.2.1.2.2.1 <= 9223372036854775807) = true := ht
   simp only [Option.isNone_some, ax, aA, ht2, ak]
   cases op == ff <;> rfl
 rw [ZU]; simp only [sg]; rw [h2, IX, aE (show ins.length <= 9223372036854775807 from h1), aE (show aa.length <= 9223372036854775807 by omega)]
 unfold B8
 cases !uA op with
 | true => rfl
 | false =>
  cases decide (Int.ofNat ins.length < (cC op).1) with
  | true => rfl
  | false =>
   cases decide (Int.ofNat ins.length > (cC op).2.1) with
   | true => rfl
   | false =>
    cases out == [] with
    | true => rfl
    | false =>
     cases ins.any (fun w => [] == w) with
     | true => rfl
     | false =>
      cases jT (eT (cC op).2.2.1) aa != 0 with
      | true => rfl
      | false =>
       cases lP aa with
       | true => exact hc
       | false =>
        cases jo aa with
        | true => rfl
        | false => exact hc
def M7 : List AV -> LHp -> Tq
 | [.d Y2 (op, _, ins, out, aa, _)], [] => .br (decide (ins.length <= maxLen) && (aD aa && mO aa)) (.leaf (.ret [I (B8 op ins out aa)]) []) .no
 | _, _ => .no
theorem M8 : bE 102 (ao M7) := by
 have h1 := bS (d := 7) (l := []) M5 func102 call102
 refine aO fun args hs ae aF h' => ?_
 unfold M7 at h'
 split at h'
 ·obtain ⟨hb, h2⟩ := Tq.br_no h'
  rw [bg, bg] at hb
  exact h1.okC ((M6 (aZ hb.1) hb.2.1 hb.2.2).trans h2)
 ·cases h'
noncomputable def Gx : Code := bD f252
noncomputable def Ts : Code := cL (cL (cR (cL (cR Gx))))
noncomputable def ja : Cfg := ⟨19, 5, 1, [(2, [0, 1, 7, 8])], true⟩
def B9 (z : Bool) (xs : ag) : LHp := [(0, .arr 3 af 0 z xs)]
def M9 (z : Bool) (xs : ag) (v : Int) (i : Int) : LSt := ⟨aw 5 [(0, .os 0 0), (1, I v), (7, I (Int.ofNat xs.length)), (8, I i)], B9 z xs, 2⟩
theorem ZV (z : Bool) (xs : ag) (v : Int) : aC j9 f252 5 [(2, [0, 1, 7, 8])] [.os 0 0, I v] (B9 z xs) ah = (hlp j9 ja) Ts _ (M9 z xs v 0) (aW 0 (bt j9 ja [2] (hlp j9 ja) (cR (cR Gx)) (bA prog 1 f252.results.toList ah))) := (bI [2] ja rfl).trans (by obtain ⟨hl, h⟩ := bw j9 ja; rw [h]; kernel_rfl)
theorem ZW (z : Bool) (xs : ag) (v : Int) (i : Int) (n : Nat) {R : Type} (k : AEx -> LSt -> Option R) : lp j9 ja Ts (n + 1) (M9 z xs v i) k = bif decide (i < Int.ofNat xs.length) then (idx xs i).bind fun v1 => (xs[i.toNat]?).bind fun v2 => bif v == v2 then k AEx.ret { fr := aw 5 [(0, AV.os 0 0), (1, I v), (4, I i), (5, I i), (7, I (Int.ofNat xs.length)), (8, I i), (9, B true), (10, I i), (11, I v), (12, AV.os 0 0), (13, I i), (14, AV.oe 0 0 i.toNat), (15, I v2), (16, B true), (17, I i)], hp := [(0, al.arr 3 (af) 0 z xs)], nx := 2 } else lp j9 ja Ts n (M9 z xs v (i64.wrap (i + 1))) k else k (AEx.exit 0) { fr := aw 5 [(0, AV.os 0 0), (1, I v), (7, I (Int.ofNat xs.length)), (8, I i), (9, B false)], hp := [(0, al.arr 3 (af) 0 z xs)], nx := 2 } := by kernel_rfl
theorem Tt {z : Bool} {xs : ag} {v : Int} (hl : xs.length <= maxLen) : aC j9 f252 5 [(2, [0, 1, 7, 8])] [.os 0 0, I v] (B9 z xs) ah = some (.ret [I (bu (fun w => v == w) xs)], B9 z xs) := by
 rw [ZV]
 have hs := fun (i : Int) (n : Nat) => ZW z xs v i n (aW 0 (bt j9 ja [2] (hlp j9 ja) (cR (cR Gx)) (bA prog 1 f252.results.toList ah)))
 simp only [adT] at hs
 have h := fM (T := fun n s => lp j9 ja Ts n s (aW 0 (bt j9 ja [2] (hlp j9 ja) (cR (cR Gx)) (bA prog 1 f252.results.toList ah)))) (xs := xs) (st := fun i => M9 z xs v i) hl hs
 unfold M9 B9 at h
 refine h.trans ?_
 unfold bu
 cases hq : xs.findIdx? (fun w => v == w) with
 | none => show _ = _; kernel_rfl
 | some i =>
  obtain ⟨hi, _⟩ := List.findIdx?_eq_some_iff_getElem.1 hq
  simp only [List.getElem?_eq_getElem hi, aA]
  show _ = _
  kernel_rfl
def ZX : List AV -> LHp -> Tq
 | [.os 0 0, .d zI v], [(0, .arr 3 zI 0 z xs)] => .br (decide (xs.length <= maxLen)) (.leaf (.ret [I (bu (fun w => v == w) xs)]) (B9 z xs)) .no
 | _, _ => .no
theorem Tu : bE 252 (ao ZX) := by
 refine cj jR bX func252 call252 (depth := 5) (live := [(2, [0, 1, 7, 8])]) (by decide +kernel) rfl fun args hs p h => ?_
 unfold ZX at h
 split at h
 ·obtain ⟨hl, h⟩ := Tq.br_no h
  cases h
  have hl := aZ hl
  exact Tt hl
 ·cases h
noncomputable def gCi : Env := XZ.add 252 (ao ZX)
theorem Na : gCi.Good := pz.add Tu
theorem ZY (z : Bool) (xs : ag) (v : Int) : aC gCi f212 4 [] [.os 0 0, I v] (B9 z xs) ah = bif decide (xs.length <= 9223372036854775807) then some (aq.ret [B (decide (bu (fun w => v == w) xs >= 0))], [(0, al.arr 3 (af) 0 z xs)]) else none := by kernel_rfl
theorem ZZ (v : Int) : aC XZ f212 4 [] [.nils, I v] [] ah = ay [B false] := by kernel_rfl
def Z0 : List AV -> LHp -> Tq
 | [.os 0 0, .d zI v], [(0, .arr 3 zI 0 z xs)] => .br (decide (xs.length <= maxLen)) (.leaf (.ret [B (xs.any fun w => v == w)]) (B9 z xs)) .no
 | _, _ => .no
def Z1 : List AV -> LHp -> Tq
 | [.nils, .d zI _], [] => .leaf (.ret [B false]) []
 | _, _ => .no
theorem afe {α : Type} {p : α -> Bool} {ws : List α} : decide (bu p ws >= 0) = ws.any p := pG
theorem Tv : bE 212 (ao Z0) := by
 have h1 := bS (d := 4) (l := []) Na func212 call212
 refine aO fun args hs ae aF h' => ?_
 unfold Z0 at h'
 split at h'
 ·refine h1.okC ((ZY _ _ _).trans ?_)
  rw [afe]
  exact h'
 ·cases h'
theorem Tw : bE 212 (ao Z1) := by
 have h1 : bE 212 (au XZ f212 4 []) := FW
 refine aO fun args hs ae aF h' => ?_
 unfold Z1 at h'
 split at h'
 ·exact h1.okC ((ZZ _).trans h')
 ·cases h'
def ctF (args : List AV) (hs : LHp) : Tq := orT (Z1 args hs) (Z0 args hs)
theorem Z2 : bE 212 (ao ctF) := jO Tw Tv
def vI (k r : Int) : Bool := decide (i64.wrap (0 - r) <= k) && decide (k < r)
def lD (k r : Int) : Int := bif decide (k < 0) then i64.wrap (k + r) else k
theorem Z3 (k r : Int) : aC XY f149 5 [] [I k, I r] [] ah = bif decide (i64.wrap (0 - r) <= k) then bif !decide (k < r) then aV else bif decide (k < 0) then ay [I (i64.wrap (k + r))] else ay [I k] else aV := by kernel_rfl
def IY : List AV -> LHp -> Tq
 | [.d zI k, .d zI r], [] => .br (vI k r) (.leaf (.ret [I (lD k r)]) []) (.leaf (.panic 131 4) [])
 | _, _ => .no
theorem sh : bE 149 (ao IY) := by
 have h2 : bE 149 (au XY f149 5 []) := FV
 refine aO fun args hs ae aF h' => ?_
 unfold IY at h'
 split at h'
 ·rename_i k r
  refine h2.okC ((Z3 k r).trans (Eq.trans ?_ h'))
  unfold vI lD
  simp only [Tq.run]
  cases decide (i64.wrap (0 - r) <= k) with
  | false => rfl
  | true =>
   cases decide (k < r) with
   | false => rfl
   | true => cases decide (k < 0) <;> rfl
 ·cases h'
noncomputable def Wp : Code := bD f211
noncomputable def yM : Code := cL (cL (cR (cL (cR (cR Wp)))))
noncomputable def iq : Cfg := ⟨29, 5, 0, [(3, [1, 5, 9, 10, 11])], true⟩
def gW (T : Nat) (xs : ag) : Option (aq × LHp) := match xs with
 | [] => some (.ret [.nils], [])
 | x :: r => some (.ret [.os 0 0], [(0, .arr T af 0 false (x :: r))])
theorem jV (T : Nat) (xs : ag) : dj (.slice af) (gW T xs) = some (.ret [.d (.slice af) xs], []) := by cases xs <;> rfl
theorem Ca (T K : Nat) (xs : ag) : dj (.slice af) (bif decide (xs = []) then ay [AV.emp] else bif decide (xs.length <= K) then some (aq.ret [AV.os 0 0], [(0, al.arr T af 0 false xs)]) else none) = (Tq.br (decide (xs.length <= K)) (dat (.slice af) xs) .no).run ah := by
 cases xs with
 | nil => rfl
 | cons x r =>
  simp only [Tq.run]
  show dj _ (bif decide ((x :: r).length <= K) then _ else _) = _
  cases decide ((x :: r).length <= K) <;> rfl
theorem jW {aa : bk} (h : aD aa = true) (name : aj) {ot : ag} (ho : ot.length <= 2147483648) : (ai aa name ot).length <= 2147483648 := by
 unfold ai
 cases hf : aa.find? (gZ name 7) with
 | none => exact ho
 | some a => exact (il h (List.mem_of_find?_eq_some hf)).2.2
def Z4 : List AV -> LHp -> Tq
 | [.d Y2 (_, _, _, _, aa, _), .d .str name, .d zS ot], [] => .br (aD aa) (.br (decide (ot.length <= 2147483648)) (dat (.slice af) (ai aa name ot)) .no) .no
 | _, _ => .no
theorem Tx : bE 25 (ao Z4) := by
 have h1 := bS (d := 5) (l := []) uw func25 call25
 refine aO fun args hs ae aF h' => ?_
 unfold Z4 at h'
 split at h'
 ·rename_i op nm ins out aa _ name ot
  obtain ⟨hs, h2⟩ := Tq.br_no h'
  obtain ⟨hb, h3⟩ := Tq.br_no h2
  have hb := aZ hb
  have hlen := bQ hs
  refine h1.okO (.slice af) (Eq.trans ?_ h3)
  refine Eq.trans (congrArg (dj _) (Y9 op nm ins out aa name ot)) ?_
  rw [aE (show aa.length <= 9223372036854775807 by omega), ak, ku]
  have hL := jW hs name hb
  unfold ai at hL ⊢
  change dj _ (bif (aa.find? (gZ name 7)).isNone then _ else (aa.find? (gZ name 7)).bind _) = _
  cases hf : aa.find? (gZ name 7) with
  | none =>
   refine (Ca _ _ _).trans ?_
   rw [aE hb]
   rfl
  | some a =>
   rw [hf] at hL
   refine (Ca _ _ _).trans ?_
   rw [aE hL]
   rfl
 ·cases h'
noncomputable def uC : FnE := cU [(Y2), .str, .slice af] (ao Z4)
theorem iF : bE 25 uC := bF Tx
def Eu (n i : Int) : LSt := { fr := aw 4 [(3, AV.nils), (5, I n), (6, I i)], hp := [], nx := 0 }
def IZ (o : ag) (n i : Int) : LSt := { fr := aw 4 [(3, AV.os 0 0), (5, I n), (6, I i)], hp := [(0, .arr 2 af 0 false o)], nx := 1 }
theorem Nb (m i : Int) (n : Nat) {R : Type} (k : AEx -> LSt -> Option R) : lp j9 ij yH (n + 1) (Eu m i) k = bif decide (i < m) then lp j9 ij yH n (IZ [i] m (i64.wrap (i + 1))) k else k (AEx.exit 0) { fr := aw 4 [(3, AV.nils), (5, I m), (6, I i), (7, B false)], hp := [], nx := 0 } := by kernel_rfl
theorem Nc (c : Int) (o : ag) (m i : Int) (n : Nat) {R : Type} (k : AEx -> LSt -> Option R) : lp j9 ij yH (n + 1) (IZ (c :: o) m i) k = bif decide (i < m) then (app (c :: o) [i]).bind fun v1 => lp j9 ij yH n (IZ v1 m (i64.wrap (i + 1))) k else k (AEx.exit 0) { fr := aw 4 [(3, AV.os 0 0), (5, I m), (6, I i), (7, B false)], hp := [(0, al.arr 2 (af) 0 false (c :: o))], nx := 1 } := by kernel_rfl
noncomputable def nG : Env := (IJ.add 149 (ao IY)).add 212 (ao ctF)
theorem wY : nG.Good := (dY.add sh).add Z2
def pH (l : ag) (r i : Int) : LSt := { fr := aw 5 [(1, I r), (5, .nils), (9, .d (.slice af) l), (10, I (Int.ofNat l.length)), (11, I i)], hp := [], nx := 0 }
noncomputable def KAx : AEx -> LSt -> Option (aq × LHp) := (aW 0 (bt nG iq [3] (hlp nG iq) (cR (cR (cR Wp))) (bA prog 0 f211.results.toList ah)))
theorem Nd (l : ag) (r : Int) : aC nG f211 5 [(3, [1, 5, 9, 10, 11])] [.d (.slice af) l, I r] [] ah = (hlp nG iq) yM _ (pH l r 0) KAx := (bI [3] iq rfl).trans (by obtain ⟨hl, h⟩ := bw nG iq; rw [h]; kernel_rfl)
def uD (o l : ag) (r i : Int) : LSt := { fr := aw 5 [(1, I r), (5, .os 0 0), (9, .d (.slice af) l), (10, I (Int.ofNat l.length)), (11, I i)], hp := [(0, .arr 3 af 0 false o)], nx := 1 }
theorem Nf (l : ag) (r i : Int) (n : Nat) {R : Type} (k : AEx -> LSt -> Option R) : lp nG iq yM (n + 1) (pH l r i) k = bif decide (i < Int.ofNat l.length) then (idx l i).bind fun v1 => bif vI v1 r then lp nG iq yM n (uD [lD v1 r] l r (i64.wrap (i + 1))) k else k (AEx.panic 131 4) { fr := aw 5 [(1, I r), (5, AV.nils), (7, I v1), (9, AV.d (af).slice l), (10, I (Int.ofNat l.length)), (11, I i), (12, B true), (13, AV.ip (af) v1), (14, I v1), (15, I v1), (16, I r)], hp := [], nx := 0 } else k (AEx.exit 0) { fr := aw 5 [(1, I r), (5, AV.nils), (9, AV.d (af).slice l), (10, I (Int.ofNat l.length)), (11, I i), (12, B false)], hp := [], nx := 0 } := by kernel_rfl
theorem Ng (c : Int) (o l : ag) (r i : Int) (n : Nat) {R : Type} (k : AEx -> LSt -> Option R) : lp nG iq yM (n + 1) (uD (c :: o) l r i) k = bif decide (i < Int.ofNat l.length) then (idx l i).bind fun v1 => bif vI v1 r then bif decide ((c :: o).length <= 9223372036854775807) then bif !!(c :: o).any fun w => lD v1 r == w then k (AEx.panic 131 4) { fr := aw 5 [(1, I r), (5, AV.os 0 0), (7, I v1), (8, I (lD v1 r)), (9, AV.d (af).slice l), (10, I (Int.ofNat l.length)), (11, I i), (12, B true), (13, AV.ip (af) v1), (14, I v1), (15, I v1), (16, I r), (17, I (lD v1 r)), (18, AV.os 0 0), (19, I (lD v1 r)), (20, B ((c :: o).any fun w => lD v1 r == w)), (21, B !(c :: o).any fun w => lD v1 r == w)], hp := [(0, al.arr 3 (af) 0 false (c :: o)), (0, al.arr 3 (af) 0 false (c :: o))], nx := 2 } else (app (c :: o) [lD v1 r]).bind fun v5 => lp nG iq yM n (uD v5 l r (i64.wrap (i + 1))) k else none else k (AEx.panic 131 4) { fr := aw 5 [(1, I r), (5, AV.os 0 0), (7, I v1), (9, AV.d (af).slice l), (10, I (Int.ofNat l.length)), (11, I i), (12, B true), (13, AV.ip (af) v1), (14, I v1), (15, I v1), (16, I r)], hp := [(0, al.arr 3 (af) 0 false (c :: o))], nx := 1 } else k (AEx.exit 0) { fr := aw 5 [(1, I r), (5, AV.os 0 0), (9, AV.d (af).slice l), (10, I (Int.ofNat l.length)), (11, I i), (12, B false)], hp := [(0, al.arr 3 (af) 0 false (c :: o))], nx := 1 } := by kernel_rfl
def jy (N : Nat) : ag := (List.range N).map Int.ofNat
def stU (m : Int) (i : Int) (o : ag) : LSt := match o with
 | [] => Eu m i
 | c :: o => IZ (c :: o) m i
theorem Nh {N : Nat} (hN : N <= 2147483648) : lp j9 ij yH fu (Eu (N : Int) 0) KUp = gW 2 (jy N) := by
 have hm : maxLen = 9223372036854775807 := by decide
 refine (iE (N := N) (T := fun n s => lp j9 ij yH n s KUp) (st := stU (N : Int)) (f := fun o i => .go (o ++ [(i : Int)])) (fin := gW 2) (fun i o => o = jy i) (by omega) ?_ ?_ (a := []) rfl).trans ?_
 ·intro i o n hI hi hw hd
  subst hI
  refine .inl ⟨_, rfl, by simp [jy, List.range_succ], ?_⟩
  have hlen : (jy i).length = i := by simp [jy]
  cases ho : jy i with
  | nil =>
   show lp _ _ _ (n + 1) (Eu (N : Int) (i : Int)) _ = _
   rw [Nb, aE (show (i : Int) < (N : Int) by omega), ak, hw]
   rfl
  | cons c r =>
   have lA : (c :: r).length + [((i : Nat) : Int)].length <= lim := by rw [← ho, hlen, List.length_singleton, show lim = 4294967296 from rfl]; omega
   show lp _ _ _ (n + 1) (IZ (c :: r) (N : Int) (i : Int)) _ = _
   rw [Nc, aE (show (i : Int) < (N : Int) by omega), ak, fB lA, aA, hw]
   rfl
 ·intro o n hI hd
  cases o with
  | nil =>
   show lp _ _ _ (n + 1) (Eu (N : Int) (N : Int)) _ = _
   rw [Nb, de (show ¬ ((N : Int) < (N : Int)) by omega), ax]
   show _ = _
   kernel_rfl
  | cons c r =>
   show lp _ _ _ (n + 1) (IZ (c :: r) (N : Int) (N : Int)) _ = _
   rw [Nc, de (show ¬ ((N : Int) < (N : Int)) by omega), ax]
   show _ = _
   kernel_rfl
 ·have : ∀ (l : List Nat) (o : ag), cm (fun o i => Nx.go (R := aq × LHp) (o ++ [((i : Nat) : Int)])) (gW 2) l o = gW 2 (o ++ l.map Int.ofNat) := by
   intro l
   induction l with
   | nil => intro o; rw [cm, List.map_nil, List.append_nil]
   | cons a l ih => intro o; rw [cm]; simp only; rw [ih, List.append_assoc]; rfl
  rw [this]
  rfl
theorem Wq (m : Int) : hlp j9 ij yH (aq × LHp) (Eu m 0) KUp = lp j9 ij yH fu (Eu m 0) KUp := rfl
def Z5 : List AV -> LHp -> Tq
 | [.d zI m], [] => .br (decide (0 <= m /\ m <= 2147483648)) (dat (.slice af) (jy m.toNat)) .no
 | _, _ => .no
theorem Tz : bE 210 (ao Z5) := by
 have h1 := bS (d := 4) (l := [(3, [3, 5, 6])]) jR func210 call210
 refine aO fun args hs ae aF h' => ?_
 unfold Z5 at h'
 split at h'
 ·rename_i m
  obtain ⟨hb, h2⟩ := Tq.br_no h'
  obtain ⟨h3, h4⟩ := aZ hb
  obtain ⟨N, rfl⟩ := Int.eq_ofNat_of_zero_le h3
  refine h1.okO (.slice af) (Eq.trans ?_ h2)
  refine Eq.trans (congrArg (dj _) ((ME _).trans ((Wq _).trans (Nh (Int.ofNat_le.1 h4))))) ?_
  exact jV _ _
 ·cases h'
noncomputable def Z6 : FnE := cU [af] (ao Z5)
theorem Gy : bE 210 Z6 := bF Tz
def me (l : ag) (r : Int) : ag := l.map fun a => lD a r
def fD (r : Int) : List Int -> List Int -> Bool
 | [], _ => true
 | a :: l, o => vI a r && (!(o.any fun w => lD a r == w) && fD r l (o ++ [lD a r]))
def afg (l : ag) (r : Int) (i : Int) (o : ag) : LSt := match o with
 | [] => pH l r i
 | c :: o => uD (c :: o) l r i
def axN (r : Int) (o : ag) (a : Int) : Nx (ag) (aq × LHp) := bif vI a r && !(o.any fun w => lD a r == w) then .go (o ++ [lD a r]) else .stop (some (.panic 131 4, []))
theorem Gz (r : Int) : ∀ (l o : ag), cm (axN r) (gW 3) l o = bif fD r l o then gW 3 (o ++ l.map fun a => lD a r) else some (.panic 131 4, [])
 | [], o => by rw [cm, fD, List.map_nil, List.append_nil]; rfl
 | a :: l, o => by
  rw [cm, fD]
  unfold axN
  cases vI a r with
  | false => rfl
  | true =>
   cases o.any fun w => lD a r == w with
   | true => rfl
   | false =>
    show cm (axN r) _ l _ = _
    rw [Gz r l, List.append_assoc]
    rfl
theorem Ni {l : ag} {r : Int} (hl : l.length <= 2147483648) : lp nG iq yM fu (pH l r 0) KAx = bif fD r l [] then gW 3 (l.map fun a => lD a r) else some (.panic 131 4, []) := by
 have hm : maxLen = 9223372036854775807 := by decide
 refine (dD (T := fun n s => lp nG iq yM n s KAx) (st := afg l r) (f := axN r) (fin := gW 3) (fun i o => o.length = i) (by omega) ?_ ?_ (a := []) rfl).trans (Gz r l [])
 ·intro i o x n hI hi gx gi hw hd
  unfold axN
  cases o with
  | nil =>
   show (∃ a', _ /\ _ /\ lp _ _ _ (n + 1) (pH l r (i : Int)) _ = _) \/ (∃ r', _ /\ lp _ _ _ (n + 1) (pH l r (i : Int)) _ = _)
   rw [Nf, hd, ak, gi, aA, hw]
   cases vI x r with
   | true => exact .inl ⟨_, rfl, by simp only [List.length_append, List.length_singleton, hI], rfl⟩
   | false => exact .inr ⟨_, rfl, by show _ = _; kernel_rfl⟩
  | cons c o =>
   have lA : (c :: o).length + [lD x r].length <= lim := by rw [hI, List.length_singleton, show lim = 4294967296 from rfl]; omega
   show (∃ a', _ /\ _ /\ lp _ _ _ (n + 1) (uD (c :: o) l r (i : Int)) _ = _) \/ (∃ r', _ /\ lp _ _ _ (n + 1) (uD (c :: o) l r (i : Int)) _ = _)
   rw [Ng, hd, ak, gi, aA, hw, fB lA, aE (show (c :: o).length <= 9223372036854775807 by rw [hI]; omega), ak]
   cases vI x r with
   | false => exact .inr ⟨_, rfl, by show _ = _; kernel_rfl⟩
   | true =>
    cases hq : (c :: o).any fun w => lD x r == w with
    | false => exact .inl ⟨_, rfl, by simp only [List.length_append, List.length_singleton, hI], rfl⟩
    | true => exact .inr ⟨_, rfl, by show _ = _; kernel_rfl⟩
 ·intro o n hI hd
  cases o with
  | nil =>
   show lp _ _ _ (n + 1) (pH l r (l.length : Int)) _ = _
   rw [Nf, hd, ax]
   show _ = _
   kernel_rfl
  | cons c o =>
   show lp _ _ _ (n + 1) (uD (c :: o) l r (l.length : Int)) _ = _
   rw [Ng, hd, ax]
   show _ = _
   kernel_rfl
theorem Wr (l : ag) (r : Int) : hlp nG iq yM (aq × LHp) (pH l r 0) KAx = lp nG iq yM fu (pH l r 0) KAx := rfl
def Z7 : List AV -> LHp -> Tq
 | [.d zS l, .d zI r], [] => .br (decide (l.length <= 2147483648)) (.br (fD r l []) (dat (.slice af) (me l r)) (pnc 131 4)) .no
 | _, _ => .no
theorem TA : bE 211 (ao Z7) := by
 have h1 := bS (d := 5) (l := [(3, [1, 5, 9, 10, 11])]) wY func211 call211
 refine aO fun args hs ae aF h' => ?_
 unfold Z7 at h'
 split at h'
 ·rename_i l r
  obtain ⟨hb, h2⟩ := Tq.br_no h'
  refine h1.okO (.slice af) (Eq.trans ?_ h2)
  refine Eq.trans (congrArg (dj _) ((Nd _ _).trans ((Wr _ _).trans (Ni (aZ hb))))) ?_
  simp only [Tq.run]
  cases fD r l [] with
  | true => exact jV _ _
  | false => rfl
 ·cases h'
noncomputable def Z8 : FnE := cU [.slice af, af] (ao Z7)
theorem GA : bE 211 Z8 := bF TA
def uE (op : aj) (t : Int) : Option (aq × LHp) := bif t == 1 then bif op == Lj then ay [I 2147483648, I 0] else bif op == Iz then ay [I 0, I 0] else bif op == QG then ay [I 0, I 0] else bif op == QH then ay [I 0, I 0] else bif op == QI then ay [I 0, I 0] else bif op == [69, 120, 112] then ay [I 1065353216, I 0] else bif op == QJ then ay [I 1056964608, I 0] else bif op == QK then ay [I 0, I 0] else ay [I 0, I 1] else ay [I 0, I 1]
def mP (op : aj) (t : Int) : Option (aq × LHp) := bif op == Iz then bif t == 6 then ay [I 0, I 0] else bif t == 7 then ay [I 0, I 0] else (uE op t) else (uE op t)
def uF (op : aj) (t : Int) : Option (aq × LHp) := bif op == Iz then bif t == 6 then (mP op t) else bif t == 7 then (mP op t) else (mP op t) else (mP op t)
def uG (op : aj) (t : Int) : Option (aq × LHp) := bif op == Lj then bif t == 6 then bif t == 6 then ay [I 0, I 0] else ay [I 0, I 0] else bif t == 7 then bif t == 6 then ay [I 0, I 0] else ay [I 0, I 0] else (uF op t) else (uF op t)
theorem Z9 (op : aj) (t : Int) : aC XX f146 7 [] [.d .str op, I t, I 0] [] ah = bif !bz t 0 then ay [I 0, I 1] else bif op == QL then ay [I 0, I 0] else bif op == [78, 111, 116] then bif t == 9 then ay [I 1, I 0] else (uG op t) else (uG op t) := by kernel_rfl
def qD (op : aj) (t : Int) : Option (aq × LHp) := bif op == K8 then bif t == 6 then ay [I 0, I 0] else ay [I 0, I 0] else bif op == QD then bif t == 6 then ay [I 0, I 0] else ay [I 0, I 0] else bif op == K9 then bif t == 6 then ay [I 0, I 0] else ay [I 0, I 0] else bif op == La then ay [I 0, I 7] else bif op == Lb then ay [I 0, I 0] else bif op == QE then ay [I 0, I 0] else bif op == vF then ay [I 1, I 0] else bif op == ym then ay [I 0, I 0] else bif op == yo then ay [I 0, I 0] else ay [I 0, I 1]
theorem TB (op : aj) (t : Int) : aC XW f111 7 [] [.d .str op, I t, I 0, I 0] [] ah = bif !bz t 0 then ay [I 0, I 1] else bif !bz t 0 then ay [I 0, I 1] else bif t == 6 then (qD op t) else bif t == 7 then (qD op t) else bif t == 1 then bif op == K8 then ay [I 0, I 0] else bif op == QD then ay [I 0, I 0] else bif op == K9 then ay [I 0, I 0] else bif op == La then ay [I 2143289344, I 0] else bif op == vF then ay [I 1, I 0] else bif op == ym then ay [I 0, I 0] else bif op == yo then ay [I 0, I 0] else bif op == Lb then ay [I 0, I 0] else bif op == QE then ay [I 0, I 0] else ay [I 0, I 1] else bif op == V9 then ay [I 0, I 0] else bif op == [79, 114] then ay [I 0, I 0] else bif op == Wa then ay [I 0, I 0] else bif op == vF then ay [I 1, I 0] else ay [I 0, I 1] := by kernel_rfl
theorem Nj {α : Type} {c : Bool} {a b : Option α} (h1 : a.isSome = true) (h2 : b.isSome = true) : (bif c then a else b).isSome = true := by
 cases c with
 | true => exact h1
 | false => exact h2
def nY (r : Option (aq × LHp)) : Option (Int × Int) := match r with
 | some (.ret [.d (.int .i64) a, .d (.int .i64) b], []) => some (a, b)
 | _ => none
theorem uH {r : Option (aq × LHp)} (h : (nY r).isSome = true) : r = some (.ret [I ((nY r).getD (0, 0)).1, I ((nY r).getD (0, 0)).2], []) := by
 unfold nY at h ⊢
 split at h
 ·rfl
 ·cases h
theorem wZ (c : Bool) (a b : Option (aq × LHp)) : nY (bif c then a else b) = bif c then nY a else nY b := by cases c <;> rfl
theorem w6 (a b : Int) : nY (some (.ret [I a, I b], [])) = some (a, b) := rfl
noncomputable def lQ (op : aj) (t : Int) : Int × Int := (nY (aC XX f146 7 [] [.d .str op, I t, I 0] [] ah)).getD (0, 0)
noncomputable def I0 (op : aj) (t : Int) : Int × Int := (nY (aC XW f111 7 [] [.d .str op, I t, I 0, I 0] [] ah)).getD (0, 0)
theorem TC (op : aj) (t : Int) : aC XX f146 7 [] [.d .str op, I t, I 0] [] ah = some (.ret [I (lQ op t).1, I (lQ op t).2], []) := by
 refine uH ?_
 rw [Z9]
 simp only [uE, mP, uF, uG]
 simp only [wZ, w6]
 repeat' (first | rfl | refine Nj ?_ ?_)
theorem Nk (op : aj) (t : Int) : aC XW f111 7 [] [.d .str op, I t, I 0, I 0] [] ah = some (.ret [I (I0 op t).1, I (I0 op t).2], []) := by
 refine uH ?_
 rw [TB]
 simp only [qD]
 simp only [wZ, w6]
 repeat' (first | rfl | refine Nj ?_ ?_)
noncomputable def TD : List AV -> LHp -> Tq
 | [.d .str op, .d zI t, .d zI x], [] => .br (x == 0) (.leaf (.ret [I (lQ op t).1, I (lQ op t).2]) []) .no
 | _, _ => .no
theorem GB : bE 146 (ao TD) := by
 have h1 : bE 146 (au XX f146 7 []) := FU
 refine aO fun args hs ae aF h' => ?_
 unfold TD at h'
 split at h'
 ·obtain ⟨hb, h2⟩ := Tq.br_no h'
  obtain rfl := eq_of_beq hb
  exact h1.okC ((TC _ _).trans h2)
 ·cases h'
noncomputable def Nl : List AV -> LHp -> Tq
 | [.d .str op, .d zI t, .d zI x, .d zI y], [] => .br (x == 0) (.br (y == 0) (.leaf (.ret [I (I0 op t).1, I (I0 op t).2]) []) .no) .no
 | _, _ => .no
theorem Nn : bE 111 (ao Nl) := by
 have h1 : bE 111 (au XW f111 7 []) := FT
 refine aO fun args hs ae aF h' => ?_
 unfold Nl at h'
 split at h'
 ·obtain ⟨hb, h2⟩ := Tq.br_no h'
  obtain ⟨hc, h3⟩ := Tq.br_no h2
  obtain rfl := eq_of_beq hb
  obtain rfl := eq_of_beq hc
  exact h1.okC ((Nk _ _).trans h3)
 ·cases h'
theorem fL {xs : ag} (h : aB xs = 0) : (∀ x ∈ xs, 1 <= x) /\ xs.length <= 6 /\ cG xs <= 65536 /\ aR xs = cG xs := by
 unfold aB at h
 unfold aR
 cases h1 : decide (bu (fun d => decide (d < 1)) xs >= 0) with
 | true => rw [h1] at h; exact absurd (show (4 : Int) = 0 from h) (by decide)
 | false =>
  rw [h1] at h
  cases h2 : decide (Int.ofNat xs.length > 6) with
  | true => rw [h2] at h; exact absurd (show (6 : Int) = 0 from h) (by decide)
  | false =>
   rw [h2] at h
   cases h3 : qz xs with
   | true => rw [h3] at h; exact absurd (show (6 : Int) = 0 from h) (by decide)
   | false =>
    refine ⟨fun x hx => ?_, ?_, ?_, rfl⟩
    ·rw [pf, List.any_eq_false] at h1
     have := h1 x hx
     simp only [decide_eq_true_eq] at this
     omega
    ·have := rq h2
     have e : Int.ofNat xs.length = (xs.length : Int) := rfl
     omega
    ·have := rq h3
     omega
theorem EJ {t : Int} {xd dt : ag} (h : gG t xd dt = 0) : bz t 0 = true /\ aB xd = 0 /\ (dt.length : Int) = aR xd /\ ∀ x ∈ dt, bz t x = true := by
 unfold gG at h
 cases h1 : bz t 0 with
 | false => rw [h1] at h; exact absurd (show (5 : Int) = 0 from h) (by decide)
 | true =>
  rw [h1] at h
  cases h2 : aB xd != 0 with
  | true =>
   rw [h2] at h
   have h' : aB xd = 0 := h
   rw [h'] at h2
   exact absurd h2 (by decide)
  | false =>
   rw [h2] at h
   cases h3 : Int.ofNat dt.length != aR xd with
   | true => rw [h3] at h; exact absurd (show (4 : Int) = 0 from h) (by decide)
   | false =>
    rw [h3] at h
    cases h4 : dt.any (fun x => !bz t x) with
    | true => rw [h4] at h; exact absurd (show (4 : Int) = 0 from h) (by decide)
    | false =>
     refine ⟨rfl, by simpa using h2, by simpa using h3, fun x hx => ?_⟩
     rw [List.any_eq_false] at h4
     simpa using h4 x hx
structure ajI (a b c d : Int) : Prop where
 a1 : 1 <= a
 b1 : 1 <= b
 c1 : 1 <= c
 d1 : 1 <= d
 ab : 1 <= a * b /\ a * b <= 65536
 cd : 1 <= c * d /\ c * d <= 65536
 all : a * b * (c * d) <= 65536
 c2 : c <= 65536
 d2 : d <= 65536
end
end Go.Proofs.XRT
