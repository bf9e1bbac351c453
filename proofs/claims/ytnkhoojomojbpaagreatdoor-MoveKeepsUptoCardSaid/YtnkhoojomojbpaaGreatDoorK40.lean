/- Functions that many laws reach, by what they answer: num.Check, shape.Count, pb.Check. -/
import Derived.Test.YtnkhoojomojbpaaGreatDoorK37
import Derived.Test.YtnkhoojomojbpaaGreatDoorK39
import Derived.Lib.SliceRun
import Derived.Lib.Walk
import Derived.Shelf.RegionOpenPlain
import Derived.Test.YtnkhoojomojbpaaGreatDoorProg
import Derived.WalkKit
set_option maxRecDepth 100000
set_option maxHeartbeats 4000000
namespace Go.Proofs.XRT
open Go.Vm Go Go.RowKit Go.Lib Tryz IntKind
noncomputable section
@[match_pattern] abbrev zI : Ty := .int .i64
@[match_pattern] abbrev zS : Ty := .slice (.int .i64)
abbrev zl1 : List UInt8 := [71, 108, 111, 98, 97, 108, 65, 118, 101, 114, 97, 103, 101, 80, 111, 111, 108]
abbrev QH : List UInt8 := [65, 100, 100]
abbrev QI : List UInt8 := [83, 117, 98]
abbrev QJ : List UInt8 := [77, 117, 108]
abbrev QK : List UInt8 := [68, 105, 118]
abbrev QL : List UInt8 := [77, 97, 120]
abbrev QM : List UInt8 := [77, 105, 110]
abbrev V7 : List UInt8 := [65, 110, 100]
abbrev V8 : List UInt8 := [88, 111, 114]
abbrev uP : List UInt8 := [69, 113, 117, 97, 108]
abbrev xH : List UInt8 := [76, 101, 115, 115]
abbrev xI : List UInt8 := [71, 114, 101, 97, 116, 101, 114]
abbrev KY : List UInt8 := [77, 97, 116, 77, 117, 108]
abbrev qJ : List UInt8 := [87, 104, 101, 114, 101]
abbrev KZ : List UInt8 := [67, 108, 105, 112]
abbrev DU : List UInt8 := [67, 97, 115, 116]
abbrev DV : List UInt8 := [82, 101, 100, 117, 99, 101, 83, 117, 109]
abbrev DW : List UInt8 := [82, 101, 100, 117, 99, 101, 77, 97, 120]
abbrev K0 : List UInt8 := [82, 101, 100, 117, 99, 101, 77, 101, 97, 110]
abbrev xJ : List UInt8 := [65, 114, 103, 77, 97, 120]
abbrev xK : List UInt8 := [82, 101, 115, 104, 97, 112, 101]
abbrev xL : List UInt8 := [69, 120, 112, 97, 110, 100]
abbrev xM : List UInt8 := [84, 114, 97, 110, 115, 112, 111, 115, 101]
abbrev uQ : List UInt8 := [67, 111, 110, 99, 97, 116]
abbrev uR : List UInt8 := [83, 108, 105, 99, 101]
abbrev oG : List UInt8 := [71, 97, 116, 104, 101, 114]
abbrev uS : List UInt8 := [80, 97, 100]
abbrev xN : List UInt8 := [83, 113, 117, 101, 101, 122, 101]
abbrev xO : List UInt8 := [85, 110, 115, 113, 117, 101, 101, 122, 101]
abbrev AQ : List UInt8 := [70, 108, 97, 116, 116, 101, 110]
abbrev K1 : List UInt8 := [83, 111, 102, 116, 109, 97, 120]
abbrev Ih : List UInt8 := [71, 101, 109, 109]
abbrev AR : List UInt8 := [67, 111, 110, 118]
abbrev K2 : List UInt8 := [77, 97, 120, 80, 111, 111, 108]
abbrev K3 : List UInt8 := [65, 118, 101, 114, 97, 103, 101, 80, 111, 111, 108]
abbrev K4 : List UInt8 := [66, 97, 116, 99, 104, 78, 111, 114, 109, 97, 108, 105, 122, 97, 116, 105, 111, 110]
abbrev nO : List UInt8 := [67, 111, 110, 115, 116, 97, 110, 116]
abbrev QN : List UInt8 := [118, 97, 108, 117, 101]
abbrev K5 : List UInt8 := [78, 101, 103]
abbrev Ii : List UInt8 := [65, 98, 115]
abbrev QO : List UInt8 := [82, 101, 108, 117]
abbrev QP : List UInt8 := [83, 113, 114, 116]
abbrev QQ : List UInt8 := [70, 108, 111, 111, 114]
abbrev QR : List UInt8 := [83, 105, 103, 109, 111, 105, 100]
abbrev QS : List UInt8 := [84, 97, 110, 104]
abbrev QT : List UInt8 := [73, 100, 101, 110, 116, 105, 116, 121]
abbrev qK : List UInt8 := [115, 104, 97, 112, 101]
abbrev cG : List UInt8 := [97, 120, 105, 115]
abbrev xP : List UInt8 := [107, 101, 101, 112, 100, 105, 109, 115]
abbrev iu : List UInt8 := [97, 120, 101, 115]
abbrev oH : List UInt8 := [115, 116, 97, 114, 116, 115]
abbrev dq : List UInt8 := [112, 97, 100, 115]
abbrev kz : List UInt8 := [115, 116, 114, 105, 100, 101, 115]
abbrev kA : List UInt8 := [100, 105, 108, 97, 116, 105, 111, 110, 115]
abbrev iv : List UInt8 := [107, 101, 114, 110, 101, 108, 95, 115, 104, 97, 112, 101]
abbrev lZ : List UInt8 := [103, 114, 111, 117, 112]
abbrev oI : List UInt8 := [116, 114, 97, 110, 115, 65]
abbrev oJ : List UInt8 := [116, 114, 97, 110, 115, 66]
abbrev xQ : List UInt8 := [112, 101, 114, 109]
@[match_pattern] abbrev Y0 : Ty := .pair (.int .i64) (.pair (.slice (.int .i64)) (.pair (.slice (.int .i64)) .unit))
@[match_pattern] abbrev Y1 : Ty := .pair .str (.pair (.int .i64) (.pair (.int .i64) (.pair (.int .i64) (.pair .str (.pair Y0 (.pair (.slice (.int .i64)) .unit))))))
@[match_pattern] abbrev Y2 : Ty := .pair .str (.pair .str (.pair (.slice .str) (.pair .str (.pair (.slice Y1) .unit))))
@[match_pattern] abbrev Y3 : Ty := .pair .str (.pair (.int .i64) (.pair (.slice (.int .i64)) .unit))
@[match_pattern] abbrev Y4 : Ty := .pair Y2 (.pair (.slice Y3) .unit)
@[match_pattern] abbrev Y5 : Ty := .pair (.int .i64) (.pair (.int .i64) (.pair .str .unit))
@[match_pattern] abbrev Y6 : Ty := .pair (.int .u8) (.pair (.int .u8) .unit)
theorem QU : dG prog 2 (.int .i64) := ⟨⟨_, _, Tryz.type2, rfl, by decide, rfl, rfl⟩, ⟨_, Tryz.underlying2, rfl⟩⟩
theorem ty3 : dG prog 3 (.int .i64) := ⟨⟨_, _, Tryz.type3, rfl, by decide, rfl, rfl⟩, ⟨_, Tryz.underlying3, rfl⟩⟩
theorem ty9 : dG prog 9 .str := ⟨⟨_, _, Tryz.type9, rfl, by decide, rfl, rfl⟩, ⟨_, Tryz.underlying9, rfl⟩⟩
theorem aiw : dG prog 25 Y2 := ⟨⟨_, _, Tryz.type25, rfl, by decide, rfl, rfl⟩, ⟨_, Tryz.underlying25, rfl⟩⟩
theorem aix : dG prog 31 (.slice (.int .i64)) := ⟨⟨_, _, Tryz.type31, rfl, by decide, rfl, rfl⟩, ⟨_, Tryz.underlying31, rfl⟩⟩
theorem aiy : dG prog 32 (.slice (.int .i64)) := ⟨⟨_, _, Tryz.type32, rfl, by decide, rfl, rfl⟩, ⟨_, Tryz.underlying32, rfl⟩⟩
theorem aiz : dG prog 34 Y0 := ⟨⟨_, _, Tryz.type34, rfl, by decide, rfl, rfl⟩, ⟨_, Tryz.underlying34, rfl⟩⟩
theorem aiA : dG prog 35 (.int .i64) := ⟨⟨_, _, Tryz.type35, rfl, by decide, rfl, rfl⟩, ⟨_, Tryz.underlying35, rfl⟩⟩
theorem aiB : dG prog 44 Y1 := ⟨⟨_, _, Tryz.type44, rfl, by decide, rfl, rfl⟩, ⟨_, Tryz.underlying44, rfl⟩⟩
theorem aiC : dG prog 47 Y3 := ⟨⟨_, _, Tryz.type47, rfl, by decide, rfl, rfl⟩, ⟨_, Tryz.underlying47, rfl⟩⟩
theorem aiD : dG prog 75 Y0 := ⟨⟨_, _, Tryz.type75, rfl, by decide, rfl, rfl⟩, ⟨_, Tryz.underlying75, rfl⟩⟩
theorem ad8 : dG prog 137 Y4 := ⟨⟨_, _, Tryz.type137, rfl, by decide, rfl, rfl⟩, ⟨_, Tryz.underlying137, rfl⟩⟩
theorem ad9 : dG prog 174 Y5 := ⟨⟨_, _, Tryz.type174, rfl, by decide, rfl, rfl⟩, ⟨_, Tryz.underlying174, rfl⟩⟩
theorem aea : dG prog 241 (.arr 10 .str) := ⟨⟨_, _, Tryz.type241, rfl, by decide, rfl, rfl⟩, ⟨_, Tryz.underlying241, rfl⟩⟩
theorem aeb : dG prog 269 (.int .u64) := ⟨⟨_, _, Tryz.type269, rfl, by decide, rfl, rfl⟩, ⟨_, Tryz.underlying269, rfl⟩⟩
theorem aec : dG prog 285 Y6 := ⟨⟨_, _, Tryz.type285, rfl, by decide, rfl, rfl⟩, ⟨_, Tryz.underlying285, rfl⟩⟩
def tys : List (Nat × Ty) := [(2, (.int .i64)), (3, (.int .i64)), (9, .str), (25, Y2), (31, (.slice (.int .i64))), (32, (.slice (.int .i64))), (34, Y0), (35, (.int .i64)), (44, Y1), (47, Y3), (75, Y0), (137, Y4), (174, Y5), (241, (.arr 10 .str)), (269, (.int .u64)), (285, Y6)]
theorem XM : xA prog tys := ⟨QU, ty3, ty9, aiw, aix, aiy, aiz, aiA, aiB, aiC, aiD, ad8, ad9, aea, aeb, aec, trivial⟩
def ones : List (ak) := [[73, 100, 101, 110, 116, 105, 116, 121], [78, 101, 103], [65, 98, 115], [78, 111, 116], [82, 101, 108, 117], [83, 113, 114, 116], [70, 108, 111, 111, 114], [69, 120, 112], [83, 105, 103, 109, 111, 105, 100], [84, 97, 110, 104]]
def gam : List (Nat × AV) := [(1, .ip (.arr 10 .str) ones)]
noncomputable def e0 : Env := ⟨prog, gam, tys, [], [], none⟩
theorem dJ : e0.Good := ⟨⟨Fi XM⟩, KN (by decide), (fun _ h => nomatch h), (fun _ h => nomatch h), (fun _ h => nomatch h)⟩
theorem bO : Tryz.prog.follows .mixedOrders = true := rfl
theorem bD {E : Env} (hE : E.Good) {f : FuncId} {fn : Func} {d : Nat} {l : List (Nat × List Nat)} (hf : E.P.funcs[f]? = some fn) (hc : ∀ (vs : Array Value) (w : World), (callFunc f vs).run E.P w = .ok (.enter f vs) w) (hP : E.P.follows .mixedOrders = true := by exact bO) (h1 : (match fn.body with | some c => b7 fn.ntmps c | none => true) = true := by decide +kernel) (h2 : Nat.blt fn.ntmps (2 ^ d) = true := by rfl) : FnE.OK E.P E.gam f (au E fn d l) := eM hE hP hf hc h1 h2
abbrev bg (n : Nat) (g : FnE) : Prop := FnE.OK e0.P e0.gam n g
abbrev bz (n : Nat) (g : FnE) : Prop := FnE.OK Tryz.prog (Env.gam e0) n g
abbrev bn := List Y1.den
abbrev b5 := List Y3.den
abbrev az (l : List AV) : Option (aq × LHp) := some (.ret l, [])
abbrev aV : Option (aq × LHp) := some (.panic 131 4, [])
noncomputable def x99 : FnE := au e0 f99 6 []
theorem XN : bz 99 x99 := bD dJ func99 call99
noncomputable def e1 : Env := e0.add 99 x99
theorem Fo : e1.Good := Env.Good.add dJ XN
noncomputable def x98 : FnE := au e1 f98 4 []
theorem XO : bz 98 x98 := bD Fo func98 call98
noncomputable def e2 : Env := e1.add 98 x98
theorem xR : e2.Good := Env.Good.add Fo XO
noncomputable def aed : FnE := au e2 f109 3 []
theorem QV : bz 109 aed := bD xR func109 call109
noncomputable def e3 : Env := e2.add 109 aed
theorem Fp : e3.Good := Env.Good.add xR QV
noncomputable def aee : FnE := au e3 f156 5 [(2, [0, 1, 7, 8])]
theorem QW : bz 156 aee := bD Fp func156 call156
noncomputable def e4 : Env := e3.add 156 aee
theorem Fq : e4.Good := Env.Good.add Fp QW
noncomputable def aef : FnE := au e4 f108 4 []
theorem QX : bz 108 aef := bD Fq func108 call108
noncomputable def e5 : Env := e4.add 108 aef
theorem Fs : e5.Good := Env.Good.add Fq QX
noncomputable def x60 : FnE := au e5 f60 5 [(7, [4, 12, 13, 14])]
theorem K6 : bz 60 x60 := bD Fs func60 call60
noncomputable def e6 : Env := e5.add 60 x60
theorem xS : e6.Good := Env.Good.add Fs K6
noncomputable def aeg : FnE := au e6 f160 4 []
theorem QY : bz 160 aeg := bD xS func160 call160
noncomputable def e7 : Env := e6.add 160 aeg
theorem Ft : e7.Good := Env.Good.add xS QY
noncomputable def x49 : FnE := au e7 f49 5 [(2, [0, 1, 7, 8])]
theorem XP : bz 49 x49 := bD Ft func49 call49
noncomputable def e8 : Env := e7.add 49 x49
theorem Fu : e8.Good := Env.Good.add Ft XP
noncomputable def aeh : FnE := au e8 f112 3 []
theorem QZ : bz 112 aeh := bD Fu func112 call112
noncomputable def e9 : Env := e8.add 112 aeh
theorem Fv : e9.Good := Env.Good.add Fu QZ
noncomputable def x64 : FnE := au e9 f64 5 []
theorem XQ : bz 64 x64 := bD Fv func64 call64
noncomputable def e10 : Env := e9.add 64 x64
theorem AS : e10.Good := Env.Good.add Fv XQ
theorem V9 (w : World) (c : Nat) : Calls prog 107 #[.slice none 0 c] w fun e w' => e = .returned (.slice none 0 0) /\ w' = w := by
 have q : ∀ (w : World) (a : Option Addr) (n c n' c' : Nat), (binOp .eql 31 (.slice a n c) (.slice none n' c')).run prog w = .ok (.bool a.isNone) w := fun w a n c n' c' => Go.Lib.run_eql_slice_nil w _ _ a n c n' c' Tryz.underlying31
 go_enter func107, Tryz.ntmps107
 go_wp2
 go_ret
 exact ⟨rfl, rfl⟩
theorem Wa (w : World) (a : Addr) (c : Nat) : Calls prog 107 #[.slice (some a) 0 c] w fun e w' => (∃ b, e = .returned (.slice b 0 0)) /\ ∃ o, w' = w.alloc o := by
 have q : ∀ (w : World) (a : Option Addr) (n c n' c' : Nat), (binOp .eql 31 (.slice a n c) (.slice none n' c')).run prog w = .ok (.bool a.isNone) w := fun w a n c n' c' => Go.Lib.run_eql_slice_nil w _ _ a n c n' c' Tryz.underlying31
 go_enter func107, Tryz.ntmps107
 go_wp2
 go_ret
 exact ⟨⟨_, rfl⟩, ⟨_, rfl⟩⟩
noncomputable def aiF : FnE := au e10 f107 4 []
noncomputable def aei : FnE := nL aiF
theorem Q0 : bz 107 aei := mH (bD AS func107 call107) call107 V9 Wa
noncomputable def e11 : Env := e10.add 107 aei
theorem AT : e11.Good := Env.Good.add AS Q0
theorem aej (w : World) (c : Nat) : Calls prog 40 #[.slice none 0 c] w fun e w' => e = .returned (.slice none 0 0) /\ w' = w := by
 have q : ∀ (w : World) (a : Option Addr) (n c n' c' : Nat), (binOp .eql 32 (.slice a n c) (.slice none n' c')).run prog w = .ok (.bool a.isNone) w := fun w a n c n' c' => Go.Lib.run_eql_slice_nil w _ _ a n c n' c' Tryz.underlying32
 go_enter func40, Tryz.ntmps40
 go_wp2
 go_ret
 exact ⟨rfl, rfl⟩
theorem aek (w : World) (a : Addr) (c : Nat) : Calls prog 40 #[.slice (some a) 0 c] w fun e w' => (∃ b, e = .returned (.slice b 0 0)) /\ ∃ o, w' = w.alloc o := by
 have q : ∀ (w : World) (a : Option Addr) (n c n' c' : Nat), (binOp .eql 32 (.slice a n c) (.slice none n' c')).run prog w = .ok (.bool a.isNone) w := fun w a n c n' c' => Go.Lib.run_eql_slice_nil w _ _ a n c n' c' Tryz.underlying32
 go_enter func40, Tryz.ntmps40
 go_wp2
 go_ret
 exact ⟨⟨_, rfl⟩, ⟨_, rfl⟩⟩
noncomputable def b40 : FnE := au e11 f40 4 []
noncomputable def x40 : FnE := nL b40
theorem XR : bz 40 x40 := mH (bD AT func40 call40) call40 aej aek
noncomputable def e12 : Env := e11.add 40 x40
theorem AU : e12.Good := Env.Good.add AT XR
noncomputable def ael : FnE := au e12 f257 5 []
theorem Q1 : bz 257 ael := bD AU func257 call257
noncomputable def e13 : Env := e12.add 257 ael
theorem K7 : e13.Good := Env.Good.add AU Q1
noncomputable def aem : FnE := au e13 f220 6 [(3, [0, 3, 9, 10, 11]), (11, [6, 25, 26, 27])]
theorem xT : bz 220 aem := bD K7 func220 call220
end
end Go.Proofs.XRT
set_option maxRecDepth 100000
set_option maxHeartbeats 4000000
namespace Go.Proofs.XRT
open Go.Vm Go Tryz IntKind
noncomputable section
noncomputable def DX : Code := bd f156
noncomputable def zc1 : Code := cL (cL (cR (cL (cR DX))))
noncomputable def ib : Cfg := ⟨19, 5, 0, [(2, [0, 1, 7, 8])], true⟩
noncomputable def Fw : Code := bd f60
noncomputable def zc2 : Code := cL (cL (cR (cL (cR (cR (cR (cR Fw)))))))
noncomputable def iw : Cfg := ⟨27, 5, 0, [(7, [4, 12, 13, 14])], true⟩
noncomputable def DY : Code := bd f140
noncomputable def zc3 : Code := cL (cL (cR (cL (cR DY))))
noncomputable def ic : Cfg := ⟨19, 5, 1, [(2, [0, 1, 7, 8])], true⟩
def bS (t x : Int) : Bool :=
 bif t == 1 then
  bif i64.wrap (Int.ofNat (BitVec.ofInt 64 x &&& BitVec.ofNat 64 2139095040).toNat) == 2139095040 then
   bif x.fdiv 4294967296 == 0 then
    bif !i64.wrap (Int.ofNat (BitVec.ofInt 64 x &&& BitVec.ofNat 64 8388607).toNat) != 0 then true else x == 2143289344
   else false
  else
   bif x.fdiv 4294967296 == 0 then true else false
 else
  bif t == 6 then x == i64.wrap (i32.wrap x)
  else
   bif t == 9 then x.fdiv 2 == 0 else t == 7
theorem XS (t x : Int) : aC e0 f99 6 [] [I t, I x] [] ah = bif t == 1 then bif i64.wrap (Int.ofNat (BitVec.ofInt 64 x &&& 2139095040#64).toNat) == 2139095040 then bif x.fdiv 4294967296 == 0 then bif !i64.wrap (Int.ofNat (BitVec.ofInt 64 x &&& 8388607#64).toNat) != 0 then az [B true] else az [B (x == 2143289344)] else az [B false] else bif x.fdiv 4294967296 == 0 then az [B true] else az [B false] else bif t == 6 then az [B (x == i64.wrap (i32.wrap x))] else bif t == 9 then az [B (x.fdiv 2 == 0)] else az [B (t == 7)] := by kernel_rfl
def Q2 : List AV -> LHp -> Option (aq × LHp)
 | [.d zI t, .d zI x], [] => some (.ret [B (bS t x)], [])
 | _, _ => none
theorem Q3 (t x : Int) : aC e0 f99 6 [] [I t, I x] [] ah = some (.ret [B (bS t x)], []) := by
 rw [XS]
 unfold bS
 generalize (t == 1) = c1
 generalize (t == 6) = c2
 generalize (t == 9) = c3
 generalize (i64.wrap (Int.ofNat (BitVec.ofInt 64 x &&& BitVec.ofNat 64 2139095040).toNat) == 2139095040) = c4
 generalize (x.fdiv 4294967296 == 0) = c5
 generalize (!i64.wrap (Int.ofNat (BitVec.ofInt 64 x &&& BitVec.ofNat 64 8388607).toNat) != 0) = c6
 cases c1 <;> cases c2 <;> cases c3 <;> cases c4 <;> cases c5 <;> cases c6 <;> rfl
theorem Fx : bg 99 (fnE Q2) := by
 refine gL dJ bO func99 call99 (depth := 6) (live := []) (by decide +kernel) rfl fun args hs p h => ?_
 unfold Q2 at h
 split at h
 ·cases h
  exact Q3 _ _
 ·cases h
theorem Q4 (d : Int) : aC e2 f109 3 [] [I d] [] ah = az [B (decide (d < 1))] := by kernel_rfl
def K8 : List AV -> LHp -> Option (aq × LHp)
 | [.d zI d], [] => some (.ret [B (decide (d < 1))], [])
 | _, _ => none
theorem K9 : bg 109 (fnE K8) := by
 refine gL xR bO func109 call109 (depth := 3) (live := []) (by decide +kernel) rfl fun args hs p h => ?_
 unfold K8 at h
 split at h
 ·cases h
  exact Q4 _
 ·cases h
noncomputable def eA : Env := e0.add 109 (fnE K8)
theorem Fy : eA.Good := dJ.add K9
def stI (xs : af) (i : Int) : LSt := ⟨aw 5 [(0, .d (.slice aa) xs), (1, .fn (.func 109) [] []), (7, I (Int.ofNat xs.length)), (8, I i)], [], 0⟩
theorem Q5 (xs : af) : aC eA f156 5 [(2, [0, 1, 7, 8])] [.d (.slice aa) xs, .fn (.func 109) [] []] [] ah = (hlp eA ib) zc1 _ (stI xs 0) (aQ 0 (aX eA ib [2] (hlp eA ib) (cR (cR DX)) (aZ prog 0 f156.results.toList ah))) := (bq [2] ib rfl).trans (by obtain ⟨hl, h⟩ := bc eA ib; rw [h]; kernel_rfl)
theorem Ij (xs : af) (i : Int) (n : Nat) {R : Type} (k : AEx -> LSt -> Option R) : lp eA ib zc1 (n + 1) (stI xs i) k = bif decide (i < Int.ofNat xs.length) then (idx xs i).bind fun v1 => bif decide (v1 < 1) then k AEx.ret { fr := aw 5 [(0, AV.d (aa).slice xs), (1, AV.fn (Fn.func 109) [] []), (4, I i), (5, I i), (7, I (Int.ofNat xs.length)), (8, I i), (9, B true), (10, I i), (11, AV.fn (Fn.func 109) [] []), (12, AV.d (aa).slice xs), (13, I i), (14, AV.ip (aa) v1), (15, I v1), (16, B true), (17, I i)], hp := [], nx := 0 } else lp eA ib zc1 n (stI xs (i64.wrap (i + 1))) k else k (AEx.exit 0) { fr := aw 5 [(0, AV.d (aa).slice xs), (1, AV.fn (Fn.func 109) [] []), (7, I (Int.ofNat xs.length)), (8, I i), (9, B false)], hp := [], nx := 0 } := by kernel_rfl
theorem La (xs : af) (hl : xs.length <= maxLen) : aC eA f156 5 [(2, [0, 1, 7, 8])] [.d (.slice aa) xs, .fn (.func 109) [] []] [] ah = some (.ret [I (bk (fun d => decide (d < 1)) xs)], []) := by
 rw [Q5]
 have h := fx (T := fun n s => lp eA ib zc1 n s (aQ 0 (aX eA ib [2] (hlp eA ib) (cR (cR DX)) (aZ prog 0 f156.results.toList ah)))) (xs := xs) (st := fun i => stI xs i) hl (fun i n => Ij xs i n _)
 unfold stI at h
 refine h.trans ?_
 unfold bk
 cases hq : xs.findIdx? (fun d => decide (d < 1)) with
 | none => show _ = _; kernel_rfl
 | some i =>
  obtain ⟨hi, _⟩ := List.findIdx?_eq_some_iff_getElem.1 hq
  simp only [List.getElem?_eq_getElem hi, aB]
  show _ = _
  kernel_rfl
def Lb : List AV -> LHp -> Tq
 | [.d zS xs, .fn (.func 109) [] []], [] => .br (decide (xs.length <= maxLen)) (.leaf (.ret [I (bk (fun d => decide (d < 1)) xs)]) []) .no
 | _, _ => .no
theorem Lc : bg 156 (ao Lb) := by
 refine bW Fy bO func156 call156 (depth := 5) (live := [(2, [0, 1, 7, 8])]) (by decide +kernel) rfl fun args hs p h => ?_
 unfold Lb at h
 split at h
 ·obtain ⟨hl, h⟩ := Tq.br_no h
  cases h
  have hl := aU hl
  exact La _ hl
 ·cases h
def Ld : List AV -> LHp -> Tq
 | [.d zS xs, .fn (.func 109) [] []], [] => .br (decide (xs.length <= maxLen)) (.leaf (.ret [B (decide (bk (fun d => decide (d < 1)) xs >= 0))]) []) .no
 | _, _ => .no
noncomputable def eB : Env := e0.add 156 (ao Lb)
theorem Q6 : eB.Good := dJ.add Lc
theorem Q7 (xs : af) : aC eB f108 4 [] [.d (.slice aa) xs, .fn (.func 109) [] []] [] ah = bif decide (xs.length <= 9223372036854775807) then az [B (decide (bk (fun d => decide (d < 1)) xs >= 0))] else none := by kernel_rfl
theorem Lf : bg 108 (ao Ld) := by
 refine bW Q6 bO func108 call108 (depth := 4) (live := []) (by decide +kernel) rfl fun args hs p h => ?_
 unfold Ld at h
 split at h
 ·obtain ⟨hl, h⟩ := Tq.br_no h
  cases h
  have hl := aU hl
  exact ((Q7 _).trans (by rw [aD (show _ <= 9223372036854775807 from hl)]; rfl))
 ·cases h
noncomputable def eC : Env := e0.add 108 (ao Ld)
theorem Q8 : eC.Good := dJ.add Lf
def stC (xs : af) (n i : Int) : LSt := ⟨aw 5 [(4, I n), (12, .d (.slice aa) xs), (13, I (Int.ofNat xs.length)), (14, I i)], [], 0⟩
noncomputable def KC : AEx -> LSt -> Option (aq × LHp) := (aQ 0 (aX eC iw [7] (hlp eC iw) (cR (cR (cR (cR (cR Fw))))) (aZ prog 0 f60.results.toList ah)))
theorem Lg (xs : af) : aC eC f60 5 [(7, [4, 12, 13, 14])] [.d (.slice aa) xs] [] ah = bif decide (xs.length <= 9223372036854775807) then bif decide (bk (fun d => decide (d < 1)) xs >= 0) then az [I 0, I 4] else bif decide (Int.ofNat xs.length > 6) then az [I 0, I 6] else (hlp eC iw) zc2 _ (stC xs 1 0) KC else none := (bq [7] iw rfl).trans (by obtain ⟨hl, h⟩ := bc eC iw; rw [h]; kernel_rfl)
theorem s9 (xs : af) (v i : Int) (n : Nat) {R : Type} (k : AEx -> LSt -> Option R) : lp eC iw zc2 (n + 1) (stC xs v i) k = bif decide (i < Int.ofNat xs.length) then (idx xs i).bind fun v1 => (if v = 0 then none else some (i64.wrap (Int.tdiv 65536 v))).bind fun v2 => bif decide (v1 > v2) then k AEx.ret { fr := aw 5 [(2, I 0), (3, I 6), (4, I v), (6, I v1), (12, AV.d (aa).slice xs), (13, I (Int.ofNat xs.length)), (14, I i), (15, B true), (16, AV.ip (aa) v1), (17, I v1), (18, I v1), (19, I v), (20, I v2), (21, B true)], hp := [], nx := 0 } else lp eC iw zc2 n (stC xs (i64.wrap (v * v1)) (i64.wrap (i + 1))) k else k (AEx.exit 0) { fr := aw 5 [(4, I v), (12, AV.d (aa).slice xs), (13, I (Int.ofNat xs.length)), (14, I i), (15, B false)], hp := [], nx := 0 } := by kernel_rfl
def cH (xs : af) : Int := xs.foldl (· * ·) 1
theorem eO {xs : af} {i : Nat} {x : Int} (h : xs[i]? = some x) : cH (xs.take (i + 1)) = cH (xs.take i) * x := by
 unfold cH
 rw [List.take_add_one, h, List.foldl_append]
 rfl
theorem pS {xs : af} (h : ∀ x ∈ xs, 1 <= x) : ∀ i, 1 <= cH (xs.take i) := by
 intro i
 induction i with
 | zero => simp [cH]
 | succ i ih =>
  cases hx : xs[i]? with
  | none =>
   have : xs.length <= i := List.getElem?_eq_none_iff.1 hx
   rw [List.take_of_length_le (by omega)]
   rw [List.take_of_length_le (by omega)] at ih
   exact ih
  | some x =>
   rw [eO hx]
   have h1 := h x (List.mem_of_getElem? hx)
   have := Int.mul_le_mul ih h1 (by omega) (by omega)
   omega
theorem tc {xs : af} (h : ∀ x ∈ xs, 1 <= x) {i : Nat} : ∀ k, cH (xs.take i) <= cH (xs.take (i + k)) := by
 intro k
 induction k with
 | zero => exact Int.le_refl _
 | succ k ih =>
  cases hx : xs[i + k]? with
  | none =>
   have : xs.length <= i + k := List.getElem?_eq_none_iff.1 hx
   rw [List.take_of_length_le (l := xs) (i := i + (k + 1)) (by omega)]
   rw [List.take_of_length_le (l := xs) (i := i + k) (by omega)] at ih
   exact ih
  | some x =>
   rw [← Nat.add_assoc, eO hx]
   have h1 := h x (List.mem_of_getElem? hx)
   have h2 := pS h (i + k)
   have := Int.mul_le_mul_of_nonneg_left h1 (show 0 <= cH (xs.take (i + k)) by omega)
   omega
theorem ru {n v : Int} (hn : 1 <= n) : (v > Int.tdiv 65536 n) ↔ (n * v > 65536) := by
 rw [Int.tdiv_eq_ediv_of_nonneg (by omega)]
 constructor
 ·intro h
  have h1 := (Int.ediv_lt_iff_lt_mul (by omega)).1 h
  rw [Int.mul_comm] at h1
  exact h1
 ·intro h
  rw [Int.mul_comm] at h
  exact (Int.ediv_lt_iff_lt_mul (by omega)).2 h
theorem XT (xs : af) (n i x v : Int) : KC AEx.ret { fr := aw 5 [(2, I 0), (3, I 6), (4, I n), (6, I x), (12, AV.d (aa).slice xs), (13, I (Int.ofNat xs.length)), (14, I i), (15, B true), (16, AV.ip (aa) x), (17, I x), (18, I x), (19, I n), (20, I v), (21, B true)], hp := [], nx := 0 } = some (.ret [I 0, I 6], []) := by kernel_rfl
theorem Q9 (xs : af) (n i : Int) : KC (AEx.exit 0) { fr := aw 5 [(4, I n), (12, AV.d (aa).slice xs), (13, I (Int.ofNat xs.length)), (14, I i), (15, B false)], hp := [], nx := 0 } = some (.ret [I n, I 0], []) := by kernel_rfl
def qL (xs : af) : Bool := decide (cH xs > 65536)
theorem DZ {xs : af} (hp : ∀ x ∈ xs, 1 <= x) (hl : xs.length <= 6) : ∀ (k i m : Nat), i + k = xs.length -> k < m -> cH (xs.take i) <= 65536 ->
  lp eC iw zc2 m (stC xs (cH (xs.take i)) i) KC = some (.ret (bif qL xs then [I 0, I 6] else [I (cH xs), I 0]), []) := by
 intro k
 induction k with
 | zero =>
  intro i m hi hm hP
  obtain ⟨m, rfl⟩ : ∃ m', m = m' + 1 := ⟨m - 1, by omega⟩
  rw [s9, bU (show ¬ ((i : Int) < Int.ofNat xs.length) from by rw [show i = xs.length by omega]; exact Int.lt_irrefl _)]
  simp only [ax]
  rw [Q9]
  have e : xs.take i = xs := List.take_of_length_le (by omega)
  rw [e] at hP ⊢
  unfold qL
  rw [bU (by omega)]
  rfl
 | succ k ih =>
  intro i m hi hm hP
  obtain ⟨m, rfl⟩ : ∃ m', m = m' + 1 := ⟨m - 1, by omega⟩
  have bJ : i < xs.length := by omega
  have hx : xs[i]? = some xs[i] := List.getElem?_eq_getElem bJ
  have hidx : idx xs (i : Int) = some xs[i] := by unfold idx; rw [if_pos (by omega), Int.toNat_natCast, hx]
  have h1 := pS hp i
  have rG := hp xs[i] (List.getElem_mem bJ)
  have hq0 : 0 <= Int.tdiv 65536 (cH (xs.take i)) := by
   rw [Int.tdiv_eq_ediv_of_nonneg (by omega)]; exact Int.ediv_nonneg (by omega) (by omega)
  have hq1 : Int.tdiv 65536 (cH (xs.take i)) <= 65536 := by
   rw [Int.tdiv_eq_ediv_of_nonneg (by omega)]; exact Int.ediv_le_self _ (by omega)
  rw [s9, aD (show (i : Int) < Int.ofNat xs.length from Int.ofNat_lt.2 bJ), hidx, if_neg (by omega), aI (by omega) (by omega)]
  simp only [ai, aB]
  by_cases hb : cH (xs.take i) * xs[i] > 65536
  ·rw [aD ((ru h1).2 hb)]
   simp only [ai]
   rw [XT]
   have hm2 := tc hp (i := i + 1) (xs.length - (i + 1))
   rw [eO hx, show i + 1 + (xs.length - (i + 1)) = xs.length by omega, List.take_length] at hm2
   unfold qL
   rw [aD (by omega)]
   rfl
  ·rw [bU (fun h => hb ((ru h1).1 h))]
   simp only [ax]
   have hm0 : 0 <= cH (xs.take i) * xs[i] := Int.mul_nonneg (by omega) (by omega)
   have := ih (i + 1) m (by omega) (by omega) (by rw [eO hx]; omega)
   rw [eO hx] at this
   unfold stC at this
   rw [aI (n := cH (xs.take i) * xs[i]) (by omega) (by omega), aI (n := (i : Int) + 1) (by omega) (by omega)]
   exact this
def ay (xs : af) : Int := bif decide (bk (fun d => decide (d < 1)) xs >= 0) then 4 else bif decide (Int.ofNat xs.length > 6) then 6 else bif qL xs then 6 else 0
def aJ (xs : af) : Int := bif decide (bk (fun d => decide (d < 1)) xs >= 0) then 0 else bif decide (Int.ofNat xs.length > 6) then 0 else bif qL xs then 0 else cH xs
theorem Ik (xs : af) (hl : xs.length <= maxLen) : aC eC f60 5 [(7, [4, 12, 13, 14])] [.d (.slice aa) xs] [] ah = some (.ret [I (aJ xs), I (ay xs)], []) := by
 rw [Lg, aD (show xs.length <= 9223372036854775807 from hl)]
 unfold aJ ay
 cases h1 : decide (bk (fun d => decide (d < 1)) xs >= 0) with
 | true => rfl
 | false =>
  cases h2 : decide (Int.ofNat xs.length > 6) with
  | true => rfl
  | false =>
   simp only [ai, ax]
   have hp : ∀ x ∈ xs, 1 <= x := fun x hx => by
    rw [oC, List.any_eq_false] at h1
    have := h1 x hx
    simp only [decide_eq_true_eq] at this
    omega
   have hl6 : xs.length <= 6 := by
    have := nz h2
    have e : Int.ofNat xs.length = (xs.length : Int) := rfl
    omega
   have key := DZ hp hl6 xs.length 0 fu (by omega) (by unfold fu; omega) (by simp [cH])
   unfold stC KC at key
   simp only [List.take_zero] at key
   refine Eq.trans key ?_
   cases qL xs <;> rfl
def xU : List AV -> LHp -> Tq
 | [.d zS xs], [] => .br (decide (xs.length <= maxLen)) (.leaf (.ret [I (aJ xs), I (ay xs)]) []) .no
 | _, _ => .no
theorem pT : bg 60 (ao xU) := by
 refine bW Q8 bO func60 call60 (depth := 5) (live := [(7, [4, 12, 13, 14])]) (by decide +kernel) rfl fun args hs p h => ?_
 unfold xU at h
 split at h
 ·obtain ⟨hl, h⟩ := Tq.br_no h
  cases h
  have hl := aU hl
  exact Ik _ hl
 ·cases h
noncomputable def eD : Env := e0.add 99 (fnE Q2)
theorem Fz : eD.Good := dJ.add Fx
theorem Lh (t : Int) : aC eD f96 3 [] [I t] [] ah = az [B (bS t 0)] := by kernel_rfl
def D0 : List AV -> LHp -> Option (aq × LHp)
 | [.d zI t], [] => some (.ret [B (bS t 0)], [])
 | _, _ => none
theorem Il : bg 96 (fnE D0) := by
 refine gL Fz bO func96 call96 (depth := 3) (live := []) (by decide +kernel) rfl fun args hs p h => ?_
 unfold D0 at h
 split at h
 ·cases h
  exact Lh _
 ·cases h
def PK (t : Int) (dims data : af) : LHp := [(0, .box (.d (Y0) (t, dims, data, ())))]
theorem Ra (x t : Int) (dims data : af) : aC eD f98 4 [] [I x, .op 0 [] 0] (PK t dims data) ah = some (aq.ret [B !bS t x], [(0, aj.box (AV.d Y0 (t, dims, data, PUnit.unit)))]) := by kernel_rfl
def Li : List AV -> LHp -> Option (aq × LHp)
 | [.d zI x, .op 0 [] 0], [(0, .box (.d Y0 (t, dims, data, _)))] => some (.ret [B (!bS t x)], PK t dims data)
 | _, _ => none
theorem Lj : bg 98 (fnE Li) := by
 refine gL Fz bO func98 call98 (depth := 4) (live := []) (by decide +kernel) rfl fun args hs p h => ?_
 unfold Li at h
 split at h
 ·cases h
  exact Ra _ _ _ _
 ·cases h
noncomputable def eF : Env := e0.add 98 (fnE Li)
theorem Rb : eF.Good := dJ.add Lj
def stL (xs : af) (t : Int) (dims data : af) (i : Int) : LSt := ⟨aw 5 [(0, .d (.slice aa) xs), (1, .fn (.func 98) [] [.op 0 [] 0]), (7, I (Int.ofNat xs.length)), (8, I i)], PK t dims data, 2⟩
theorem Rc (xs : af) (t : Int) (dims data : af) : aC eF f140 5 [(2, [0, 1, 7, 8])] [.d (.slice aa) xs, .fn (.func 98) [] [.op 0 [] 0]] (PK t dims data) ah = (hlp eF ic) zc3 _ (stL xs t dims data 0) (aQ 0 (aX eF ic [2] (hlp eF ic) (cR (cR DY)) (aZ prog 1 f140.results.toList ah))) := (bq [2] ic rfl).trans (by obtain ⟨hl, h⟩ := bc eF ic; rw [h]; kernel_rfl)
theorem Im (xs : af) (t : Int) (dims data : af) (i : Int) (n : Nat) {R : Type} (k : AEx -> LSt -> Option R) : lp eF ic zc3 (n + 1) (stL xs t dims data i) k = bif decide (i < Int.ofNat xs.length) then (idx xs i).bind fun v1 => bif !bS t v1 then k AEx.ret { fr := aw 5 [(0, AV.d (aa).slice xs), (1, AV.fn (Fn.func 98) [] [AV.op 0 [] 0]), (4, I i), (5, I i), (7, I (Int.ofNat xs.length)), (8, I i), (9, B true), (10, I i), (11, AV.fn (Fn.func 98) [] [AV.op 0 [] 0]), (12, AV.d (aa).slice xs), (13, I i), (14, AV.ip (aa) v1), (15, I v1), (16, B true), (17, I i)], hp := [(0, aj.box (AV.d Y0 (t, dims, data, PUnit.unit))), (0, aj.box (AV.d Y0 (t, dims, data, PUnit.unit)))], nx := 3 } else lp eF ic zc3 n (stL xs t dims data (i64.wrap (i + 1))) k else k (AEx.exit 0) { fr := aw 5 [(0, AV.d (aa).slice xs), (1, AV.fn (Fn.func 98) [] [AV.op 0 [] 0]), (7, I (Int.ofNat xs.length)), (8, I i), (9, B false)], hp := [(0, aj.box (AV.d Y0 (t, dims, data, PUnit.unit)))], nx := 2 } := by kernel_rfl
theorem Lk (xs : af) (t : Int) (dims data : af) (hl : xs.length <= maxLen) : aC eF f140 5 [(2, [0, 1, 7, 8])] [.d (.slice aa) xs, .fn (.func 98) [] [.op 0 [] 0]] (PK t dims data) ah = some (.ret [I (bk (fun x => !bS t x) xs)], PK t dims data) := by
 rw [Rc]
 have h := fx (T := fun n s => lp eF ic zc3 n s (aQ 0 (aX eF ic [2] (hlp eF ic) (cR (cR DY)) (aZ prog 1 f140.results.toList ah)))) (xs := xs) (st := fun i => stL xs t dims data i) hl (fun i n => Im xs t dims data i n _)
 unfold stL PK at h
 refine h.trans ?_
 unfold bk
 cases hq : xs.findIdx? (fun x => !bS t x) with
 | none => show _ = _; kernel_rfl
 | some i =>
  obtain ⟨hi, _⟩ := List.findIdx?_eq_some_iff_getElem.1 hq
  simp only [List.getElem?_eq_getElem hi, aB]
  show _ = _
  kernel_rfl
def Ll : List AV -> LHp -> Tq
 | [.d zS xs, .fn (.func 98) [] [.op 0 [] 0]], [(0, .box (.d Y0 (t, dims, data, _)))] => .br (decide (xs.length <= maxLen)) (.leaf (.ret [I (bk (fun x => !bS t x) xs)]) (PK t dims data)) .no
 | _, _ => .no
theorem Lm : bg 140 (ao Ll) := by
 refine bW Rb bO func140 call140 (depth := 5) (live := [(2, [0, 1, 7, 8])]) (by decide +kernel) rfl fun args hs p h => ?_
 unfold Ll at h
 split at h
 ·obtain ⟨hl, h⟩ := Tq.br_no h
  cases h
  have hl := aU hl
  exact Lk _ _ _ _ hl
 ·cases h
noncomputable def eG : Env := e0.add 140 (ao Ll)
theorem Re : eG.Good := dJ.add Lm
theorem Rf (xs : af) (t : Int) (dims data : af) : aC eG f97 4 [] [.d (.slice aa) xs, .fn (.func 98) [] [.op 0 [] 0]] (PK t dims data) ah = bif decide (xs.length <= 9223372036854775807) then some (aq.ret [B (decide (bk (fun x => !bS t x) xs >= 0))], [(0, aj.box (AV.d Y0 (t, dims, data, PUnit.unit)))]) else none := by kernel_rfl
def Ln : List AV -> LHp -> Tq
 | [.d zS xs, .fn (.func 98) [] [.op 0 [] 0]], [(0, .box (.d Y0 (t, dims, data, _)))] => .br (decide (xs.length <= maxLen)) (.leaf (.ret [B (xs.any fun x => !bS t x)]) (PK t dims data)) .no
 | _, _ => .no
theorem Lo : bg 97 (ao Ln) := by
 refine bW Re bO func97 call97 (depth := 4) (live := []) (by decide +kernel) rfl fun args hs p h => ?_
 unfold Ln at h
 split at h
 ·obtain ⟨hl, h⟩ := Tq.br_no h
  cases h
  have hl := aU hl
  exact ((Rf _ _ _ _).trans (by rw [aD (show _ <= 9223372036854775807 from hl), oC]; rfl))
 ·cases h
noncomputable def eH : Env := ((e0.add 96 (fnE D0)).add 60 (ao xU)).add 97 (ao Ln)
theorem Rg : eH.Good := ((dJ.add Il).add pT).add Lo
theorem XU (t : Int) (dims data : af) : aC eH f57 5 [] [.d (Y0) (t, dims, data, ())] [] ah = bif !bS t 0 then az [I 5] else bif decide (dims.length <= 9223372036854775807) then bif ay dims != 0 then az [I (ay dims)] else bif Int.ofNat data.length != aJ dims then az [I 4] else bif decide (data.length <= 9223372036854775807) then bif data.any fun x => !bS t x then az [I 4] else az [I 0] else none else none := by kernel_rfl
def jw (t : Int) (dims data : af) : Int := bif !bS t 0 then 5 else bif ay dims != 0 then ay dims else bif Int.ofNat data.length != aJ dims then 4 else bif data.any (fun x => !bS t x) then 4 else 0
def aeo : List AV -> LHp -> Tq
 | [.d Y0 (t, dims, data, _)], [] => .br (decide (dims.length <= maxLen /\ data.length <= maxLen)) (.leaf (.ret [I (jw t dims data)]) []) .no
 | _, _ => .no
theorem Rh (t : Int) (dims data : af) (h : dims.length <= maxLen /\ data.length <= maxLen) : aC eH f57 5 [] [.d (Y0) (t, dims, data, ())] [] ah = some (.ret [I (jw t dims data)], []) := by
 rw [XU, aD (show dims.length <= 9223372036854775807 from h.1), aD (show data.length <= 9223372036854775807 from h.2)]
 unfold jw
 cases !bS t 0 <;> cases ay dims != 0 <;> cases Int.ofNat data.length != aJ dims <;> cases data.any (fun x => !bS t x) <;> rfl
theorem FA : bg 57 (ao aeo) := by
 refine bW Rg bO func57 call57 (depth := 5) (live := []) (by decide +kernel) rfl fun args hs p h => ?_
 unfold aeo at h
 split at h
 ·obtain ⟨hl, h⟩ := Tq.br_no h
  cases h
  have hl := aU hl
  exact Rh _ _ _ hl
 ·cases h
noncomputable def xV : Code := bd f156
noncomputable def zc4 : Code := cL (cL (cR (cL (cR xV))))
noncomputable def fy : Cfg := ⟨19, 5, 1, [(2, [0, 1, 7, 8])], true⟩
noncomputable def Lp : Code := bd f60
noncomputable def zc5 : Code := cL (cL (cR (cL (cR (cR (cR (cR Lp)))))))
noncomputable def jV : Cfg := ⟨27, 5, 1, [(7, [4, 12, 13, 14])], true⟩
theorem aep {α R : Type} {xs : List α} {i : Int} {f : α -> Option R} : ((idx xs i).bind fun _ => (xs[i.toNat]?).bind f) = (idx xs i).bind f := by
 unfold idx
 split
 ·cases xs[i.toNat]? <;> rfl
 ·rfl
def zl (z : Bool) (xs : af) : LHp := [(0, .arr 3 aa 0 z xs)]
def Lq (z : Bool) (xs : af) (i : Int) : LSt := ⟨aw 5 [(0, .os 0 0), (1, .fn (.func 109) [] []), (7, I (Int.ofNat xs.length)), (8, I i)], zl z xs, 2⟩
theorem Ri (z : Bool) (xs : af) : aC eA f156 5 [(2, [0, 1, 7, 8])] [.os 0 0, .fn (.func 109) [] []] (zl z xs) ah = (hlp eA fy) zc4 _ (Lq z xs 0) (aQ 0 (aX eA fy [2] (hlp eA fy) (cR (cR xV)) (aZ prog 1 f156.results.toList ah))) := (bq [2] fy rfl).trans (by obtain ⟨hl, h⟩ := bc eA fy; rw [h]; kernel_rfl)
theorem Io (z : Bool) (xs : af) (i : Int) (n : Nat) {R : Type} (k : AEx -> LSt -> Option R) : lp eA fy zc4 (n + 1) (Lq z xs i) k = bif decide (i < Int.ofNat xs.length) then (idx xs i).bind fun v1 => (xs[i.toNat]?).bind fun v2 => bif decide (v2 < 1) then k AEx.ret { fr := aw 5 [(0, AV.os 0 0), (1, AV.fn (Fn.func 109) [] []), (4, I i), (5, I i), (7, I (Int.ofNat xs.length)), (8, I i), (9, B true), (10, I i), (11, AV.fn (Fn.func 109) [] []), (12, AV.os 0 0), (13, I i), (14, AV.oe 0 0 i.toNat), (15, I v2), (16, B true), (17, I i)], hp := [(0, aj.arr 3 (aa) 0 z xs)], nx := 2 } else lp eA fy zc4 n (Lq z xs (i64.wrap (i + 1))) k else k (AEx.exit 0) { fr := aw 5 [(0, AV.os 0 0), (1, AV.fn (Fn.func 109) [] []), (7, I (Int.ofNat xs.length)), (8, I i), (9, B false)], hp := [(0, aj.arr 3 (aa) 0 z xs)], nx := 2 } := by kernel_rfl
theorem Lr (z : Bool) (xs : af) (hl : xs.length <= maxLen) : aC eA f156 5 [(2, [0, 1, 7, 8])] [.os 0 0, .fn (.func 109) [] []] (zl z xs) ah = some (.ret [I (bk (fun d => decide (d < 1)) xs)], zl z xs) := by
 rw [Ri]
 have hs := fun (i : Int) (n : Nat) => Io z xs i n (aQ 0 (aX eA fy [2] (hlp eA fy) (cR (cR xV)) (aZ prog 1 f156.results.toList ah)))
 simp only [aep] at hs
 have h := fx (T := fun n s => lp eA fy zc4 n s (aQ 0 (aX eA fy [2] (hlp eA fy) (cR (cR xV)) (aZ prog 1 f156.results.toList ah)))) (xs := xs) (st := fun i => Lq z xs i) hl hs
 unfold Lq zl at h
 refine h.trans ?_
 unfold bk
 cases hq : xs.findIdx? (fun d => decide (d < 1)) with
 | none => show _ = _; kernel_rfl
 | some i =>
  obtain ⟨hi, _⟩ := List.findIdx?_eq_some_iff_getElem.1 hq
  simp only [List.getElem?_eq_getElem hi, aB]
  show _ = _
  kernel_rfl
def Ls : List AV -> LHp -> Tq
 | [.os 0 0, .fn (.func 109) [] []], [(0, .arr 3 zI 0 z xs)] => .br (decide (xs.length <= maxLen)) (.leaf (.ret [I (bk (fun d => decide (d < 1)) xs)]) (zl z xs)) .no
 | _, _ => .no
theorem Lt : bg 156 (ao Ls) := by
 refine bW Fy bO func156 call156 (depth := 5) (live := [(2, [0, 1, 7, 8])]) (by decide +kernel) rfl fun args hs p h => ?_
 unfold Ls at h
 split at h
 ·obtain ⟨hl, h⟩ := Tq.br_no h
  cases h
  have hl := aU hl
  exact Lr _ _ hl
 ·cases h
noncomputable def eBo : Env := e0.add 156 (ao Ls)
theorem Lu : eBo.Good := dJ.add Lt
theorem Rj (z : Bool) (xs : af) : aC eBo f108 4 [] [.os 0 0, .fn (.func 109) [] []] (zl z xs) ah = bif decide (xs.length <= 9223372036854775807) then some (aq.ret [B (decide (bk (fun d => decide (d < 1)) xs >= 0))], [(0, aj.arr 3 (aa) 0 z xs)]) else none := by kernel_rfl
def Lv : List AV -> LHp -> Tq
 | [.os 0 0, .fn (.func 109) [] []], [(0, .arr 3 zI 0 z xs)] => .br (decide (xs.length <= maxLen)) (.leaf (.ret [B (decide (bk (fun d => decide (d < 1)) xs >= 0))]) (zl z xs)) .no
 | _, _ => .no
theorem Lw : bg 108 (ao Lv) := by
 refine bW Lu bO func108 call108 (depth := 4) (live := []) (by decide +kernel) rfl fun args hs p h => ?_
 unfold Lv at h
 split at h
 ·obtain ⟨hl, h⟩ := Tq.br_no h
  cases h
  have hl := aU hl
  exact ((Rj _ _).trans (by rw [aD (show _ <= 9223372036854775807 from hl)]; rfl))
 ·cases h
noncomputable def PL : Env := e0.add 108 (ao Lv)
theorem Lx : PL.Good := dJ.add Lw
def Ip (z : Bool) (xs : af) (n i : Int) : LSt := ⟨aw 5 [(4, I n), (12, .os 0 0), (13, I (Int.ofNat xs.length)), (14, I i)], zl z xs, 2⟩
noncomputable def KCo : AEx -> LSt -> Option (aq × LHp) := (aQ 0 (aX PL jV [7] (hlp PL jV) (cR (cR (cR (cR (cR Lp))))) (aZ prog 1 f60.results.toList ah)))
theorem Rk (z : Bool) (xs : af) : aC PL f60 5 [(7, [4, 12, 13, 14])] [.os 0 0] (zl z xs) ah = bif decide (xs.length <= 9223372036854775807) then bif decide (bk (fun d => decide (d < 1)) xs >= 0) then some (aq.ret [I 0, I 4], [(0, aj.arr 3 (aa) 0 z xs)]) else bif decide (Int.ofNat xs.length > 6) then some (aq.ret [I 0, I 6], [(0, aj.arr 3 (aa) 0 z xs)]) else (hlp PL jV) zc5 _ (Ip z xs 1 0) KCo else none := (bq [7] jV rfl).trans (by obtain ⟨hl, h⟩ := bc PL jV; rw [h]; kernel_rfl)
theorem vY (z : Bool) (xs : af) (v i : Int) (n : Nat) {R : Type} (k : AEx -> LSt -> Option R) : lp PL jV zc5 (n + 1) (Ip z xs v i) k = bif decide (i < Int.ofNat xs.length) then (idx xs i).bind fun v1 => (xs[i.toNat]?).bind fun v2 => (if v = 0 then none else some (i64.wrap (Int.tdiv 65536 v))).bind fun v3 => bif decide (v2 > v3) then k AEx.ret { fr := aw 5 [(2, I 0), (3, I 6), (4, I v), (6, I v2), (12, AV.os 0 0), (13, I (Int.ofNat xs.length)), (14, I i), (15, B true), (16, AV.oe 0 0 i.toNat), (17, I v2), (18, I v2), (19, I v), (20, I v3), (21, B true)], hp := [(0, aj.arr 3 (aa) 0 z xs)], nx := 2 } else lp PL jV zc5 n (Ip z xs (i64.wrap (v * v2)) (i64.wrap (i + 1))) k else k (AEx.exit 0) { fr := aw 5 [(4, I v), (12, AV.os 0 0), (13, I (Int.ofNat xs.length)), (14, I i), (15, B false)], hp := [(0, aj.arr 3 (aa) 0 z xs)], nx := 2 } := by kernel_rfl
theorem Rl (z : Bool) (xs : af) (n i x v : Int) (j : Nat) : KCo AEx.ret { fr := aw 5 [(2, I 0), (3, I 6), (4, I n), (6, I x), (12, AV.os 0 0), (13, I (Int.ofNat xs.length)), (14, I i), (15, B true), (16, AV.oe 0 0 j), (17, I x), (18, I x), (19, I n), (20, I v), (21, B true)], hp := zl z xs, nx := 2 } = some (.ret [I 0, I 6], zl z xs) := by kernel_rfl
theorem Ly (z : Bool) (xs : af) (n i : Int) : KCo (AEx.exit 0) { fr := aw 5 [(4, I n), (12, AV.os 0 0), (13, I (Int.ofNat xs.length)), (14, I i), (15, B false)], hp := zl z xs, nx := 2 } = some (.ret [I n, I 0], zl z xs) := by kernel_rfl
theorem Iq {z : Bool} {xs : af} (hp : ∀ x ∈ xs, 1 <= x) (hl : xs.length <= 6) : ∀ (k i m : Nat), i + k = xs.length -> k < m -> cH (xs.take i) <= 65536 ->
  lp PL jV zc5 m (Ip z xs (cH (xs.take i)) i) KCo = some (.ret (bif qL xs then [I 0, I 6] else [I (cH xs), I 0]), zl z xs) := by
 intro k
 induction k with
 | zero =>
  intro i m hi hm hP
  obtain ⟨m, rfl⟩ : ∃ m', m = m' + 1 := ⟨m - 1, by omega⟩
  rw [vY, bU (show ¬ ((i : Int) < Int.ofNat xs.length) from by rw [show i = xs.length by omega]; exact Int.lt_irrefl _)]
  simp only [ax]
  have e : xs.take i = xs := List.take_of_length_le (by omega)
  rw [e] at hP ⊢
  refine (Ly z xs _ _).trans ?_
  unfold qL
  rw [bU (by omega)]
  rfl
 | succ k ih =>
  intro i m hi hm hP
  obtain ⟨m, rfl⟩ : ∃ m', m = m' + 1 := ⟨m - 1, by omega⟩
  have bJ : i < xs.length := by omega
  have hx : xs[i]? = some xs[i] := List.getElem?_eq_getElem bJ
  have hidx : idx xs (i : Int) = some xs[i] := by unfold idx; rw [if_pos (by omega), Int.toNat_natCast, hx]
  have h1 := pS hp i
  have rG := hp xs[i] (List.getElem_mem bJ)
  have hq0 : 0 <= Int.tdiv 65536 (cH (xs.take i)) := by
   rw [Int.tdiv_eq_ediv_of_nonneg (by omega)]; exact Int.ediv_nonneg (by omega) (by omega)
  have hq1 : Int.tdiv 65536 (cH (xs.take i)) <= 65536 := by
   rw [Int.tdiv_eq_ediv_of_nonneg (by omega)]; exact Int.ediv_le_self _ (by omega)
  rw [vY, aD (show (i : Int) < Int.ofNat xs.length from Int.ofNat_lt.2 bJ), hidx, Int.toNat_natCast, hx]
  simp only [ai, aB]
  rw [if_neg (by omega), aI (by omega) (by omega)]
  simp only [aB]
  by_cases hb : cH (xs.take i) * xs[i] > 65536
  ·rw [aD ((ru h1).2 hb)]
   simp only [ai]
   refine (Rl z xs _ _ _ _ _).trans ?_
   have hm2 := tc hp (i := i + 1) (xs.length - (i + 1))
   rw [eO hx, show i + 1 + (xs.length - (i + 1)) = xs.length by omega, List.take_length] at hm2
   unfold qL
   rw [aD (by omega)]
   rfl
  ·rw [bU (fun h => hb ((ru h1).1 h))]
   simp only [ax]
   have hm0 : 0 <= cH (xs.take i) * xs[i] := Int.mul_nonneg (by omega) (by omega)
   have := ih (i + 1) m (by omega) (by omega) (by rw [eO hx]; omega)
   rw [eO hx] at this
   unfold Ip at this
   rw [aI (n := cH (xs.take i) * xs[i]) (by omega) (by omega), aI (n := (i : Int) + 1) (by omega) (by omega)]
   exact this
theorem Lz (z : Bool) (xs : af) (hl : xs.length <= maxLen) : aC PL f60 5 [(7, [4, 12, 13, 14])] [.os 0 0] (zl z xs) ah = some (.ret [I (aJ xs), I (ay xs)], zl z xs) := by
 rw [Rk, aD (show xs.length <= 9223372036854775807 from hl)]
 unfold aJ ay
 cases h1 : decide (bk (fun d => decide (d < 1)) xs >= 0) with
 | true => rfl
 | false =>
  cases h2 : decide (Int.ofNat xs.length > 6) with
  | true => rfl
  | false =>
   simp only [ai, ax]
   have hp : ∀ x ∈ xs, 1 <= x := fun x hx => by
    rw [oC, List.any_eq_false] at h1
    have := h1 x hx
    simp only [decide_eq_true_eq] at this
    omega
   have hl6 : xs.length <= 6 := by
    have := nz h2
    have e : Int.ofNat xs.length = (xs.length : Int) := rfl
    omega
   have key := Iq (z := z) hp hl6 xs.length 0 fu (by omega) (by unfold fu; omega) (by simp [cH])
   unfold Ip KCo at key
   simp only [List.take_zero] at key
   refine Eq.trans key ?_
   cases qL xs <;> rfl
def LA : List AV -> LHp -> Tq
 | [.os 0 0], [(0, .arr 3 zI 0 z xs)] => .br (decide (xs.length <= maxLen)) (.leaf (.ret [I (aJ xs), I (ay xs)]) (zl z xs)) .no
 | _, _ => .no
theorem LB : bg 60 (ao LA) := by
 refine bW Lx bO func60 call60 (depth := 5) (live := [(7, [4, 12, 13, 14])]) (by decide +kernel) rfl fun args hs p h => ?_
 unfold LA at h
 split at h
 ·obtain ⟨hl, h⟩ := Tq.br_no h
  cases h
  have hl := aU hl
  exact Lz _ _ hl
 ·cases h
theorem Rm  : aC e5 f60 5 [(7, [4, 12, 13, 14])] [.emp] [] ah = az [I 1, I 0] := by kernel_rfl
def LC : List AV -> LHp -> Tq
 | [.emp], [] => .leaf (.ret [I 1, I 0]) []
 | _, _ => .no
theorem LD : bg 60 (ao LC) := by
 have h1 : bg 60 (au e5 f60 5 [(7, [4, 12, 13, 14])]) := K6
 refine aO fun args hs ae aH h' => ?_
 unfold LC at h'
 split at h'
 ·cases h'
  exact h1.okC Rm
 ·cases h'
def LF (a : List AV) (h : LHp) : Tq := orT (xU a h) (orT (LA a h) (LC a h))
theorem Ir : bg 60 (ao LF) := ky pT (ky LB LD)
def ie (name : ak) (kind : Int) (a : (Y1).den) : Bool := a.1 == name && a.2.1 == kind
def hpA (z : Bool) (ag : bn) (kind : Int) (name : ak) : LHp := [(0, .box (I kind)), (1, .box (.d .str name)), (2, .arr 44 (Y1) 0 z ag)]
theorem Rn (a : (Y1).den) (kind : Int) (name : ak) : aC e6 f160 4 [] [.d (Y1) a, .op 1 [] 0, .op 0 [] 0] [(0, .box (I kind)), (1, .box (.d .str name))] ah = bif a.1 == name then some (aq.ret [B (a.2.1 == kind)], [(0, aj.box (I kind)), (1, aj.box (AV.d Ty.str name))]) else some (aq.ret [B false], [(0, aj.box (I kind)), (1, aj.box (AV.d Ty.str name))]) := by kernel_rfl
def LG : List AV -> LHp -> Option (aq × LHp)
 | [.d Y1 a, .op 1 [] 0, .op 0 [] 0], [(0, .box (.d zI kind)), (1, .box (.d .str name))] => some (.ret [B (ie name kind a)], [(0, .box (I kind)), (1, .box (.d .str name))])
 | _, _ => none
theorem LH (a : (Y1).den) (kind : Int) (name : ak) : aC e6 f160 4 [] [.d (Y1) a, .op 1 [] 0, .op 0 [] 0] [(0, .box (I kind)), (1, .box (.d .str name))] ah = some (.ret [B (ie name kind a)], [(0, .box (I kind)), (1, .box (.d .str name))]) := by
 rw [Rn]
 unfold ie
 cases a.1 == name <;> rfl
theorem LI : bg 160 (fnE LG) := by
 refine gL xS bO func160 call160 (depth := 4) (live := []) (by decide +kernel) rfl fun args hs p h => ?_
 unfold LG at h
 split at h
 ·cases h
  exact LH _ _ _
 ·cases h
noncomputable def eJ : Env := e0.add 160 (fnE LG)
theorem Ro : eJ.Good := dJ.add LI
def aer : List AV -> LHp -> Tq
 | [.os 2 0, .fn (.func 160) [] [.op 1 [] 0, .op 0 [] 0]], [(0, .box (.d zI kind)), (1, .box (.d .str name)), (2, .arr 44 Y1 0 z ag)] => .br (decide (ag.length <= maxLen)) (.leaf (.ret [I (bk (ie name kind) ag)]) (hpA z ag kind name)) .no
 | _, _ => .no
def hpN (z z2 : Bool) (ag : bn) (ins : List (ak)) : LHp := [(0, .arr 44 (Y1) 0 z ag), (1, .arr 9 .str 0 z2 ins)]
noncomputable def eK : Env := e9.add 49 (ao aer)
theorem td {α : Type} (p : α -> Bool) (xs : List α) : idx xs (bk p xs) = xs.find? p := by
 unfold bk
 cases h : xs.findIdx? p with
 | none =>
  rw [List.findIdx?_eq_none_iff] at h
  rw [List.find?_eq_none.2 (fun x hx => by simp [h x hx])]
  rfl
 | some i =>
  obtain ⟨hi, hp, hn⟩ := List.findIdx?_eq_some_iff_getElem.1 h
  show idx xs (i : Int) = _
  unfold idx
  rw [if_pos (by omega), Int.toNat_natCast, List.getElem?_eq_getElem hi]
  exact (List.find?_eq_some_iff_getElem.2 ⟨hp, i, hi, rfl, fun j hj => by simpa using hn j hj⟩).symm
def XV : AV := (AV.d Ty.str []).pr ((I 0).pr ((I 0).pr ((I 0).pr ((AV.d Ty.str []).pr (((I 0).pr (AV.nils.pr (AV.nils.pr (AV.d Ty.unit PUnit.unit)))).pr (AV.nils.pr (AV.d Ty.unit PUnit.unit)))))))
theorem XW (l1 l2 l3 : af) : aC e13 f220 6 [(3, [0, 3, 9, 10, 11]), (11, [6, 25, 26, 27])] [.os 0 0] [(0, .arr 31 (.slice aa) 0 false [l1, l2, l3])] ah = bif decide (i64.wrap (Int.ofNat (0 + l1.length)) < 0) then none else bif decide (i64.wrap (i64.wrap (Int.ofNat (0 + l1.length)) + Int.ofNat l2.length) < 0) then none else bif decide (i64.wrap (i64.wrap (i64.wrap (Int.ofNat (0 + l1.length)) + Int.ofNat l2.length) + Int.ofNat l3.length) < 0) then none else bif decide (i64.wrap (i64.wrap (i64.wrap (Int.ofNat (0 + l1.length)) + Int.ofNat l2.length) + Int.ofNat l3.length) < 0) then none else bif decide (i64.wrap (i64.wrap (i64.wrap (i64.wrap (Int.ofNat (0 + l1.length)) + Int.ofNat l2.length) + Int.ofNat l3.length) - 0) > 0) then bif decide (0 < i64.wrap (i64.wrap (i64.wrap (i64.wrap (Int.ofNat (0 + l1.length)) + Int.ofNat l2.length) + Int.ofNat l3.length) - 0)) && decide (i64.wrap (i64.wrap (i64.wrap (i64.wrap (Int.ofNat (0 + l1.length)) + Int.ofNat l2.length) + Int.ofNat l3.length) - 0) <= 4294967296) then (app [] l1).bind fun v6 => (app v6 l2).bind fun v7 => (app v7 l3).bind fun v8 => some (aq.ret [AV.os 1 0], [(0, aj.arr 31 (aa).slice 0 false [l1, l2, l3]), (1, aj.arr 3 (aa) 0 false v8)]) else none else (app [] l1).bind fun v5 => (app v5 l2).bind fun v6 => (app v6 l3).bind fun v7 => some (aq.ret [AV.os 1 0], [(0, aj.arr 31 (aa).slice 0 false [l1, l2, l3]), (1, aj.arr 3 (aa) 0 false v7)]) := by kernel_rfl
theorem D1 {α : Type} {xs ys : List α} (h : xs.length + ys.length <= lim) : app xs ys = some (xs ++ ys) := by
 unfold app
 rw [if_pos h]
theorem FB (l1 l2 l3 : af) (h : l1.length + l2.length + l3.length <= 65536) : aC e13 f220 6 [(3, [0, 3, 9, 10, 11]), (11, [6, 25, 26, 27])] [.os 0 0] [(0, .arr 31 (.slice aa) 0 false [l1, l2, l3])] ah = some (.ret [.os 1 0], [(0, .arr 31 (.slice aa) 0 false [l1, l2, l3]), (1, .arr 3 aa 0 false (l1 ++ l2 ++ l3))]) := by
 have e1 : i64.wrap (Int.ofNat (0 + l1.length)) = (l1.length : Int) := by
  rw [Nat.zero_add]
  exact aI (by simp only [aK]; omega) (by simp only [aK]; omega)
 have e2 : i64.wrap ((l1.length : Int) + Int.ofNat l2.length) = ((l1.length + l2.length : Nat) : Int) := by
  rw [aI (by simp only [aK]; omega) (by simp only [aK]; omega)]
  rfl
 have e3 : i64.wrap (((l1.length + l2.length : Nat) : Int) + Int.ofNat l3.length) = ((l1.length + l2.length + l3.length : Nat) : Int) := by
  rw [aI (by simp only [aK]; omega) (by simp only [aK]; omega)]
  rfl
 have e4 : i64.wrap (((l1.length + l2.length + l3.length : Nat) : Int) - 0) = ((l1.length + l2.length + l3.length : Nat) : Int) := by
  rw [Int.sub_zero]
  exact aI (by omega) (by omega)
 rw [XW, e1, e2, e3, e4, bU (show ¬ ((l1.length : Int) < 0) by omega), bU (show ¬ (((l1.length + l2.length : Nat) : Int) < 0) by omega), bU (show ¬ (((l1.length + l2.length + l3.length : Nat) : Int) < 0) by omega)]
 have a1 : app ([] : af) l1 = some l1 := by rw [D1 (by unfold lim; simp; omega)]; rfl
 have a2 : app l1 l2 = some (l1 ++ l2) := D1 (by unfold lim; omega)
 have a3 : app (l1 ++ l2) l3 = some (l1 ++ l2 ++ l3) := D1 (by unfold lim; rw [List.length_append]; omega)
 simp only [ax, a1, a2, a3, aB]
 by_cases h0 : (((l1.length + l2.length + l3.length : Nat) : Int)) > 0
 ·rw [aD h0, aD (show ((l1.length + l2.length + l3.length : Nat) : Int) <= 4294967296 by omega)]
  rfl
 ·rw [bU h0]
  rfl
def unc : List Int -> Option (Int × af)
 | [] => none
 | x :: l => some (x, l)
def XX : List AV -> LHp -> Tq
 | [.os 0 0], [(0, .arr 31 zS 0 false [l1, l2, l3])] => .opt (unc (l1 ++ l2 ++ l3)) fun p => .br (decide (l1.length + l2.length + l3.length <= 65536)) (.leaf (.ret [.os 1 0]) [(0, .arr 31 (.slice aa) 0 false [l1, l2, l3]), (1, .arr 3 aa 0 false (p.1 :: p.2))]) .no
 | _, _ => .no
theorem Rp : bg 220 (ao XX) := by
 have h1 : bg 220 (au e13 f220 6 [(3, [0, 3, 9, 10, 11]), (11, [6, 25, 26, 27])]) := xT
 refine aO fun args hs ae aH h' => ?_
 unfold XX at h'
 split at h'
 ·simp only [Tq.run] at h'
  obtain ⟨p, hp, h2⟩ := aS h'
  clear h'
  obtain ⟨x, l⟩ := p
  obtain ⟨hb, h3⟩ := Tq.br_no (t := .leaf _ _) (show (Tq.br (decide _) (.leaf _ _) .no).run ah = some (ae, aH) from h2)
  cases h3
  have e : ∀ {ls : af}, unc ls = some (x, l) -> ls = x :: l := fun {ls} h => by
   cases ls with
   | nil => cases h
   | cons a b => cases h; rfl
  rw [← e hp]
  exact h1.okC (FB _ _ _ (aU hb))
 ·cases h'
end
end Go.Proofs.XRT
set_option maxRecDepth 100000
set_option maxHeartbeats 4000000
namespace Go.Proofs.XRT
open Go.Vm Go Go.RowKit Go.Lib Tryz IntKind
noncomputable section
noncomputable def y37 : FnE := au e0 f37 5 [(4, [0, 1, 5])]
theorem XY : bz 37 y37 := bD dJ func37 call37
noncomputable def g1 : Env := e0.add 37 y37
theorem FC : g1.Good := Env.Good.add dJ XY
noncomputable def y13 : FnE := au g1 f13 6 [(4, [2, 3, 5])]
theorem LJ : bz 13 y13 := bD FC func13 call13
noncomputable def g2 : Env := g1.add 13 y13
theorem FD : g2.Good := Env.Good.add FC LJ
noncomputable def y16 : FnE := au g2 f16 5 [(2, [0, 3])]
theorem LK : bz 16 y16 := bD FD func16 call16
noncomputable def g3 : Env := g2.add 16 y16
theorem FE : g3.Good := Env.Good.add FD LK
noncomputable def y50 : FnE := au g3 f50 3 []
theorem XZ : bz 50 y50 := bD FE func50 call50
noncomputable def g4 : Env := g3.add 50 y50
theorem Rq : g4.Good := Env.Good.add FE XZ
noncomputable def g5 : Env := g4.add 99 (fnE Q2)
theorem FF : g5.Good := Env.Good.add Rq Fx
noncomputable def aes : FnE := au g5 f109 3 []
theorem Rr : bz 109 aes := bD FF func109 call109
noncomputable def g6 : Env := g5.add 109 aes
theorem FG : g6.Good := Env.Good.add FF Rr
noncomputable def aet : FnE := au g6 f129 4 []
theorem FH : bz 129 aet := bD FG func129 call129
noncomputable def g7 : Env := g6.add 129 aet
theorem FI : g7.Good := Env.Good.add FG FH
noncomputable def aeu : FnE := au g7 f103 3 []
theorem Rs : bz 103 aeu := bD FI func103 call103
noncomputable def g8 : Env := g7.add 103 aeu
theorem FJ : g8.Good := Env.Good.add FI Rs
noncomputable def aev : FnE := au g8 f253 6 []
theorem Rt : bz 253 aev := bD FJ func253 call253
noncomputable def g9 : Env := g8.add 253 aev
theorem xW : g9.Good := Env.Good.add FJ Rt
noncomputable def aew : FnE := au g9 f156 5 [(2, [0, 1, 7, 8])]
theorem Ru : bz 156 aew := bD xW func156 call156
noncomputable def g10 : Env := g9.add 156 aew
theorem te : g10.Good := Env.Good.add xW Ru
noncomputable def aex : FnE := au g10 f108 4 []
theorem Rv : bz 108 aex := bD te func108 call108
noncomputable def g11 : Env := g10.add 108 aex
theorem LL : g11.Good := Env.Good.add te Rv
noncomputable def g12 : Env := g11.add 60 (ao LF)
theorem AX : g12.Good := Env.Good.add LL Ir
noncomputable def aey : FnE := au g12 f100 5 []
theorem Rw : bz 100 aey := bD AX func100 call100
noncomputable def g13 : Env := g12.add 100 aey
theorem AY : g13.Good := Env.Good.add AX Rw
noncomputable def aez : FnE := au g13 f101 3 []
theorem Rx : bz 101 aez := bD AY func101 call101
noncomputable def g14 : Env := g13.add 101 aez
theorem AZ : g14.Good := Env.Good.add AY Rx
noncomputable def aeA : FnE := au g14 f160 4 []
theorem Ry : bz 160 aeA := bD AZ func160 call160
noncomputable def g15 : Env := g14.add 160 aeA
theorem tf : g15.Good := Env.Good.add AZ Ry
noncomputable def aeB : FnE := au g15 f201 4 []
theorem Rz : bz 201 aeB := bD tf func201 call201
noncomputable def g16 : Env := g15.add 201 aeB
theorem tg : g16.Good := Env.Good.add tf Rz
noncomputable def aeC : FnE := au g16 f206 3 []
theorem RA : bz 206 aeC := bD tg func206 call206
noncomputable def g17 : Env := g16.add 206 aeC
theorem oK : g17.Good := Env.Good.add tg RA
noncomputable def aeD : FnE := au g17 f112 3 []
theorem RB : bz 112 aeD := bD oK func112 call112
noncomputable def g18 : Env := g17.add 112 aeD
theorem oL : g18.Good := Env.Good.add oK RB
noncomputable def aeE : FnE := au g18 f193 4 [(2, [0, 5, 6])]
theorem RC : bz 193 aeE := bD oL func193 call193
noncomputable def g19 : Env := g18.add 193 aeE
theorem l0 : g19.Good := Env.Good.add oL RC
noncomputable def aeF : FnE := au g19 f245 5 []
theorem RD : bz 245 aeF := bD l0 func245 call245
noncomputable def g20 : Env := g19.add 245 aeF
theorem th : g20.Good := Env.Good.add l0 RD
noncomputable def aeG : FnE := au g20 f198 4 []
theorem RE : bz 198 aeG := bD th func198 call198
noncomputable def g21 : Env := g20.add 198 aeG
theorem ti : g21.Good := Env.Good.add th RE
noncomputable def aeH : FnE := au g21 f197 4 []
theorem RF : bz 197 aeH := bD ti func197 call197
noncomputable def g22 : Env := g21.add 197 aeH
theorem A0 : g22.Good := Env.Good.add ti RF
noncomputable def aeI : FnE := au g22 f291 4 [(2, [2, 4])]
theorem RG : bz 291 aeI := bD A0 func291 call291
noncomputable def g23 : Env := g22.add 291 aeI
theorem A1 : g23.Good := Env.Good.add A0 RG
noncomputable def aeJ : FnE := au g23 f303 7 []
theorem RH : bz 303 aeJ := bD A1 func303 call303
noncomputable def g24 : Env := g23.add 303 aeJ
theorem A3 : g24.Good := Env.Good.add A1 RH
noncomputable def aeK : FnE := au g24 f292 5 []
theorem RI : bz 292 aeK := bD A3 func292 call292
noncomputable def g25 : Env := g24.add 292 aeK
theorem A4 : g25.Good := Env.Good.add A3 RI
noncomputable def aeL : FnE := au g25 f275 6 [(6, [0, 1, 6, 7])]
theorem RJ : bz 275 aeL := bD A4 func275 call275
noncomputable def g26 : Env := g25.add 275 aeL
theorem LM : g26.Good := Env.Good.add A4 RJ
noncomputable def g27 : Env := g26.addX 304 kX
theorem A5 : g27.Good := Env.Good.addX LM (uM func304 rfl (by decide +kernel) (by kernel_rfl) (by kernel_rfl))
noncomputable def aeM : FnE := au g27 f294 4 []
theorem RK : bz 294 aeM := bD A5 func294 call294
noncomputable def g28 : Env := g27.add 294 aeM
theorem A6 : g28.Good := Env.Good.add A5 RK
noncomputable def aeN : FnE := au g28 f296 3 []
theorem RL : bz 296 aeN := bD A6 func296 call296
noncomputable def g29 : Env := g28.add 296 aeN
theorem A7 : g29.Good := Env.Good.add A6 RL
noncomputable def aeO : FnE := au g29 f305 6 [(3, [0, 4, 5]), (8, [4, 6, 7, 8])]
theorem RM : bz 305 aeO := bD A7 func305 call305
noncomputable def g30 : Env := g29.add 305 aeO
theorem A8 : g30.Good := Env.Good.add A7 RM
noncomputable def aeP : FnE := au g30 f297 7 [(5, [0, 1, 5, 6, 7, 8, 9]), (11, [0, 1, 5, 6, 7, 8, 10])]
theorem RN : bz 297 aeP := bD A8 func297 call297
noncomputable def g31 : Env := g30.add 297 aeP
theorem A9 : g31.Good := Env.Good.add A8 RN
noncomputable def aeQ : FnE := au g31 f278 8 [(15, [0, 1, 5, 6, 7, 8, 9, 10])]
theorem RO : bz 278 aeQ := bD A9 func278 call278
noncomputable def g32 : Env := g31.add 278 aeQ
theorem Ba : g32.Good := Env.Good.add A9 RO
noncomputable def aeR : FnE := au g32 f277 4 []
theorem FK : bz 277 aeR := bD Ba func277 call277
noncomputable def g33 : Env := g32.add 277 aeR
theorem LN : g33.Good := Env.Good.add Ba FK
noncomputable def g34 : Env := g33.addX 293 xB
theorem Bb : g34.Good := Env.Good.addX LN (H5 func293 rfl (by decide +kernel) (by kernel_rfl) (by kernel_rfl))
noncomputable def aeT : FnE := au g34 f276 6 [(6, [0, 1, 5])]
theorem FL : bz 276 aeT := bD Bb func276 call276
noncomputable def g35 : Env := g34.add 276 aeT
theorem l4 : g35.Good := Env.Good.add Bb FL
noncomputable def aeU : FnE := au g35 f205 3 []
theorem RP : bz 205 aeU := bD l4 func205 call205
noncomputable def Wb : Env := g35.add 205 aeU
theorem kB : Wb.Good := Env.Good.add l4 RP
noncomputable def aeV : FnE := au Wb f246 5 []
theorem RQ : bz 246 aeV := bD kB func246 call246
noncomputable def g37 : Env := Wb.add 246 aeV
theorem Bc : g37.Good := Env.Good.add kB RQ
noncomputable def aeW : FnE := au g37 f202 4 []
theorem FM : bz 202 aeW := bD Bc func202 call202
noncomputable def g38 : Env := g37.add 202 aeW
theorem Be : g38.Good := Env.Good.add Bc FM
noncomputable def aeX : FnE := au g38 f247 5 []
theorem RR : bz 247 aeX := bD Be func247 call247
noncomputable def g39 : Env := g38.add 247 aeX
theorem Bf : g39.Good := Env.Good.add Be RR
noncomputable def aeY : FnE := au g39 f203 4 []
theorem FN : bz 203 aeY := bD Bf func203 call203
noncomputable def Wc : Env := g39.add 203 aeY
theorem jx : Wc.Good := Env.Good.add Bf FN
noncomputable def aeZ : FnE := au Wc f157 4 []
theorem RS : bz 157 aeZ := bD jx func157 call157
noncomputable def g41 : Env := Wc.add 157 aeZ
theorem Bg : g41.Good := Env.Good.add jx RS
noncomputable def ae1 : FnE := au g41 f161 3 []
theorem RT : bz 161 ae1 := bD Bg func161 call161
noncomputable def g42 : Env := g41.add 161 ae1
theorem Bh : g42.Good := Env.Good.add Bg RT
noncomputable def ae4 : FnE := au g42 f165 4 []
theorem RU : bz 165 ae4 := bD Bh func165 call165
noncomputable def g43 : Env := g42.add 165 ae4
theorem Bi : g43.Good := Env.Good.add Bh RU
noncomputable def ae5 : FnE := au g43 f158 7 []
theorem RV : bz 158 ae5 := bD Bi func158 call158
noncomputable def g44 : Env := g43.add 158 ae5
theorem LO : g44.Good := Env.Good.add Bi RV
noncomputable def g45 : Env := g44.addX 185 (Aw .f32 .u32)
theorem Bj : g45.Good := Env.Good.addX LO (Ax (row := Extern.MathFloatBits.float32bits) (fun _ => rfl) func185 rfl (by decide +kernel) (by kernel_rfl) (by kernel_rfl))
noncomputable def ae6 : FnE := au g45 f162 4 []
theorem RW : bz 162 ae6 := bD Bj func162 call162
noncomputable def g46 : Env := g45.add 162 ae6
theorem LP : g46.Good := Env.Good.add Bj RW
noncomputable def g47 : Env := g46.addX 184 (kv .f32 .u32)
theorem Bk : g47.Good := Env.Good.addX LP (ox (row := Extern.MathFloatBits.float32frombits) (fun _ => rfl) func184 rfl (by decide +kernel) (by kernel_rfl) (by kernel_rfl))
noncomputable def ae7 : FnE := au g47 f164 3 []
theorem RX : bz 164 ae7 := bD Bk func164 call164
noncomputable def g48 : Env := g47.add 164 ae7
theorem Bl : g48.Good := Env.Good.add Bk RX
noncomputable def ae8 : FnE := au g48 f159 7 []
theorem RY : bz 159 ae8 := bD Bl func159 call159
noncomputable def X0 : Env := g48.add 159 ae8
theorem Bm : X0.Good := Env.Good.add Bl RY
noncomputable def ae9 : FnE := au X0 f111 7 []
theorem FO : bz 111 ae9 := bD Bm func111 call111
noncomputable def g50 : Env := X0.add 111 ae9
theorem Bn : g50.Good := Env.Good.add Bm FO
noncomputable def g51 : Env := g50.addX 261 Fm
theorem Bo : g51.Good := Env.Good.addX Bn (KX func261 rfl (by decide +kernel) (by kernel_rfl) (by kernel_rfl))
noncomputable def afa : FnE := au g51 f234 3 []
theorem RZ : bz 234 afa := bD Bo func234 call234
noncomputable def g52 : Env := g51.add 234 afa
theorem LQ : g52.Good := Env.Good.add Bo RZ
noncomputable def g53 : Env := g52.addX 262 xG
theorem Bp : g53.Good := Env.Good.addX LQ (Ig func262 rfl (by decide +kernel) (by kernel_rfl) (by kernel_rfl))
noncomputable def afb : FnE := au g53 f282 3 []
theorem R1 : bz 282 afb := bD Bp func282 call282
noncomputable def g54 : Env := g53.add 282 afb
theorem LR : g54.Good := Env.Good.add Bp R1
noncomputable def g55 : Env := g54.addX 279 (kv .f64 .u64)
theorem LS : g55.Good := Env.Good.addX LR (ox (row := Extern.MathFloatBits.float64frombits) (fun _ => rfl) func279 rfl (by decide +kernel) (by kernel_rfl) (by kernel_rfl))
noncomputable def g56 : Env := g55.addX 306 (Aw .f64 .u64)
theorem Bq : g56.Good := Env.Good.addX LS (Ax (row := Extern.MathFloatBits.float64bits) (fun _ => rfl) func306 rfl (by decide +kernel) (by kernel_rfl) (by kernel_rfl))
noncomputable def afc : FnE := au g56 f299 3 []
theorem R2 : bz 299 afc := bD Bq func299 call299
noncomputable def g57 : Env := g56.add 299 afc
theorem Br : g57.Good := Env.Good.add Bq R2
noncomputable def afd : FnE := au g57 f283 4 []
theorem R3 : bz 283 afd := bD Br func283 call283
noncomputable def g58 : Env := g57.add 283 afd
theorem Bs : g58.Good := Env.Good.add Br R3
noncomputable def afe : FnE := au g58 f301 4 []
theorem R4 : bz 301 afe := bD Bs func301 call301
noncomputable def g59 : Env := g58.add 301 afe
theorem Bt : g59.Good := Env.Good.add Bs R4
noncomputable def aff : FnE := au g59 f308 5 []
theorem R5 : bz 308 aff := bD Bt func308 call308
noncomputable def g60 : Env := g59.add 308 aff
theorem Bu : g60.Good := Env.Good.add Bt R5
noncomputable def afg : FnE := au g60 f300 3 []
theorem R6 : bz 300 afg := bD Bu func300 call300
noncomputable def g61 : Env := g60.add 300 afg
theorem Bv : g61.Good := Env.Good.add Bu R6
noncomputable def afh : FnE := au g61 f284 4 []
theorem R7 : bz 284 afh := bD Bv func284 call284
noncomputable def g62 : Env := g61.add 284 afh
theorem Bw : g62.Good := Env.Good.add Bv R7
noncomputable def afi : FnE := au g62 f263 6 []
theorem R8 : bz 263 afi := bD Bw func263 call263
noncomputable def g63 : Env := g62.add 263 afi
theorem Bx : g63.Good := Env.Good.add Bw R8
noncomputable def afj : FnE := au g63 f235 3 []
theorem R9 : bz 235 afj := bD Bx func235 call235
noncomputable def g64 : Env := g63.add 235 afj
theorem By : g64.Good := Env.Good.add Bx R9
noncomputable def afk : FnE := au g64 f248 6 [(12, [4, 5, 6, 7])]
theorem Sa : bz 248 afk := bD By func248 call248
noncomputable def g65 : Env := g64.add 248 afk
theorem Bz : g65.Good := Env.Good.add By Sa
noncomputable def afl : FnE := au g65 f249 4 []
theorem Sb : bz 249 afl := bD Bz func249 call249
noncomputable def g66 : Env := g65.add 249 afl
theorem BA : g66.Good := Env.Good.add Bz Sb
noncomputable def afm : FnE := au g66 f250 6 []
theorem Sc : bz 250 afm := bD BA func250 call250
noncomputable def g67 : Env := g66.add 250 afm
theorem BB : g67.Good := Env.Good.add BA Sc
noncomputable def afn : FnE := au g67 f207 6 []
theorem Sd : bz 207 afn := bD BB func207 call207
noncomputable def X1 : Env := g67.add 207 afn
theorem BC : X1.Good := Env.Good.add BB Sd
noncomputable def afo : FnE := au X1 f146 7 []
theorem FP : bz 146 afo := bD BC func146 call146
noncomputable def g69 : Env := X1.add 146 afo
theorem tj : g69.Good := Env.Good.add BC FP
noncomputable def afp : FnE := au g69 f209 4 []
theorem Se : bz 209 afp := bD tj func209 call209
noncomputable def uw : Env := g69.add 209 afp
theorem fw : uw.Good := Env.Good.add tj Se
noncomputable def afq : FnE := au uw f107 4 []
noncomputable def Sf : FnE := nL afq
theorem xX : bz 107 Sf := mH (bD fw func107 call107) call107 V9 Wa
noncomputable def X2 : Env := uw.add 107 Sf
theorem oM : X2.Good := Env.Good.add fw xX
noncomputable def afr : FnE := au X2 f149 5 []
theorem FQ : bz 149 afr := bD oM func149 call149
noncomputable def g72 : Env := X2.add 149 afr
theorem tk : g72.Good := Env.Good.add oM FQ
noncomputable def aja : FnE := au g72 f40 4 []
noncomputable def y40 : FnE := nL aja
theorem LU : bz 40 y40 := mH (bD tk func40 call40) call40 aej aek
noncomputable def jP : Env := g72.add 40 y40
theorem jy : jP.Good := Env.Good.add tk LU
noncomputable def afs : FnE := au jP f252 5 [(2, [0, 1, 7, 8])]
theorem Sh : bz 252 afs := bD jy func252 call252
noncomputable def X3 : Env := jP.add 252 afs
theorem oN : X3.Good := Env.Good.add jy Sh
noncomputable def afu : FnE := au X3 f212 4 []
theorem FR : bz 212 afu := bD oN func212 call212
noncomputable def Is : Env := X3.add 212 afu
theorem dM : Is.Good := Env.Good.add oN FR
noncomputable def afv : FnE := au Is f254 4 []
theorem Si : bz 254 afv := bD dM func254 call254
noncomputable def D2 : Env := Is.add 254 afv
theorem kC : D2.Good := Env.Good.add dM Si
noncomputable def afw : FnE := au D2 f256 4 []
theorem FT : bz 256 afw := bD kC func256 call256
noncomputable def g77 : Env := D2.add 256 afw
theorem tm : g77.Good := Env.Good.add kC FT
noncomputable def afx : FnE := au g77 f257 5 []
theorem Sj : bz 257 afx := bD tm func257 call257
noncomputable def g78 : Env := g77.add 257 afx
theorem LV : g78.Good := Env.Good.add tm Sj
noncomputable def ry : Env := g78.add 220 (oF XX aem)
theorem dB : ry.Good := Env.Good.add LV (AN Rp xT)
noncomputable def It : lU := ⟨100, f100, 5, [], 5, 2, 15, [.tmp 4, .tmp 5]⟩
noncomputable def y86 : FnE := au ry f86 6 [(7, [0, 6, 7, 22, 23])]
theorem LW : bz 86 y86 := bD dB func86 call86
noncomputable def g80 : Env := ry.add 86 y86
theorem oO : g80.Good := Env.Good.add dB LW
noncomputable def iD : Env := g80.withRound (s8 g80 [])
theorem tp : iD.Good := Env.Good.withRound oO (vW oO bO [])
noncomputable def qM : FnE := au iD f186 6 [(2, [0, 1, 3, 4]), (4, [0, 1, 3, 4, 5])]
theorem FU : bz 186 qM := bD tp func186 call186
noncomputable def g82 : Env := iD.add 186 qM
theorem BD : g82.Good := Env.Good.add tp FU
noncomputable def afz : FnE := au g82 f130 3 []
theorem Sk : bz 130 afz := bD BD func130 call130
noncomputable def g83 : Env := g82.add 130 afz
theorem BE : g83.Good := Env.Good.add BD Sk
noncomputable def FV : Env := g83.withRound (s8 g83 [])
theorem tq : FV.Good := Env.Good.withRound BE (vW BE bO [])
noncomputable def qN : FnE := au FV f189 5 [(1, [0, 5, 6, 7])]
theorem FW : bz 189 qN := bD tq func189 call189
noncomputable def Wd : Env := FV.add 189 qN
theorem jz : Wd.Good := Env.Good.add tq FW
noncomputable def afA : FnE := au Wd f132 3 []
theorem Sl : bz 132 afA := bD jz func132 call132
noncomputable def We : Env := Wd.add 132 afA
theorem l5 : We.Good := Env.Good.add jz Sl
noncomputable def y81 : FnE := au We f81 4 []
theorem LX : bz 81 y81 := bD l5 func81 call81
noncomputable def Sm : Env := We.add 81 y81
theorem ix : Sm.Good := Env.Good.add l5 LX
end
end Go.Proofs.XRT
set_option maxRecDepth 100000
set_option maxHeartbeats 4000000
namespace Go.Proofs.XRT
open Go.Vm Go Tryz IntKind
noncomputable section
noncomputable def FX : Code := bd f49
noncomputable def zc6 : Code := cL (cL (cR (cL (cR FX))))
noncomputable def iG : Cfg := ⟨19, 5, 2, [(2, [0, 1, 7, 8])], true⟩
def hpK (kind : Int) (name : ak) : LHp := [(0, .box (I kind)), (1, .box (.d .str name))]
def LY (ag : bn) (kind : Int) (name : ak) (i : Int) : LSt := ⟨aw 5 [(0, .d (.slice (Y1)) ag), (1, .fn (.func 160) [] [.op 1 [] 0, .op 0 [] 0]), (7, I (Int.ofNat ag.length)), (8, I i)], hpK kind name, 4⟩
theorem X4 (ag : bn) (kind : Int) (name : ak) : aC eJ f49 5 [(2, [0, 1, 7, 8])] [.d (.slice (Y1)) ag, .fn (.func 160) [] [.op 1 [] 0, .op 0 [] 0]] (hpK kind name) ah = (hlp eJ iG) zc6 _ (LY ag kind name 0) (aQ 0 (aX eJ iG [2] (hlp eJ iG) (cR (cR FX)) (aZ prog 2 f49.results.toList ah))) := (bq [2] iG rfl).trans (by obtain ⟨hl, h⟩ := bc eJ iG; rw [h]; kernel_rfl)
theorem LZ (ag : bn) (kind : Int) (name : ak) (i : Int) (n : Nat) {R : Type} (k : AEx -> LSt -> Option R) : lp eJ iG zc6 (n + 1) (LY ag kind name i) k = bif decide (i < Int.ofNat ag.length) then (idx ag i).bind fun v1 => bif ie name kind v1 then k AEx.ret { fr := aw 5 [(0, AV.d Y1.slice ag), (1, AV.fn (Fn.func 160) [] [AV.op 1 [] 0, AV.op 0 [] 0]), (4, I i), (5, I i), (7, I (Int.ofNat ag.length)), (8, I i), (9, B true), (10, I i), (11, AV.fn (Fn.func 160) [] [AV.op 1 [] 0, AV.op 0 [] 0]), (12, AV.d Y1.slice ag), (13, I i), (14, AV.ip Y1 v1), (15, AV.d Y1 v1), (16, B true), (17, I i)], hp := [(0, aj.box (I kind)), (1, aj.box (AV.d Ty.str name)), (0, aj.box (I kind)), (1, aj.box (AV.d Ty.str name))], nx := 6 } else lp eJ iG zc6 n (LY ag kind name (i64.wrap (i + 1))) k else k (AEx.exit 0) { fr := aw 5 [(0, AV.d Y1.slice ag), (1, AV.fn (Fn.func 160) [] [AV.op 1 [] 0, AV.op 0 [] 0]), (7, I (Int.ofNat ag.length)), (8, I i), (9, B false)], hp := [(0, aj.box (I kind)), (1, aj.box (AV.d Ty.str name))], nx := 4 } := by kernel_rfl
theorem Sn (ag : bn) (kind : Int) (name : ak) (hl : ag.length <= maxLen) : aC eJ f49 5 [(2, [0, 1, 7, 8])] [.d (.slice (Y1)) ag, .fn (.func 160) [] [.op 1 [] 0, .op 0 [] 0]] (hpK kind name) ah = some (.ret [I (bk (ie name kind) ag)], hpK kind name) := by
 rw [X4]
 have hs := fun (i : Int) (n : Nat) => LZ ag kind name i n (aQ 0 (aX eJ iG [2] (hlp eJ iG) (cR (cR FX)) (aZ prog 2 f49.results.toList ah)))
 have h := fx (T := fun n s => lp eJ iG zc6 n s (aQ 0 (aX eJ iG [2] (hlp eJ iG) (cR (cR FX)) (aZ prog 2 f49.results.toList ah)))) (xs := ag) (st := fun i => LY ag kind name i) hl hs
 unfold LY hpK at h
 refine h.trans ?_
 unfold bk
 cases hq : ag.findIdx? (ie name kind) with
 | none => show _ = _; kernel_rfl
 | some i =>
  obtain ⟨hi, _⟩ := List.findIdx?_eq_some_iff_getElem.1 hq
  simp only [List.getElem?_eq_getElem hi, aB]
  show _ = _
  kernel_rfl
def X5 : List AV -> LHp -> Tq
 | [.d (.slice Y1) ag, .fn (.func 160) [] [.op 1 [] 0, .op 0 [] 0]], [(0, .box (.d zI kind)), (1, .box (.d .str name))] => .br (decide (ag.length <= maxLen)) (.leaf (.ret [I (bk (ie name kind) ag)]) (hpK kind name)) .no
 | _, _ => .no
theorem Sp : bg 49 (ao X5) := by
 refine bW Ro bO func49 call49 (depth := 5) (live := [(2, [0, 1, 7, 8])]) (by decide +kernel) rfl fun args hs p h => ?_
 unfold X5 at h
 split at h
 ·obtain ⟨hl, h⟩ := Tq.br_no h
  cases h
  have hl := aU hl
  exact Sn _ _ _ hl
 ·cases h
noncomputable def gFd : Env := g18.add 49 (ao X5)
theorem L0 : gFd.Good := oL.add Sp
abbrev cO (op nm : ak) (ins : List (ak)) (out : ak) (ag : bn) : AV := .d (Y2) (op, nm, ins, out, ag, ())
theorem X6 (op nm : ak) (ins : List (ak)) (out : ak) (ag : bn) (name : ak) (kind : Int) : aC gFd f64 5 [] [cO op nm ins out ag, .d .str name, I kind] [] ah = bif decide (ag.length <= 9223372036854775807) then bif decide (bk (fun a => a.fst == name && a.snd.fst == kind) ag < 0) then az [(AV.d Ty.str []).pr ((I 0).pr ((I 0).pr ((I 0).pr ((AV.d Ty.str []).pr (((I 0).pr (AV.nils.pr (AV.nils.pr (AV.d Ty.unit PUnit.unit)))).pr (AV.nils.pr (AV.d Ty.unit PUnit.unit))))))), B false] else (idx ag (bk (fun a => a.fst == name && a.snd.fst == kind) ag)).bind fun v2 => az [AV.d Y1 v2, B true] else none := by kernel_rfl
def X7 (ag : bn) (name : ak) (kind : Int) : Tq :=
 .br (decide (ag.length <= 9223372036854775807)) (.br (decide (bk (ie name kind) ag < 0)) (.leaf (.ret [XV, B false]) []) (.opt (ag.find? (ie name kind)) fun a => .leaf (.ret [.d (Y1) a, B true]) [])) .no
def D3 : List AV -> LHp -> Tq
 | [.d Y2 (_, _, _, _, ag, _), .d .str name, .d zI kind], [] => X7 ag name kind
 | _, _ => .no
theorem Sq (op nm : ak) (ins : List (ak)) (out : ak) (ag : bn) (name : ak) (kind : Int) : aC gFd f64 5 [] [cO op nm ins out ag, .d .str name, I kind] [] ah = (X7 ag name kind).run ah := by
 rw [X6]
 simp only [td]
 unfold X7
 show _ = _
 kernel_rfl
theorem oP : bg 64 (ao D3) := by
 have h1 := bD (d := 5) (l := []) L0 func64 call64
 refine aO fun args hs ae aH h' => ?_
 unfold D3 at h'
 split at h'
 ·exact h1.okC ((Sq _ _ _ _ _ _ _).trans h')
 ·cases h'
def aT (ag : bn) (name : ak) (other : Int) : Int := match ag.find? (ie name 2) with | some a => a.2.2.2.1 | none => other
def al (ag : bn) (name : ak) (other : af) : af := match ag.find? (ie name 7) with | some a => a.2.2.2.2.2.2.1 | none => other
noncomputable def gI1 : Env := Wc.add 64 (ao D3)
theorem L1 : gI1.Good := jx.add oP
theorem X8 (op nm : ak) (ins : List (ak)) (out : ak) (ag : bn) (name : ak) (other : Int) : aC gI1 f59 5 [] [cO op nm ins out ag, .d .str name, I other] [] ah = bif decide (ag.length <= 9223372036854775807) then bif decide (bk (fun a => a.fst == name && a.snd.fst == 2) ag < 0) then az [I other] else (List.find? (fun a => a.fst == name && a.snd.fst == 2) ag).bind fun v2 => az [I v2.2.2.2.1] else none := by kernel_rfl
theorem jW {α : Type} (p : α -> Bool) (xs : List α) : decide (bk p xs < 0) = (xs.find? p).isNone := by
 unfold bk
 cases h : xs.findIdx? p with
 | none =>
  rw [List.findIdx?_eq_none_iff] at h
  rw [List.find?_eq_none.2 (fun x hx => by simp [h x hx])]
  rfl
 | some i =>
  obtain ⟨hi, hp, hn⟩ := List.findIdx?_eq_some_iff_getElem.1 h
  rw [List.find?_eq_some_iff_getElem.2 ⟨hp, i, hi, rfl, fun j hj => by simpa using hn j hj⟩]
  exact bU (by show ¬ ((i : Nat) : Int) < 0; omega)
theorem Sr {op nm : ak} {ins : List (ak)} {out : ak} {ag : bn} {name : ak} {other : Int} (hl : ag.length <= maxLen) : aC gI1 f59 5 [] [cO op nm ins out ag, .d .str name, I other] [] ah = some (.ret [I (aT ag name other)], []) := by
 rw [X8, aD (show ag.length <= 9223372036854775807 from hl), jW]
 unfold aT
 show (bif true then (bif (ag.find? (ie name 2)).isNone then _ else (ag.find? (ie name 2)).bind _) else _) = _
 cases ag.find? (ie name 2) <;> rfl
def qO : List AV -> LHp -> Tq
 | [.d Y2 (_, _, _, _, ag, _), .d .str name, .d zI other], [] => .br (decide (ag.length <= maxLen)) (.leaf (.ret [I (aT ag name other)]) []) .no
 | _, _ => .no
theorem ig : bg 59 (ao qO) := by
 refine bW L1 bO func59 call59 (depth := 5) (live := []) (by decide +kernel) rfl fun args hs p h => ?_
 unfold qO at h
 split at h
 ·obtain ⟨hl, h⟩ := Tq.br_no h
  cases h
  have hl := aU hl
  exact Sr hl
 ·cases h
theorem X9 (a : Int) (d : af) : aC g72 f40 4 [] [.d (.slice aa) (a :: d)] [] ah = (app [] (a :: d)).bind fun v0 => some (aq.ret [AV.os 0 0], [(0, aj.arr 2 (aa) 0 false v0)]) := by kernel_rfl
theorem Ya (a : Int) (d : af) (z : Bool) : aC g72 f40 4 [] [.os 0 0] [(0, .arr 2 aa 0 z (a :: d))] ah = (app [] (a :: d)).bind fun v0 => some (aq.ret [AV.os 1 0], [(0, aj.arr 2 (aa) 0 z (a :: d)), (1, aj.arr 2 (aa) 0 false v0)]) := by kernel_rfl
def Ss : List AV -> LHp -> Tq
 | [.d zS xs], [] => .br (decide (xs = [])) (.leaf (.ret [.emp]) []) (.br (decide (xs.length <= 2147483648)) (.leaf (.ret [.os 0 0]) [(0, .arr 2 aa 0 false xs)]) .no)
 | [.os 0 0], [(0, .arr 2 zI 0 z xs)] => .br (decide (xs = [])) .no (.br (decide (xs.length <= 2147483648)) (.leaf (.ret [.os 1 0]) [(0, .arr 2 aa 0 z xs), (1, .arr 2 aa 0 false xs)]) .no)
 | [.nils], [] => .leaf (.ret [.nils]) []
 | _, _ => .no
theorem St {xs : af} (h : xs.length <= 2147483648) : app [] xs = some xs := dI (by simp only [List.length_nil, lim]; omega)
theorem Yb (u : Unit) : aC g72 f40 4 [] [.nils] [] ah = az [AV.nils] := by kernel_rfl
theorem FY : bg 40 (ao Ss) := by
 have h2 := bD (d := 4) (l := []) tk func40 call40
 have h1 : bg 40 y40 := LU
 refine aO fun args hs ae aH h' => ?_
 unfold Ss at h'
 split at h'
 ·rename_i xs
  cases xs with
  | nil =>
   cases h'
   exact h1.2 _ _ _ _ rfl
  | cons a d =>
   have h3 : (Tq.br (decide ((a :: d).length <= 2147483648)) (.leaf (.ret [.os 0 0]) [(0, .arr 2 aa 0 false (a :: d))]) .no).run ah = some (ae, aH) := h'
   obtain ⟨hb, h4⟩ := Tq.br_no h3
   exact h2.okC ((X9 a d).trans (Eq.trans (by rw [St (aU hb)]; rfl) h4))
 ·rename_i z xs
  cases xs with
  | nil => cases h'
  | cons a d =>
   have h3 : (Tq.br (decide ((a :: d).length <= 2147483648)) (.leaf (.ret [.os 1 0]) [(0, .arr 2 aa 0 z (a :: d)), (1, .arr 2 aa 0 false (a :: d))]) .no).run ah = some (ae, aH) := h'
   obtain ⟨hb, h4⟩ := Tq.br_no h3
   exact h2.okC ((Ya a d z).trans (Eq.trans (by rw [St (aU hb)]; rfl) h4))
 ·cases h'
  exact h2.okC (Yb ())
 ·cases h'
noncomputable def gIs : Env := (jP.add 64 (ao D3)).add 40 (ao Ss)
theorem tt : gIs.Good := (jy.add oP).add FY
theorem Yc (op nm : ak) (ins : List (ak)) (out : ak) (ag : bn) (name : ak) : aC gIs f25 5 [] [cO op nm ins out ag, .d .str name, .nils] [] ah = bif decide (ag.length <= 9223372036854775807) then bif decide (bk (fun a => a.fst == name && a.snd.fst == 7) ag < 0) then az [AV.nils] else (List.find? (fun a => a.fst == name && a.snd.fst == 7) ag).bind fun v2 => bif decide (v2.2.2.2.2.2.2.1 = []) then az [AV.emp] else bif decide (List.length v2.2.2.2.2.2.2.1 <= 2147483648) then some (aq.ret [AV.os 0 0], [(0, aj.arr 2 (aa) 0 false v2.2.2.2.2.2.2.1)]) else none else none := by kernel_rfl
theorem Yd (op nm : ak) (ins : List (ak)) (out : ak) (ag : bn) (name : ak) (o : Int) (other : af) : aC gIs f25 5 [] [cO op nm ins out ag, .d .str name, .os 0 0] [(0, .arr 2 aa 0 false (o :: other))] ah = bif decide (ag.length <= 9223372036854775807) then bif decide (bk (fun a => a.fst == name && a.snd.fst == 7) ag < 0) then bif decide ((o :: other).length <= 2147483648) then some (aq.ret [AV.os 1 0], [(0, aj.arr 2 (aa) 0 false (o :: other)), (1, aj.arr 2 (aa) 0 false (o :: other))]) else none else (List.find? (fun a => a.fst == name && a.snd.fst == 7) ag).bind fun v2 => bif decide (v2.2.2.2.2.2.2.1 = []) then some (aq.ret [AV.emp], [(0, aj.arr 2 (aa) 0 false (o :: other))]) else bif decide (List.length v2.2.2.2.2.2.2.1 <= 2147483648) then some (aq.ret [AV.os 1 0], [(0, aj.arr 2 (aa) 0 false (o :: other)), (1, aj.arr 2 (aa) 0 false v2.2.2.2.2.2.2.1)]) else none else none := by kernel_rfl
def cB (lo hi : Int) (l : af) : Bool := l.all fun v => decide (lo <= v) && decide (v <= hi)
def kD (o : af) : LHp := [(0, .arr 2 aa 0 false o)]
def afB (o l : af) : LHp := [(0, .arr 2 aa 0 false o), (1, .arr 2 aa 0 false l)]
def L2 : List AV -> LHp -> Tq
 | [.d Y2 (_, _, _, _, ag, _), .d .str name, .nils], [] => .br (decide (ag.length <= maxLen)) (.br (ag.find? (ie name 7)).isNone (.leaf (.ret [.nils]) []) (.br (decide (al ag name [] = [])) (.leaf (.ret [.emp]) []) (.br (decide ((al ag name []).length <= 2147483648)) (.leaf (.ret [.os 0 0]) (kD (al ag name []))) .no))) .no
 | _, _ => .no
def L3 : List AV -> LHp -> Tq
 | [.d Y2 (_, _, _, _, ag, _), .d .str name, .os 0 0], [(0, .arr 2 zI 0 false ot)] => .br (!ot.isEmpty) (.br (decide (ag.length <= maxLen)) (.br (decide (al ag name ot = [])) (.leaf (.ret [.emp]) (kD ot)) (.br (decide ((al ag name ot).length <= 2147483648)) (.leaf (.ret [.os 1 0]) (afB ot (al ag name ot))) .no)) .no) .no
 | _, _ => .no
theorem L4 : bg 25 (ao L2) := by
 have h1 := bD (d := 5) (l := []) tt func25 call25
 refine aO fun args hs ae aH h' => ?_
 unfold L2 at h'
 split at h'
 ·rename_i ag _ name
  obtain ⟨hl, h2⟩ := Tq.br_no h'
  refine h1.okC ?_
  rw [Yc, aD (show ag.length <= 9223372036854775807 from aU hl), jW]
  refine Eq.trans ?_ h2
  unfold al
  show (bif true then (bif (ag.find? (ie name 7)).isNone then _ else (ag.find? (ie name 7)).bind _) else _) = _
  cases ag.find? (ie name 7) <;> rfl
 ·cases h'
theorem L5 : bg 25 (ao L3) := by
 have h1 := bD (d := 5) (l := []) tt func25 call25
 refine aO fun args hs ae aH h' => ?_
 unfold L3 at h'
 split at h'
 ·rename_i ag _ name ot
  obtain ⟨ho, wN⟩ := Tq.br_no h'
  obtain ⟨hb, h2⟩ := Tq.br_no wN
  have hl := aU hb
  cases ot with
  | nil => exact absurd ho (by decide)
  | cons o ot =>
   refine h1.okC ?_
   rw [Yd, aD (show ag.length <= 9223372036854775807 from hl), jW]
   refine Eq.trans ?_ h2
   unfold al
   show (bif true then (bif (ag.find? (ie name 7)).isNone then _ else (ag.find? (ie name 7)).bind _) else _) = _
   cases ag.find? (ie name 7) <;> rfl
 ·cases h'
def Ye (args : List AV) (hs : LHp) : Tq := orT (L2 args hs) (L3 args hs)
theorem FZ : bg 25 (ao Ye) := ky L4 L5
noncomputable def F0 : Code := bd f215
noncomputable def Iu : Code := cL (cL (cR (cL (cR (cR (cR F0))))))
noncomputable def di : Cfg := ⟨47, 6, 1, [(4, [3, 4, 5, 14, 21, 22, 23])], true⟩
noncomputable def BF : Code := bd f215
noncomputable def CS : Code := cL (cL (cR (cL (cR (cR (cR BF))))))
noncomputable def cv : Cfg := ⟨47, 6, 0, [(4, [3, 4, 5, 14, 21, 22, 23])], true⟩
noncomputable def je : Env := Is.add 25 (ao Ye)
theorem BG : je.Good := dM.add FZ
theorem Yf (op nm : ak) (ins : List (ak)) (out : ak) (ag : bn) (name : ak) (c lo hi o : Int) (ot : af) : aC je f215 6 [(4, [3, 4, 5, 14, 21, 22, 23])] [cO op nm ins out ag, .d .str name, .os 0 0, I c, I lo, I hi] (kD (o :: ot)) ah = bif decide (ag.length <= 9223372036854775807) then bif decide (al ag name (o :: ot) = []) then (hlp je di) Iu _ { fr := aw 6 [(3, I c), (4, I lo), (5, I hi), (14, AV.nils), (21, AV.emp), (22, I 0), (23, I 0)], hp := [(0, aj.arr 2 (aa) 0 false (o :: ot))], nx := 2 } (aQ 0 (aX je di [4] (hlp je di) (cR (cR (cR (cR F0)))) (aZ prog 1 f215.results.toList ah))) else bif decide ((al ag name (o :: ot)).length <= 2147483648) then (hlp je di) Iu _ { fr := aw 6 [(3, I c), (4, I lo), (5, I hi), (14, AV.nils), (21, AV.os 1 0), (22, I (Int.ofNat (al ag name (o :: ot)).length)), (23, I 0)], hp := [(0, aj.arr 2 (aa) 0 false (o :: ot)), (1, aj.arr 2 (aa) 0 false (al ag name (o :: ot)))], nx := 3 } (aQ 0 (aX je di [4] (hlp je di) (cR (cR (cR (cR F0)))) (aZ prog 1 f215.results.toList ah))) else none else none := (bq [4] di rfl).trans (by obtain ⟨hl, h⟩ := bc je di; rw [h]; kernel_rfl)
theorem Yg (op nm : ak) (ins : List (ak)) (out : ak) (ag : bn) (name : ak) (c lo hi : Int) : aC je f215 6 [(4, [3, 4, 5, 14, 21, 22, 23])] [cO op nm ins out ag, .d .str name, .nils, I c, I lo, I hi] [] ah = bif decide (ag.length <= 9223372036854775807) then bif (List.find? (fun a => a.fst == name && a.snd.fst == 7) ag).isNone then (hlp je cv) CS _ { fr := aw 6 [(3, I c), (4, I lo), (5, I hi), (14, AV.nils), (21, AV.nils), (22, I 0), (23, I 0)], hp := [], nx := 0 } (aQ 0 (aX je cv [4] (hlp je cv) (cR (cR (cR (cR BF)))) (aZ prog 0 f215.results.toList ah))) else bif decide (al ag name [] = []) then (hlp je cv) CS _ { fr := aw 6 [(3, I c), (4, I lo), (5, I hi), (14, AV.nils), (21, AV.emp), (22, I 0), (23, I 0)], hp := [], nx := 0 } (aQ 0 (aX je cv [4] (hlp je cv) (cR (cR (cR (cR BF)))) (aZ prog 0 f215.results.toList ah))) else bif decide ((al ag name []).length <= 2147483648) then (hlp je cv) CS _ { fr := aw 6 [(3, I c), (4, I lo), (5, I hi), (14, AV.nils), (21, AV.os 0 0), (22, I (Int.ofNat (al ag name []).length)), (23, I 0)], hp := [(0, aj.arr 2 (aa) 0 false (al ag name []))], nx := 1 } (aQ 0 (aX je cv [4] (hlp je cv) (cR (cR (cR (cR BF)))) (aZ prog 0 f215.results.toList ah))) else none else none := (bq [4] cv rfl).trans (by obtain ⟨hl, h⟩ := bc je cv; rw [h]; kernel_rfl)
def xY (c lo hi : Int) (pm ot L : af) (i : Int) : LSt := { fr := aw 6 [(3, I c), (4, I lo), (5, I hi), (14, AV.nils), (21, AV.os 1 0), (22, I (Int.ofNat L.length)), (23, I i)], hp := kD ot ++ [(1, aj.arr 2 aa 0 false L)], nx := 3 }
def F3 (pm ot out L : af) : LHp := kD ot ++ [(1, aj.arr 3 aa 0 false out), (2, aj.arr 2 aa 0 false L)]
def xZ (c lo hi : Int) (pm ot out L : af) (i : Int) : LSt := { fr := aw 6 [(3, I c), (4, I lo), (5, I hi), (14, AV.os 1 0), (21, AV.os 2 0), (22, I (Int.ofNat L.length)), (23, I i)], hp := F3 pm ot out L, nx := 4 }
theorem L6 (c lo hi : Int) (pm ot L : af) (i : Int) (n : Nat) {R : Type} (k : AEx -> LSt -> Option R) : lp je di Iu (n + 1) (xY c lo hi pm ot L i) k = bif decide (i < Int.ofNat L.length) then (idx L i).bind fun v1 => (L[i.toNat]?).bind fun v2 => bif decide (lo <= v2) then bif !decide (v2 <= hi) then k (AEx.panic 131 4) { fr := aw 6 [(3, I c), (4, I lo), (5, I hi), (14, AV.nils), (16, I v2), (21, AV.os 1 0), (22, I (Int.ofNat L.length)), (23, I i), (24, B true), (25, AV.oe 1 0 i.toNat), (26, I v2), (27, I lo), (28, I v2), (29, B (decide (lo <= v2))), (30, B true), (31, I v2), (32, I hi), (33, B (decide (v2 <= hi))), (34, B (decide (v2 <= hi)))], hp := [(0, aj.arr 2 (aa) 0 false ot), (1, aj.arr 2 (aa) 0 false L)], nx := 3 } else lp je di Iu n (xZ c lo hi [] ot [v2] L (i64.wrap (i + 1))) k else k (AEx.panic 131 4) { fr := aw 6 [(3, I c), (4, I lo), (5, I hi), (14, AV.nils), (16, I v2), (21, AV.os 1 0), (22, I (Int.ofNat L.length)), (23, I i), (24, B true), (25, AV.oe 1 0 i.toNat), (26, I v2), (27, I lo), (28, I v2), (29, B (decide (lo <= v2))), (30, B false), (31, AV.tup []), (32, AV.tup []), (33, AV.tup []), (34, B false)], hp := [(0, aj.arr 2 (aa) 0 false ot), (1, aj.arr 2 (aa) 0 false L)], nx := 3 } else k (AEx.exit 0) { fr := aw 6 [(3, I c), (4, I lo), (5, I hi), (14, AV.nils), (21, AV.os 1 0), (22, I (Int.ofNat L.length)), (23, I i), (24, B false)], hp := [(0, aj.arr 2 (aa) 0 false ot), (1, aj.arr 2 (aa) 0 false L)], nx := 3 } := by kernel_rfl
theorem BH (c lo hi o : Int) (pm ot out L : af) (i : Int) (n : Nat) {R : Type} (k : AEx -> LSt -> Option R) : lp je di Iu (n + 1) (xZ c lo hi pm ot (o :: out) L i) k = bif decide (i < Int.ofNat L.length) then (idx L i).bind fun v1 => (L[i.toNat]?).bind fun v2 => bif decide (lo <= v2) then bif !decide (v2 <= hi) then k (AEx.panic 131 4) { fr := aw 6 [(3, I c), (4, I lo), (5, I hi), (14, AV.os 1 0), (16, I v2), (21, AV.os 2 0), (22, I (Int.ofNat L.length)), (23, I i), (24, B true), (25, AV.oe 2 0 i.toNat), (26, I v2), (27, I lo), (28, I v2), (29, B (decide (lo <= v2))), (30, B true), (31, I v2), (32, I hi), (33, B (decide (v2 <= hi))), (34, B (decide (v2 <= hi)))], hp := [(0, aj.arr 2 (aa) 0 false ot), (1, aj.arr 3 (aa) 0 false (o :: out)), (2, aj.arr 2 (aa) 0 false L)], nx := 4 } else (app (o :: out) [v2]).bind fun v5 => lp je di Iu n (xZ c lo hi [] ot v5 L (i64.wrap (i + 1))) k else k (AEx.panic 131 4) { fr := aw 6 [(3, I c), (4, I lo), (5, I hi), (14, AV.os 1 0), (16, I v2), (21, AV.os 2 0), (22, I (Int.ofNat L.length)), (23, I i), (24, B true), (25, AV.oe 2 0 i.toNat), (26, I v2), (27, I lo), (28, I v2), (29, B (decide (lo <= v2))), (30, B false), (31, AV.tup []), (32, AV.tup []), (33, AV.tup []), (34, B false)], hp := [(0, aj.arr 2 (aa) 0 false ot), (1, aj.arr 3 (aa) 0 false (o :: out)), (2, aj.arr 2 (aa) 0 false L)], nx := 4 } else k (AEx.exit 0) { fr := aw 6 [(3, I c), (4, I lo), (5, I hi), (14, AV.os 1 0), (21, AV.os 2 0), (22, I (Int.ofNat L.length)), (23, I i), (24, B false)], hp := [(0, aj.arr 2 (aa) 0 false ot), (1, aj.arr 3 (aa) 0 false (o :: out)), (2, aj.arr 2 (aa) 0 false L)], nx := 4 } := by kernel_rfl
noncomputable def J2 : AEx -> LSt -> Option (aq × LHp) := (aQ 0 (aX je di [4] (hlp je di) (cR (cR (cR (cR F0)))) (aZ prog 1 f215.results.toList ah)))
def F4 (c lo hi v : Int) (q : AV) (i l : Int) (b : Bool) (r s : Nat) (hp : LHp) (nx : Nat) : LSt := { fr := aw 6 [(3, I c), (4, I lo), (5, I hi), (14, q), (16, I v), (21, AV.os r 0), (22, I l), (23, I i), (24, B true), (25, AV.oe s 0 i.toNat), (26, I v), (27, I lo), (28, I v), (29, B (decide (lo <= v))), (30, B true), (31, I v), (32, I hi), (33, B (decide (v <= hi))), (34, B b)], hp := hp, nx := nx }
def F5 (c lo hi v : Int) (q : AV) (i l : Int) (r s : Nat) (hp : LHp) (nx : Nat) : LSt := { fr := aw 6 [(3, I c), (4, I lo), (5, I hi), (14, q), (16, I v), (21, AV.os r 0), (22, I l), (23, I i), (24, B true), (25, AV.oe s 0 i.toNat), (26, I v), (27, I lo), (28, I v), (29, B (decide (lo <= v))), (30, B false), (31, AV.tup []), (32, AV.tup []), (33, AV.tup []), (34, B false)], hp := hp, nx := nx }
theorem Yh (c lo hi v i l : Int) (b : Bool) (pm ot L : af) : J2 (.panic 131 4) (F4 c lo hi v .nils i l b 1 1 (kD ot ++ [(1, aj.arr 2 aa 0 false L)]) 7) = some (aq.panic 131 4, [(0, aj.arr 2 (aa) 0 false ot)]) := by kernel_rfl
theorem Yi (c lo hi v i l : Int) (pm ot L : af) : J2 (.panic 131 4) (F5 c lo hi v .nils i l 1 1 (kD ot ++ [(1, aj.arr 2 aa 0 false L)]) 7) = some (aq.panic 131 4, [(0, aj.arr 2 (aa) 0 false ot)]) := by kernel_rfl
theorem Yj (c lo hi v i l : Int) (b : Bool) (pm ot out L : af) : J2 (.panic 131 4) (F4 c lo hi v (.os 1 0) i l b 2 2 (F3 pm ot out L) 8) = some (aq.panic 131 4, [(0, aj.arr 2 (aa) 0 false ot)]) := by kernel_rfl
theorem Yk (c lo hi v i l : Int) (pm ot out L : af) : J2 (.panic 131 4) (F5 c lo hi v (.os 1 0) i l 2 2 (F3 pm ot out L) 8) = some (aq.panic 131 4, [(0, aj.arr 2 (aa) 0 false ot)]) := by kernel_rfl
theorem Yl (c lo hi i l : Int) (pm ot out L : af) : J2 (.exit 0) { fr := aw 6 [(3, I c), (4, I lo), (5, I hi), (14, AV.os 1 0), (21, AV.os 2 0), (22, I l), (23, I i), (24, B false)], hp := F3 pm ot out L, nx := 4 } = bif !Int.ofNat out.length == c then some (aq.panic 131 4, [(0, aj.arr 2 (aa) 0 false ot)]) else some (aq.ret [AV.os 1 0], [(0, aj.arr 2 (aa) 0 false ot), (1, aj.arr 3 (aa) 0 false out)]) := by kernel_rfl
def iy (c lo hi : Int) (pm ot l : af) : Option (aq × LHp) := bif cB lo hi l && (Int.ofNat pm.length == c) then some (.ret [.os 1 0], kD ot ++ [(1, .arr 3 aa 0 false pm)]) else some (.panic 131 4, kD ot)
theorem Iv {c lo hi : Int} {pm ot : af} (hl : pm.length <= 2147483648) : ∀ (r i n : Nat), i + r = pm.length -> 1 <= i -> r < n ->
  lp je di Iu n (xZ c lo hi pm ot (pm.take i) pm (i : Nat)) J2 = iy c lo hi pm ot (pm.drop i) := by
 intro r
 induction r with
 | zero =>
  intro i n hir h1 hn
  obtain ⟨n, rfl⟩ : ∃ m', n = m' + 1 := ⟨n - 1, by omega⟩
  rw [List.take_of_length_le (by omega), List.drop_eq_nil_of_le (by omega)]
  cases hpm : pm with
  | nil => rw [hpm] at hir; simp only [List.length_nil] at hir; omega
  | cons o out =>
   rw [hpm] at hir
   rw [BH, bU (show ¬ ((i : Int) < Int.ofNat (o :: out).length) by simp only [aK]; omega), ax]
   refine (Yl _ _ _ _ _ [] ot _ _).trans ?_
   unfold iy cB
   simp only [List.all_nil, Bool.true_and]
   cases (Int.ofNat (o :: out).length == c) <;> rfl
 | succ r ih =>
  intro i n hir h1 hn
  obtain ⟨n, rfl⟩ : ∃ m', n = m' + 1 := ⟨n - 1, by omega⟩
  have bJ : i < pm.length := by omega
  have e0 : i64.wrap ((i : Int) + 1) = ((i + 1 : Nat) : Int) := by rw [aI (by omega) (by omega)]; omega
  have gx : pm[i]? = some pm[i] := List.getElem?_eq_getElem bJ
  have gi : idx pm (i : Int) = some pm[i] := by unfold idx; rw [if_pos (by omega), Int.toNat_natCast, gx]
  have ed : pm.drop i = pm[i] :: pm.drop (i + 1) := List.drop_eq_getElem_cons bJ
  have et : pm.take (i + 1) = pm.take i ++ [pm[i]] := (List.take_append_getElem bJ).symm
  have key := ih (i + 1) n (by omega) (by omega) (by omega)
  cases ht : pm.take i with
  | nil =>
   have := congrArg List.length ht
   rw [List.length_take, List.length_nil] at this
   omega
  | cons o out =>
   have hlen : (o :: out).length + [pm[i]].length <= lim := by rw [List.length_singleton, show lim = 4294967296 from rfl]; rw [← ht, List.length_take]; omega
   rw [BH, aD (show ((i : Int) < Int.ofNat pm.length) by simp only [aK]; omega), ai, gi, aB, Int.toNat_natCast, gx, aB]
   cases h2 : decide (lo <= pm[i]) with
   | false =>
    have er : iy c lo hi pm ot (pm.drop i) = some (.panic 131 4, kD ot) := by
     unfold iy cB
     rw [ed, List.all_cons, h2]
     rfl
    rw [er, ax]
    have x := Yk c lo hi pm[i] (i : Int) (Int.ofNat pm.length) pm ot (o :: out) pm
    unfold F5 at x
    rw [h2] at x
    exact x
   | true =>
    rw [ai]
    cases h3 : decide (pm[i] <= hi) with
    | false =>
     have er : iy c lo hi pm ot (pm.drop i) = some (.panic 131 4, kD ot) := by
      unfold iy cB
      rw [ed, List.all_cons, h2, h3]
      rfl
     rw [er, Bool.not_false, ai]
     have x := Yj c lo hi pm[i] (i : Int) (Int.ofNat pm.length) false pm ot (o :: out) pm
     unfold F4 at x
     rw [h2, h3] at x
     exact x
    | true =>
     have er : iy c lo hi pm ot (pm.drop i) = iy c lo hi pm ot (pm.drop (i + 1)) := by
      unfold iy cB
      rw [ed, List.all_cons, h2, h3]
      rfl
     rw [er, Bool.not_true, ax, dI hlen, aB, e0, ← ht, ← et]
     exact key
def x4 (c lo hi : Int) (pm ot L : af) (i : Int) : LSt := { fr := aw 6 [(3, I c), (4, I lo), (5, I hi), (14, AV.nils), (21, AV.os 0 0), (22, I (Int.ofNat L.length)), (23, I i)], hp := [] ++ [(0, aj.arr 2 aa 0 false L)], nx := 1 }
def F6 (pm ot out L : af) : LHp := [] ++ [(0, aj.arr 3 aa 0 false out), (1, aj.arr 2 aa 0 false L)]
def x5 (c lo hi : Int) (pm ot out L : af) (i : Int) : LSt := { fr := aw 6 [(3, I c), (4, I lo), (5, I hi), (14, AV.os 0 0), (21, AV.os 1 0), (22, I (Int.ofNat L.length)), (23, I i)], hp := F6 pm ot out L, nx := 2 }
theorem L7 (c lo hi : Int) (pm ot L : af) (i : Int) (n : Nat) {R : Type} (k : AEx -> LSt -> Option R) : lp je cv CS (n + 1) (x4 c lo hi pm ot L i) k = bif decide (i < Int.ofNat L.length) then (idx L i).bind fun v1 => (L[i.toNat]?).bind fun v2 => bif decide (lo <= v2) then bif !decide (v2 <= hi) then k (AEx.panic 131 4) { fr := aw 6 [(3, I c), (4, I lo), (5, I hi), (14, AV.nils), (16, I v2), (21, AV.os 0 0), (22, I (Int.ofNat L.length)), (23, I i), (24, B true), (25, AV.oe 0 0 i.toNat), (26, I v2), (27, I lo), (28, I v2), (29, B (decide (lo <= v2))), (30, B true), (31, I v2), (32, I hi), (33, B (decide (v2 <= hi))), (34, B (decide (v2 <= hi)))], hp := [(0, aj.arr 2 (aa) 0 false L)], nx := 1 } else lp je cv CS n (x5 c lo hi [] [] [v2] L (i64.wrap (i + 1))) k else k (AEx.panic 131 4) { fr := aw 6 [(3, I c), (4, I lo), (5, I hi), (14, AV.nils), (16, I v2), (21, AV.os 0 0), (22, I (Int.ofNat L.length)), (23, I i), (24, B true), (25, AV.oe 0 0 i.toNat), (26, I v2), (27, I lo), (28, I v2), (29, B (decide (lo <= v2))), (30, B false), (31, AV.tup []), (32, AV.tup []), (33, AV.tup []), (34, B false)], hp := [(0, aj.arr 2 (aa) 0 false L)], nx := 1 } else k (AEx.exit 0) { fr := aw 6 [(3, I c), (4, I lo), (5, I hi), (14, AV.nils), (21, AV.os 0 0), (22, I (Int.ofNat L.length)), (23, I i), (24, B false)], hp := [(0, aj.arr 2 (aa) 0 false L)], nx := 1 } := by kernel_rfl
theorem BI (c lo hi o : Int) (pm ot out L : af) (i : Int) (n : Nat) {R : Type} (k : AEx -> LSt -> Option R) : lp je cv CS (n + 1) (x5 c lo hi pm ot (o :: out) L i) k = bif decide (i < Int.ofNat L.length) then (idx L i).bind fun v1 => (L[i.toNat]?).bind fun v2 => bif decide (lo <= v2) then bif !decide (v2 <= hi) then k (AEx.panic 131 4) { fr := aw 6 [(3, I c), (4, I lo), (5, I hi), (14, AV.os 0 0), (16, I v2), (21, AV.os 1 0), (22, I (Int.ofNat L.length)), (23, I i), (24, B true), (25, AV.oe 1 0 i.toNat), (26, I v2), (27, I lo), (28, I v2), (29, B (decide (lo <= v2))), (30, B true), (31, I v2), (32, I hi), (33, B (decide (v2 <= hi))), (34, B (decide (v2 <= hi)))], hp := [(0, aj.arr 3 (aa) 0 false (o :: out)), (1, aj.arr 2 (aa) 0 false L)], nx := 2 } else (app (o :: out) [v2]).bind fun v5 => lp je cv CS n (x5 c lo hi [] [] v5 L (i64.wrap (i + 1))) k else k (AEx.panic 131 4) { fr := aw 6 [(3, I c), (4, I lo), (5, I hi), (14, AV.os 0 0), (16, I v2), (21, AV.os 1 0), (22, I (Int.ofNat L.length)), (23, I i), (24, B true), (25, AV.oe 1 0 i.toNat), (26, I v2), (27, I lo), (28, I v2), (29, B (decide (lo <= v2))), (30, B false), (31, AV.tup []), (32, AV.tup []), (33, AV.tup []), (34, B false)], hp := [(0, aj.arr 3 (aa) 0 false (o :: out)), (1, aj.arr 2 (aa) 0 false L)], nx := 2 } else k (AEx.exit 0) { fr := aw 6 [(3, I c), (4, I lo), (5, I hi), (14, AV.os 0 0), (21, AV.os 1 0), (22, I (Int.ofNat L.length)), (23, I i), (24, B false)], hp := [(0, aj.arr 3 (aa) 0 false (o :: out)), (1, aj.arr 2 (aa) 0 false L)], nx := 2 } := by kernel_rfl
noncomputable def F7 : AEx -> LSt -> Option (aq × LHp) := (aQ 0 (aX je cv [4] (hlp je cv) (cR (cR (cR (cR BF)))) (aZ prog 0 f215.results.toList ah)))
def F8 (c lo hi v : Int) (q : AV) (i l : Int) (b : Bool) (r s : Nat) (hp : LHp) (nx : Nat) : LSt := { fr := aw 6 [(3, I c), (4, I lo), (5, I hi), (14, q), (16, I v), (21, AV.os r 0), (22, I l), (23, I i), (24, B true), (25, AV.oe s 0 i.toNat), (26, I v), (27, I lo), (28, I v), (29, B (decide (lo <= v))), (30, B true), (31, I v), (32, I hi), (33, B (decide (v <= hi))), (34, B b)], hp := hp, nx := nx }
def F9 (c lo hi v : Int) (q : AV) (i l : Int) (r s : Nat) (hp : LHp) (nx : Nat) : LSt := { fr := aw 6 [(3, I c), (4, I lo), (5, I hi), (14, q), (16, I v), (21, AV.os r 0), (22, I l), (23, I i), (24, B true), (25, AV.oe s 0 i.toNat), (26, I v), (27, I lo), (28, I v), (29, B (decide (lo <= v))), (30, B false), (31, AV.tup []), (32, AV.tup []), (33, AV.tup []), (34, B false)], hp := hp, nx := nx }
theorem Ym (c lo hi v i l : Int) (b : Bool) (pm ot L : af) : F7 (.panic 131 4) (F8 c lo hi v .nils i l b 0 0 ([] ++ [(0, aj.arr 2 aa 0 false L)]) 7) = aV := by kernel_rfl
theorem Yn (c lo hi v i l : Int) (pm ot L : af) : F7 (.panic 131 4) (F9 c lo hi v .nils i l 0 0 ([] ++ [(0, aj.arr 2 aa 0 false L)]) 7) = aV := by kernel_rfl
theorem Yo (c lo hi v i l : Int) (b : Bool) (pm ot out L : af) : F7 (.panic 131 4) (F8 c lo hi v (.os 0 0) i l b 1 1 (F6 pm ot out L) 8) = aV := by kernel_rfl
theorem Yp (c lo hi v i l : Int) (pm ot out L : af) : F7 (.panic 131 4) (F9 c lo hi v (.os 0 0) i l 1 1 (F6 pm ot out L) 8) = aV := by kernel_rfl
theorem Yq (c lo hi i l : Int) (pm ot out L : af) : F7 (.exit 0) { fr := aw 6 [(3, I c), (4, I lo), (5, I hi), (14, AV.os 0 0), (21, AV.os 1 0), (22, I l), (23, I i), (24, B false)], hp := F6 pm ot out L, nx := 2 } = bif !Int.ofNat out.length == c then aV else some (aq.ret [AV.os 0 0], [(0, aj.arr 3 (aa) 0 false out)]) := by kernel_rfl
def iz (c lo hi : Int) (pm ot l : af) : Option (aq × LHp) := bif cB lo hi l && (Int.ofNat pm.length == c) then some (.ret [.os 0 0], [] ++ [(0, .arr 3 aa 0 false pm)]) else some (.panic 131 4, [])
theorem Iw {c lo hi : Int} {pm ot : af} (hl : pm.length <= 2147483648) : ∀ (r i n : Nat), i + r = pm.length -> 1 <= i -> r < n ->
  lp je cv CS n (x5 c lo hi pm ot (pm.take i) pm (i : Nat)) F7 = iz c lo hi pm ot (pm.drop i) := by
 intro r
 induction r with
 | zero =>
  intro i n hir h1 hn
  obtain ⟨n, rfl⟩ : ∃ m', n = m' + 1 := ⟨n - 1, by omega⟩
  rw [List.take_of_length_le (by omega), List.drop_eq_nil_of_le (by omega)]
  cases hpm : pm with
  | nil => rw [hpm] at hir; simp only [List.length_nil] at hir; omega
  | cons o out =>
   rw [hpm] at hir
   rw [BI, bU (show ¬ ((i : Int) < Int.ofNat (o :: out).length) by simp only [aK]; omega), ax]
   refine (Yq _ _ _ _ _ [] ot _ _).trans ?_
   unfold iz cB
   simp only [List.all_nil, Bool.true_and]
   cases (Int.ofNat (o :: out).length == c) <;> rfl
 | succ r ih =>
  intro i n hir h1 hn
  obtain ⟨n, rfl⟩ : ∃ m', n = m' + 1 := ⟨n - 1, by omega⟩
  have bJ : i < pm.length := by omega
  have e0 : i64.wrap ((i : Int) + 1) = ((i + 1 : Nat) : Int) := by rw [aI (by omega) (by omega)]; omega
  have gx : pm[i]? = some pm[i] := List.getElem?_eq_getElem bJ
  have gi : idx pm (i : Int) = some pm[i] := by unfold idx; rw [if_pos (by omega), Int.toNat_natCast, gx]
  have ed : pm.drop i = pm[i] :: pm.drop (i + 1) := List.drop_eq_getElem_cons bJ
  have et : pm.take (i + 1) = pm.take i ++ [pm[i]] := (List.take_append_getElem bJ).symm
  have key := ih (i + 1) n (by omega) (by omega) (by omega)
  cases ht : pm.take i with
  | nil =>
   have := congrArg List.length ht
   rw [List.length_take, List.length_nil] at this
   omega
  | cons o out =>
   have hlen : (o :: out).length + [pm[i]].length <= lim := by rw [List.length_singleton, show lim = 4294967296 from rfl]; rw [← ht, List.length_take]; omega
   rw [BI, aD (show ((i : Int) < Int.ofNat pm.length) by simp only [aK]; omega), ai, gi, aB, Int.toNat_natCast, gx, aB]
   cases h2 : decide (lo <= pm[i]) with
   | false =>
    have er : iz c lo hi pm ot (pm.drop i) = some (.panic 131 4, []) := by
     unfold iz cB
     rw [ed, List.all_cons, h2]
     rfl
    rw [er, ax]
    have x := Yp c lo hi pm[i] (i : Int) (Int.ofNat pm.length) pm ot (o :: out) pm
    unfold F9 at x
    rw [h2] at x
    exact x
   | true =>
    rw [ai]
    cases h3 : decide (pm[i] <= hi) with
    | false =>
     have er : iz c lo hi pm ot (pm.drop i) = some (.panic 131 4, []) := by
      unfold iz cB
      rw [ed, List.all_cons, h2, h3]
      rfl
     rw [er, Bool.not_false, ai]
     have x := Yo c lo hi pm[i] (i : Int) (Int.ofNat pm.length) false pm ot (o :: out) pm
     unfold F8 at x
     rw [h2, h3] at x
     exact x
    | true =>
     have er : iz c lo hi pm ot (pm.drop i) = iz c lo hi pm ot (pm.drop (i + 1)) := by
      unfold iz cB
      rw [ed, List.all_cons, h2, h3]
      rfl
     rw [er, Bool.not_true, ax, dI hlen, aB, e0, ← ht, ← et]
     exact key
def BJ (c lo hi : Int) (q : AV) (hp : LHp) (nx : Nat) : LSt := { fr := aw 6 [(3, I c), (4, I lo), (5, I hi), (14, AV.nils), (21, q), (22, I 0), (23, I 0)], hp := hp, nx := nx }
def Yr (c lo hi : Int) (q : AV) (hp : LHp) (nx : Nat) : LSt := { fr := aw 6 [(3, I c), (4, I lo), (5, I hi), (14, AV.nils), (21, q), (22, I 0), (23, I 0), (24, B false)], hp := hp, nx := nx }
theorem Ys (c lo hi : Int) (ot : af) (n : Nat) {R : Type} (k : AEx -> LSt -> Option R) : lp je di Iu (n + 1) (BJ c lo hi .emp (kD ot) 2) k = k (AEx.exit 0) { fr := aw 6 [(3, I c), (4, I lo), (5, I hi), (14, AV.nils), (21, AV.emp), (22, I 0), (23, I 0), (24, B false)], hp := [(0, aj.arr 2 (aa) 0 false ot)], nx := 2 } := by kernel_rfl
theorem Yt (c lo hi : Int) (n : Nat) {R : Type} (k : AEx -> LSt -> Option R) : lp je cv CS (n + 1) (BJ c lo hi .emp [] 0) k = k (AEx.exit 0) { fr := aw 6 [(3, I c), (4, I lo), (5, I hi), (14, AV.nils), (21, AV.emp), (22, I 0), (23, I 0), (24, B false)], hp := [], nx := 0 } := by kernel_rfl
theorem Yu (c lo hi : Int) (n : Nat) {R : Type} (k : AEx -> LSt -> Option R) : lp je cv CS (n + 1) (BJ c lo hi .nils [] 0) k = k (AEx.exit 0) { fr := aw 6 [(3, I c), (4, I lo), (5, I hi), (14, AV.nils), (21, AV.nils), (22, I 0), (23, I 0), (24, B false)], hp := [], nx := 0 } := by kernel_rfl
theorem Yv (c lo hi : Int) (ot : af) : J2 (.exit 0) (Yr c lo hi .emp (kD ot) 2) = bif !0 == c then some (aq.panic 131 4, [(0, aj.arr 2 (aa) 0 false ot)]) else some (aq.ret [AV.nils], [(0, aj.arr 2 (aa) 0 false ot)]) := by kernel_rfl
theorem Yw (c lo hi : Int) : F7 (.exit 0) (Yr c lo hi .emp [] 0) = bif !0 == c then aV else az [AV.nils] := by kernel_rfl
theorem Yx (c lo hi : Int) : F7 (.exit 0) (Yr c lo hi .nils [] 0) = bif !0 == c then aV else az [AV.nils] := by kernel_rfl
theorem Su {c lo hi p : Int} {pm ot : af} (hl : (p :: pm).length <= 2147483648) : lp je di Iu fu (xY c lo hi (p :: pm) ot (p :: pm) 0) J2 = iy c lo hi (p :: pm) ot (p :: pm) := by
 have hf : fu = 18446744073709551616 := rfl
 obtain ⟨n, hn⟩ : ∃ n, fu = n + 1 := ⟨18446744073709551615, rfl⟩
 rw [hn, L6, aD (show ((0 : Int) < Int.ofNat (p :: pm).length) by simp only [aK, List.length_cons]; omega), ai, show idx (p :: pm) 0 = some p from rfl, aB, show (p :: pm)[(0 : Int).toNat]? = some p from rfl, aB]
 cases h2 : decide (lo <= p) with
 | false =>
  have er : iy c lo hi (p :: pm) ot (p :: pm) = some (.panic 131 4, kD ot) := by
   unfold iy cB
   rw [List.all_cons, h2]
   rfl
  rw [er, ax]
  have x := Yi c lo hi p 0 (Int.ofNat (p :: pm).length) (p :: pm) ot (p :: pm)
  unfold F5 at x
  rw [h2] at x
  exact x
 | true =>
  rw [ai]
  cases h3 : decide (p <= hi) with
  | false =>
   have er : iy c lo hi (p :: pm) ot (p :: pm) = some (.panic 131 4, kD ot) := by
    unfold iy cB
    rw [List.all_cons, h2, h3]
    rfl
   rw [er, Bool.not_false, ai]
   have x := Yh c lo hi p 0 (Int.ofNat (p :: pm).length) false (p :: pm) ot (p :: pm)
   unfold F4 at x
   rw [h2, h3] at x
   exact x
  | true =>
   have er : iy c lo hi (p :: pm) ot (p :: pm) = iy c lo hi (p :: pm) ot ((p :: pm).drop 1) := by
    unfold iy cB
    rw [List.all_cons, h2, h3]
    rfl
   rw [er, Bool.not_true, ax]
   exact Iv hl pm.length 1 n (by simp only [List.length_cons]; omega) (Nat.le_refl _) (by simp only [List.length_cons] at hl; omega)
theorem Sv {c lo hi p : Int} {pm ot : af} (hl : (p :: pm).length <= 2147483648) : lp je cv CS fu (x4 c lo hi (p :: pm) ot (p :: pm) 0) F7 = iz c lo hi (p :: pm) ot (p :: pm) := by
 have hf : fu = 18446744073709551616 := rfl
 obtain ⟨n, hn⟩ : ∃ n, fu = n + 1 := ⟨18446744073709551615, rfl⟩
 rw [hn, L7, aD (show ((0 : Int) < Int.ofNat (p :: pm).length) by simp only [aK, List.length_cons]; omega), ai, show idx (p :: pm) 0 = some p from rfl, aB, show (p :: pm)[(0 : Int).toNat]? = some p from rfl, aB]
 cases h2 : decide (lo <= p) with
 | false =>
  have er : iz c lo hi (p :: pm) ot (p :: pm) = some (.panic 131 4, []) := by
   unfold iz cB
   rw [List.all_cons, h2]
   rfl
  rw [er, ax]
  have x := Yn c lo hi p 0 (Int.ofNat (p :: pm).length) (p :: pm) ot (p :: pm)
  unfold F9 at x
  rw [h2] at x
  exact x
 | true =>
  rw [ai]
  cases h3 : decide (p <= hi) with
  | false =>
   have er : iz c lo hi (p :: pm) ot (p :: pm) = some (.panic 131 4, []) := by
    unfold iz cB
    rw [List.all_cons, h2, h3]
    rfl
   rw [er, Bool.not_false, ai]
   have x := Ym c lo hi p 0 (Int.ofNat (p :: pm).length) false (p :: pm) ot (p :: pm)
   unfold F8 at x
   rw [h2, h3] at x
   exact x
  | true =>
   have er : iz c lo hi (p :: pm) ot (p :: pm) = iz c lo hi (p :: pm) ot ((p :: pm).drop 1) := by
    unfold iz cB
    rw [List.all_cons, h2, h3]
    rfl
   rw [er, Bool.not_true, ax]
   exact Iw hl pm.length 1 n (by simp only [List.length_cons]; omega) (Nat.le_refl _) (by simp only [List.length_cons] at hl; omega)
theorem Yy (c lo hi : Int) (pm ot L : af) : hlp je di Iu (aq × LHp) (xY c lo hi pm ot L 0) J2 = lp je di Iu fu (xY c lo hi pm ot L 0) J2 := rfl
theorem Yz (c lo hi : Int) (pm ot L : af) : hlp je cv CS (aq × LHp) (x4 c lo hi pm ot L 0) F7 = lp je cv CS fu (x4 c lo hi pm ot L 0) F7 := rfl
theorem Sw (c lo hi : Int) (ot : af) : hlp je di Iu (aq × LHp) (BJ c lo hi .emp (kD ot) 2) J2 = lp je di Iu fu (BJ c lo hi .emp (kD ot) 2) J2 := rfl
theorem Ga (c lo hi : Int) (q : AV) : hlp je cv CS (aq × LHp) (BJ c lo hi q [] 0) F7 = lp je cv CS fu (BJ c lo hi q [] 0) F7 := rfl
def cJ (c lo hi : Int) (l : af) : Bool := cB lo hi l && (Int.ofNat l.length == c)
theorem Gb {c lo hi p : Int} {pm : af} (h : cJ c lo hi (p :: pm) = true) : (c == 0) = false := by
 unfold cJ at h
 rw [ba] at h
 have := eq_of_beq h.2
 rw [← this, beq_eq_false_iff_ne]
 simp only [aK, List.length_cons]
 omega
def YA : List AV -> LHp -> Tq
 | [.d Y2 (_, _, _, _, ag, _), .d .str name, .os 0 0, .d zI c, .d zI lo, .d zI hi], [(0, .arr 2 zI 0 false ot)] => .br (!ot.isEmpty) (.br (decide (ag.length <= maxLen /\ (al ag name ot).length <= 2147483648)) (.br (cJ c lo hi (al ag name ot)) (.br (c == 0) (.leaf (.ret [.nils]) (kD ot)) (.leaf (.ret [.os 1 0]) (kD ot ++ [(1, .arr 3 aa 0 false (al ag name ot))]))) (.leaf (.panic 131 4) (kD ot))) .no) .no
 | _, _ => .no
def YB : List AV -> LHp -> Tq
 | [.d Y2 (_, _, _, _, ag, _), .d .str name, .nils, .d zI c, .d zI lo, .d zI hi], [] => .br (decide (ag.length <= maxLen /\ (al ag name []).length <= 2147483648)) (.br (cJ c lo hi (al ag name [])) (.br (c == 0) (.leaf (.ret [.nils]) []) (.leaf (.ret [.os 0 0]) [(0, .arr 3 aa 0 false (al ag name []))])) (.leaf (.panic 131 4) [])) .no
 | _, _ => .no
theorem Sx : bg 215 (ao YA) := by
 have h1 := bD (d := 6) (l := [(4, [3, 4, 5, 14, 21, 22, 23])]) BG func215 call215
 obtain ⟨n', zj⟩ : ∃ n, fu = n + 1 := ⟨18446744073709551615, rfl⟩
 refine aO fun args hs ae aH h' => ?_
 unfold YA at h'
 split at h'
 ·rename_i op nm ins out ag _ name c lo hi ot
  obtain ⟨ho, wN⟩ := Tq.br_no h'
  obtain ⟨hb, h2⟩ := Tq.br_no wN
  obtain ⟨hl, hn⟩ := aU hb
  cases ot with
  | nil => exact absurd ho (by decide)
  | cons o ot =>
   refine h1.okC ?_
   refine Eq.trans (Yf op nm ins out ag name c lo hi o ot) ?_
   rw [aD (show ag.length <= 9223372036854775807 from hl), ai]
   generalize al ag name (o :: ot) = l at hn h2 ⊢
   cases l with
   | nil =>
    rw [show (decide (([] : af) = [])) = true from rfl, ai]
    refine Eq.trans ((Sw c lo hi (o :: ot)).trans ?_) h2
    rw [zj, Ys]
    refine (Yv c lo hi (o :: ot)).trans ?_
    cases hc : (0 : Int) == c with
    | true => obtain rfl := eq_of_beq hc; rfl
    | false =>
     unfold cJ cB
     show _ = Tq.run (Tq.br ((0 : Int) == c) _ _) _
     rw [Tq.run, hc]
     rfl
   | cons p pm =>
    rw [show (decide (p :: pm = [])) = false from rfl, ax, aD hn, ai]
    refine Eq.trans ((Yy c lo hi (p :: pm) (o :: ot) (p :: pm)).trans ((Su hn).trans ?_)) h2
    show (bif cJ c lo hi (p :: pm) then _ else _) = (bif cJ c lo hi (p :: pm) then (bif c == 0 then _ else _) else _)
    cases hk : cJ c lo hi (p :: pm) with
    | false => rfl
    | true => rw [Gb hk]; rfl
 ·cases h'
theorem Sy : bg 215 (ao YB) := by
 have h1 := bD (d := 6) (l := [(4, [3, 4, 5, 14, 21, 22, 23])]) BG func215 call215
 obtain ⟨n', zj⟩ : ∃ n, fu = n + 1 := ⟨18446744073709551615, rfl⟩
 refine aO fun args hs ae aH h' => ?_
 unfold YB at h'
 split at h'
 ·rename_i op nm ins out ag _ name c lo hi
  obtain ⟨hb, h2⟩ := Tq.br_no h'
  obtain ⟨hl, hn⟩ := aU hb
  refine h1.okC ?_
  have e0 : ∀ q, q = .nils \/ q = .emp -> lp je cv CS fu (BJ c lo hi q [] 0) F7 = (bif cJ c lo hi [] then (az [AV.nils] : Option (aq × LHp)) else some (.panic 131 4, [])) := fun q hq => by
   have e2 : (bif !((0 : Int) == c) then aV else az [AV.nils]) = (bif cJ c lo hi [] then (az [AV.nils] : Option (aq × LHp)) else some (.panic 131 4, [])) := by
    unfold cJ cB
    show _ = bif ((0 : Int) == c) then _ else _
    cases (0 : Int) == c <;> rfl
   rcases hq with rfl | rfl
   ·rw [zj, Yu]
    exact (Yx c lo hi).trans e2
   ·rw [zj, Yt]
    exact (Yw c lo hi).trans e2
  have e9 : ∀ x : Option (aq × LHp), (bif cJ c lo hi [] then (az [AV.nils] : Option (aq × LHp)) else some (.panic 131 4, [])) = (bif cJ c lo hi [] then (bif c == 0 then some (.ret [.nils], []) else x) else some (.panic 131 4, [])) := fun x => by
   cases hk : cJ c lo hi [] with
   | false => rfl
   | true =>
    have hc : ((0 : Int) == c) = true := hk
    obtain rfl := eq_of_beq hc
    rfl
  refine Eq.trans (Yg op nm ins out ag name c lo hi) ?_
  rw [aD (show ag.length <= 9223372036854775807 from hl), ai]
  have hd : al ag name [] = match ag.find? (ie name 7) with | some a => a.2.2.2.2.2.2.1 | none => [] := rfl
  change (bif (ag.find? (ie name 7)).isNone then _ else _) = _
  cases hq : (ag.find? (ie name 7)).isNone with
  | true =>
   have hz : al ag name [] = [] := by
    rw [hd]
    cases hf2 : ag.find? (ie name 7) with
    | none => rfl
    | some a => rw [hf2] at hq; cases hq
   rw [hz] at h2
   rw [ai]
   exact Eq.trans ((Ga c lo hi .nils).trans (e0 .nils (.inl rfl))) (Eq.trans (e9 _) h2)
  | false =>
   rw [ax]
   clear hd hq
   generalize al ag name [] = l at hn h2 ⊢
   cases l with
   | nil =>
    rw [show (decide (([] : af) = [])) = true from rfl, ai]
    exact Eq.trans ((Ga c lo hi .emp).trans (e0 .emp (.inr rfl))) (Eq.trans (e9 _) h2)
   | cons p pm =>
    rw [show (decide (p :: pm = [])) = false from rfl, ax, aD hn, ai]
    refine Eq.trans ((Yz c lo hi (p :: pm) [] (p :: pm)).trans ((Sv (ot := []) hn).trans ?_)) h2
    show (bif cJ c lo hi (p :: pm) then _ else _) = (bif cJ c lo hi (p :: pm) then (bif c == 0 then _ else _) else _)
    cases hk : cJ c lo hi (p :: pm) with
    | false => rfl
    | true => rw [Gb hk]; rfl
 ·cases h'
def nuF (args : List AV) (hs : LHp) : Tq := orT (YB args hs) (YA args hs)
theorem L8 : bg 215 (ao nuF) := ky Sy Sx
theorem YC (a : Int) (d : af) : aC uw f107 4 [] [.d (.slice aa) (a :: d)] [] ah = (app [] (a :: d)).bind fun v0 => some (aq.ret [AV.os 0 0], [(0, aj.arr 3 (aa) 0 false v0)]) := by kernel_rfl
def YD : List AV -> LHp -> Tq
 | [.d zS xs], [] => .br (xs.isEmpty) (.leaf (.ret [.emp]) []) (.br (decide (xs.length <= 2147483648)) (.leaf (.ret [.os 0 0]) [(0, .arr 3 aa 0 false xs)]) .no)
 | _, _ => .no
theorem Sz : bg 107 (ao YD) := by
 have h2 := bD (d := 4) (l := []) fw func107 call107
 have h1 : bg 107 Sf := xX
 refine aO fun args hs ae aH h' => ?_
 unfold YD at h'
 split at h'
 ·rename_i xs
  cases xs with
  | nil =>
   cases h'
   exact h1.2 _ _ _ _ rfl
  | cons a d =>
   have h3 : (Tq.br (decide ((a :: d).length <= 2147483648)) (.leaf (.ret [.os 0 0]) [(0, .arr 3 aa 0 false (a :: d))]) .no).run ah = some (ae, aH) := h'
   obtain ⟨hb, h4⟩ := Tq.br_no h3
   exact h2.okC ((YC a d).trans (Eq.trans (by rw [St (aU hb)]; rfl) h4))
 ·cases h'
noncomputable def Wf : Code := bd f76
noncomputable def BK : Code := cL (cL (cR (cL (cR (cR (cR (cR (cR Wf))))))))
noncomputable def dj : Cfg := ⟨94, 7, 0, [(2, [0, 1, 18, 19, 20]), (13, [1, 10, 11, 48, 49])], true⟩
noncomputable def tu : Env := X2.add 107 (ao YD)
theorem L9 : tu.Good := oM.add Sz
def tv (ys o : af) (a i : Int) : LSt := { fr := aw 7 [(1, .d (.slice aa) ys), (10, .os 0 0), (11, I a), (48, I (Int.ofNat ys.length)), (49, I i)], hp := [(0, .arr 3 aa 0 false o)], nx := 1 }
noncomputable def Gc : AEx -> LSt -> Option (aq × LHp) := (aQ 2 (aX tu dj [13] (hlp tu dj) (cR (cR (cR (cR (cR (cR Wf)))))) (aZ prog 0 f76.results.toList ah)))
theorem YE (xs ys : af) : aC tu f76 7 [(2, [0, 1, 18, 19, 20]), (13, [1, 10, 11, 48, 49])] [.d (.slice aa) xs, .d (.slice aa) ys] [] ah = bif decide (xs.length <= 9223372036854775807) then bif ay xs != 0 then az [AV.nils, I (ay xs)] else bif decide (ys.length <= 9223372036854775807) then bif ay ys != 0 then az [AV.nils, I (ay ys)] else bif decide (Int.ofNat xs.length < Int.ofNat ys.length) then bif ys.isEmpty then (hlp tu dj) BK _ { fr := aw 7 [(1, AV.d (aa).slice xs), (10, AV.emp), (11, I (i64.wrap (Int.ofNat ys.length - Int.ofNat xs.length))), (48, I (Int.ofNat xs.length)), (49, I 0)], hp := [], nx := 0 } Gc else bif decide (ys.length <= 2147483648) then (hlp tu dj) BK _ (tv xs ys (i64.wrap (Int.ofNat ys.length - Int.ofNat xs.length)) 0) Gc else none else bif xs.isEmpty then (hlp tu dj) BK _ { fr := aw 7 [(1, AV.d (aa).slice ys), (10, AV.emp), (11, I (i64.wrap (Int.ofNat xs.length - Int.ofNat ys.length))), (48, I (Int.ofNat ys.length)), (49, I 0)], hp := [], nx := 0 } Gc else bif decide (xs.length <= 2147483648) then (hlp tu dj) BK _ (tv ys xs (i64.wrap (Int.ofNat xs.length - Int.ofNat ys.length)) 0) Gc else none else none else none := (bq [13] dj rfl).trans (by obtain ⟨hl, h⟩ := bc tu dj; rw [h]; kernel_rfl)
def SA (a : Int) : LSt := { fr := aw 7 [(1, .d (.slice aa) []), (10, .emp), (11, I a), (48, I 0), (49, I 0)], hp := [], nx := 0 }
theorem Ma (ys o : af) (a i : Int) (n : Nat) {R : Type} (k : AEx -> LSt -> Option R) : lp tu dj BK (n + 1) (tv ys o a i) k = bif decide (i < Int.ofNat ys.length) then (idx o (i64.wrap (a + i))).bind fun v1 => (o[(i64.wrap (a + i)).toNat]?).bind fun v2 => bif v2 == 1 then (idx ys i).bind fun v4 => (fv o (i64.wrap (a + i)).toNat v4).bind fun v5 => lp tu dj BK n (tv ys v5 a (i64.wrap (i + 1))) k else (idx ys i).bind fun v4 => bif v4 != 1 then (idx ys i).bind fun v6 => (o[(i64.wrap (a + i)).toNat]?).bind fun v7 => bif v6 != v7 then k AEx.ret { fr := aw 7 [(1, AV.d (aa).slice ys), (4, AV.nils), (5, I 4), (10, AV.os 0 0), (11, I a), (12, I i), (13, AV.oe 0 0 (i64.wrap (a + i)).toNat), (48, I (Int.ofNat ys.length)), (49, I i), (50, B true), (51, I i), (52, AV.os 0 0), (53, I a), (54, I i), (55, I (i64.wrap (a + i))), (56, AV.oe 0 0 (i64.wrap (a + i)).toNat), (57, B false), (58, AV.oe 0 0 (i64.wrap (a + i)).toNat), (59, AV.oe 0 0 (i64.wrap (a + i)).toNat), (60, I v2), (61, B (v2 == 1)), (68, B true), (69, AV.d (aa).slice ys), (70, I i), (71, AV.ip (aa) v4), (72, I v4), (73, B (v4 != 1)), (74, B true), (75, AV.d (aa).slice ys), (76, I i), (77, AV.ip (aa) v6), (78, I v6), (79, AV.oe 0 0 (i64.wrap (a + i)).toNat), (80, AV.oe 0 0 (i64.wrap (a + i)).toNat), (81, I v7), (82, B (v6 != v7)), (83, B (v6 != v7))], hp := [(0, aj.arr 3 (aa) 0 false o)], nx := 1 } else lp tu dj BK n (tv ys o a (i64.wrap (i + 1))) k else lp tu dj BK n (tv ys o a (i64.wrap (i + 1))) k else k (AEx.exit 2) { fr := aw 7 [(1, AV.d (aa).slice ys), (10, AV.os 0 0), (11, I a), (48, I (Int.ofNat ys.length)), (49, I i), (50, B false)], hp := [(0, aj.arr 3 (aa) 0 false o)], nx := 1 } := by kernel_rfl
theorem YF (a : Int) (n : Nat) {R : Type} (k : AEx -> LSt -> Option R) : lp tu dj BK (n + 1) (SA a) k = k (AEx.exit 2) { fr := aw 7 [(1, AV.d (aa).slice []), (10, AV.emp), (11, I a), (48, I 0), (49, I 0), (50, B false)], hp := [], nx := 0 } := by kernel_rfl
theorem afC (ys o : af) (a i : Int) : Gc (.exit 2) { fr := aw 7 [(1, .d (.slice aa) ys), (10, .os 0 0), (11, I a), (48, I (Int.ofNat ys.length)), (49, I i), (50, B false)], hp := [(0, .arr 3 aa 0 false o)], nx := 1 } = bif decide (o.length <= 9223372036854775807) then bif ay o != 0 then az [AV.nils, I (ay o)] else some (aq.ret [AV.os 0 0, I 0], [(0, aj.arr 3 (aa) 0 false o)]) else none := by kernel_rfl
theorem YG (a : Int) : Gc (.exit 2) { fr := aw 7 [(1, .d (.slice aa) []), (10, .emp), (11, I a), (48, I 0), (49, I 0), (50, B false)], hp := [], nx := 0 } = az [AV.emp, I 0] := by kernel_rfl
noncomputable def D4 : Code := bd f244
noncomputable def Mb : Code := cL (cL (cL (cR (cR (cR (cR (cR (cR (cR (cR D4))))))))))
noncomputable def jX : Cfg := ⟨66, 7, 0, [(11, [0, 1, 2, 3, 9, 10])], true⟩
theorem SB (s : ak) : aC g32 f277 4 [] [.d .str s, .d .str [44]] [] ah = bif [44] == s then az [I 0] else az [I (Lib.indexByte s 44)] := by kernel_rfl
theorem SC (s : ak) : aC g34 f276 6 [(6, [0, 1, 5])] [.d .str s, .d .str [44]] [] ah = az [I (Int.ofNat (Lib.countByte s 44))] := by kernel_rfl
def cP (s : ak) : Int := Lib.indexByte s 44
def Mc : List AV -> LHp -> Tq
 | [.d .str s, .d .str sep], [] => .br (decide (sep = [44])) (.leaf (.ret [I (cP s)]) []) .no
 | _, _ => .no
theorem Md (s : ak) : aC g32 f277 4 [] [.d .str s, .d .str [44]] [] ah = some (.ret [I (cP s)], []) := by
 rw [SB]
 cases h : [44] == s with
 | false => rfl
 | true =>
  obtain rfl := eq_of_beq h
  rfl
theorem Me : bg 277 (ao Mc) := by
 have h1 : bg 277 (au g32 f277 4 []) := FK
 refine aO fun args hs ae aH h' => ?_
 unfold Mc at h'
 split at h'
 ·obtain ⟨hb, h2⟩ := Tq.br_no h'
  obtain rfl := aU hb
  exact h1.okC ((Md _).trans h2)
 ·cases h'
def Mf : List AV -> LHp -> Tq
 | [.d .str s, .d .str sep], [] => .br (decide (sep = [44])) (.leaf (.ret [I (Int.ofNat (s.count 44))]) []) .no
 | _, _ => .no
theorem Mh : bg 276 (ao Mf) := by
 have h1 : bg 276 (au g34 f276 6 [(6, [0, 1, 5])]) := FL
 refine aO fun args hs ae aH h' => ?_
 unfold Mf at h'
 split at h'
 ·obtain ⟨hb, h2⟩ := Tq.br_no h'
  obtain rfl := aU hb
  exact h1.okC ((SC _).trans h2)
 ·cases h'
noncomputable def J3 : Env := (g35.add 277 (ao Mc)).add 276 (ao Mf)
theorem Mi : J3.Good := (l4.add Me).add Mh
def nq (s : ak) : Int := if i64.wrap (Int.ofNat s.length + 1) < i64.wrap (Int.ofNat (s.count 44) + 1) then i64.wrap (Int.ofNat s.length + 1) else i64.wrap (Int.ofNat (s.count 44) + 1)
def Mj (s : ak) (N i : Int) (l : List (ak)) : LSt := ⟨aw 7 [(0, .d .str s), (1, .d .str [44]), (2, I 0), (3, I N), (9, .os 0 0), (10, I i)], [(0, .arr 9 .str 0 false l)], 1⟩
theorem Mk (hl : Hl) (s : ak) : QE J3 f244 7 [(11, [0, 1, 2, 3, 9, 10])] [11] hl [.d .str s, .d .str [44], I 0, I (-1)] [] ah =
  (if 0 <= nq s /\ nq s <= 4294967296 then some (List.replicate (nq s).toNat []) else none).bind fun v0 => hl Mb _ (Mj s (i64.wrap (nq s - 1)) 0 v0) (aQ 0 (aX J3 jX [11] hl (cR (cR (cR (cR (cR (cR (cR (cR (cR D4))))))))) (aZ prog 0 f244.results.toList ah))) := by kernel_rfl
noncomputable def KSg : AEx -> LSt -> Option (aq × LHp) := aQ 0 (aX J3 jX [11] (hlp J3 jX) (cR (cR (cR (cR (cR (cR (cR (cR (cR D4))))))))) (aZ prog 0 f244.results.toList ah))
theorem SD (s : ak) : aC J3 f244 7 [(11, [0, 1, 2, 3, 9, 10])] [.d .str s, .d .str [44], I 0, I (-1)] [] ah =
  (if 0 <= nq s /\ nq s <= 4294967296 then some (List.replicate (nq s).toNat []) else none).bind fun v0 => lp J3 jX Mb fu (Mj s (i64.wrap (nq s - 1)) 0 v0) KSg := vX.trans (Mk (hlp J3 jX) s)
theorem Gd (s : ak) (N i : Int) (l : List (ak)) (n : Nat) {R : Type} (k : AEx -> LSt -> Option R) : lp J3 jX Mb (n + 1) (Mj s N i l) k = bif decide (i < N) then bif decide (cP s < 0) then k (AEx.exit 0) { fr := aw 7 [(0, AV.d Ty.str s), (1, AV.d Ty.str [44]), (2, I 0), (3, I N), (9, AV.os 0 0), (10, I i), (11, I (cP s)), (34, I i), (35, I N), (36, B true), (37, AV.d Ty.str s), (38, AV.d Ty.str [44]), (39, I (cP s)), (40, I (cP s)), (41, B true)], hp := [(0, aj.arr 9 Ty.str 0 false l)], nx := 1 } else (if (0 : Int) <= 0 /\ 0 <= i64.wrap (cP s + 0) /\ i64.wrap (cP s + 0) <= Int.ofNat s.length then some (List.drop 0 (List.take (i64.wrap (cP s + 0)).toNat s)) else none).bind fun v2 => (idx l i).bind fun v3 => (fv l i.toNat v2).bind fun v4 => (if 0 <= i64.wrap (cP s + 1) /\ i64.wrap (cP s + 1) <= Int.ofNat s.length /\ Int.ofNat s.length <= Int.ofNat s.length then some (List.drop (i64.wrap (cP s + 1)).toNat (List.take (Int.ofNat s.length).toNat s)) else none).bind fun v5 => lp J3 jX Mb n (Mj v5 N (i64.wrap (i + 1)) v4) k else k (AEx.exit 0) { fr := aw 7 [(0, AV.d Ty.str s), (1, AV.d Ty.str [44]), (2, I 0), (3, I N), (9, AV.os 0 0), (10, I i), (34, I i), (35, I N), (36, B false)], hp := [(0, aj.arr 9 Ty.str 0 false l)], nx := 1 } := by kernel_rfl
theorem SE (s : ak) (N i : Int) (l : List (ak)) : KSg (.exit 0) { fr := aw 7 [(0, AV.d Ty.str s), (1, AV.d Ty.str [44]), (2, I 0), (3, I N), (9, AV.os 0 0), (10, I i), (34, I i), (35, I N), (36, B false)], hp := [(0, .arr 9 .str 0 false l)], nx := 1 } = (idx l i).bind fun v0 => (fv l i.toNat s).bind fun v1 => (if (0 : Int) <= 0 /\ 0 <= i64.wrap (i + 1) /\ i64.wrap (i + 1) <= Int.ofNat v1.length then some (List.drop 0 (List.take (i64.wrap (i + 1)).toNat v1)) else none).bind fun v2 => az [AV.d Ty.str.slice v2] := by kernel_rfl
def cc : ak -> List (ak)
 | [] => [[]]
 | x :: r => bif x == 44 then [] :: cc r else (match cc r with | h :: t => (x :: h) :: t | [] => [[x]])
theorem tw : ∀ s : ak, (cc s).length = s.count 44 + 1
 | [] => rfl
 | x :: r => by
  have h := tw r
  unfold cc
  cases hx : x == 44 with
  | true =>
   obtain rfl := eq_of_beq hx
   rw [ai, List.length_cons, h, List.count_cons_self]
  | false =>
   rw [ax, List.count_cons_of_ne (by intro e; rw [e] at hx; exact absurd hx (by decide))]
   cases hr : cc r with
   | nil => rw [hr] at h; simp at h
   | cons a t => rw [hr] at h; simpa using h
theorem nP : ∀ {s : ak}, cP s < 0 -> s.count 44 = 0 /\ cc s = [s]
 | [], _ => ⟨rfl, rfl⟩
 | x :: r, h => by
  unfold cP Lib.indexByte at h
  cases hx : x == 44 with
  | true => rw [hx] at h; exact absurd (show (0 : Int) < 0 from h) (by decide)
  | false =>
   rw [hx] at h
   have hr : cP r < 0 := by
    unfold cP
    cases hq : Lib.indexByte r 44 == -1 with
    | true => rw [eq_of_beq hq]; decide
    | false =>
     rw [hq] at h
     have h : Lib.indexByte r 44 + 1 < 0 := h
     omega
   obtain ⟨h1, h2⟩ := nP hr
   refine ⟨?_, ?_⟩
   ·rw [List.count_cons_of_ne (by intro e; rw [e] at hx; exact absurd hx (by decide))]
    exact h1
   ·unfold cc
    rw [hx, ax, h2]
theorem nQ : ∀ {s : ak}, ¬ cP s < 0 -> ∃ m : Nat, cP s = m /\ m < s.length /\ s.count 44 = (s.drop (m + 1)).count 44 + 1 /\ cc s = s.take m :: cc (s.drop (m + 1))
 | [], h => absurd (show (-1 : Int) < 0 by decide) h
 | x :: r, h => by
  cases hx : x == 44 with
  | true =>
   refine ⟨0, ?_, by simp, ?_, ?_⟩
   ·unfold cP Lib.indexByte
    rw [hx]
    rfl
   ·obtain rfl := eq_of_beq hx
    rw [List.count_cons_self]
    rfl
   ·rw [cc.eq_2, hx, ai]
    rfl
  | false =>
   have e : cP (x :: r) = bif cP r == -1 then -1 else cP r + 1 := by
    show (if (x == 44) = true then (0 : Int) else if (Lib.indexByte r 44 == -1) = true then -1 else Lib.indexByte r 44 + 1) = _
    rw [hx]
    unfold cP
    cases Lib.indexByte r 44 == -1 <;> rfl
   have hr : ¬ cP r < 0 := by
    intro hc
    apply h
    rw [e]
    cases hq : cP r == -1 with
    | true => show (-1 : Int) < 0; decide
    | false =>
     have := Lib.indexByte_ge r 44
     have h2 : cP r ≠ -1 := by simpa using hq
     unfold cP at h2 hc
     omega
   obtain ⟨m, h1, h2, h3, h4⟩ := nQ hr
   refine ⟨m + 1, ?_, by simpa using h2, ?_, ?_⟩
   ·rw [e, h1]
    have : (((m : Nat) : Int) == -1) = false := by rw [beq_eq_false_iff_ne]; omega
    rw [this]
    rfl
   ·rw [List.count_cons_of_ne (by intro e; rw [e] at hx; exact absurd hx (by decide))]
    exact h3
   ·rw [cc.eq_2, hx, ax, h4]
    rfl
theorem rz {α : Type} (dn : List α) (x y : α) (t : List α) : fv (dn ++ x :: t) dn.length y = some (dn ++ y :: t) := by
 unfold fv
 rw [show Nat.blt dn.length (dn ++ x :: t).length = true from Nat.ble_eq_true_of_le (by rw [List.length_append, List.length_cons]; omega), ai, List.set_append_right _ _ (Nat.le_refl _), Nat.sub_self]
 rfl
theorem mJ {α : Type} (dn : List α) (x : α) (t : List α) : idx (dn ++ x :: t) ((dn.length : Nat) : Int) = some x := by
 unfold idx
 rw [if_pos (by omega), Int.toNat_natCast, List.getElem?_append_right (Nat.le_refl _), Nat.sub_self]
 rfl
theorem YH {x : ak} {m : Nat} (h : m <= x.length) : (if (0 : Int) <= 0 /\ 0 <= ((m : Nat) : Int) /\ ((m : Nat) : Int) <= Int.ofNat x.length then some (List.drop 0 (List.take ((m : Nat) : Int).toNat x)) else none) = some (x.take m) := by
 rw [if_pos ⟨by omega, by omega, by simp only [aK]; omega⟩, Int.toNat_natCast]
 rfl
theorem YI {x : ak} {n : Nat} (h : n <= x.length) : (if 0 <= ((n : Nat) : Int) /\ ((n : Nat) : Int) <= Int.ofNat x.length /\ Int.ofNat x.length <= Int.ofNat x.length then some (List.drop ((n : Nat) : Int).toNat (List.take (Int.ofNat x.length).toNat x)) else none) = some (x.drop n) := by
 rw [if_pos ⟨by omega, by simp only [aK]; omega, Int.le_refl _⟩, Int.toNat_natCast]
 show some (List.drop n (List.take x.length x)) = _
 rw [List.take_length]
theorem SF : ∀ (c : Nat) (s : ak) (dn : List (ak)) (nn : Nat), s.count 44 = c -> s.length <= 2147483648 -> dn.length + c <= 2147483648 -> c < nn ->
  lp J3 jX Mb nn (Mj s ((dn.length + c : Nat) : Int) ((dn.length : Nat) : Int) (dn ++ List.replicate (c + 1) [])) KSg = some (.ret [.d (.slice .str) (dn ++ cc s)], []) := by
 intro c
 induction c with
 | zero =>
  intro s dn nn hc hs hb hn
  obtain ⟨nn, rfl⟩ : ∃ m', nn = m' + 1 := ⟨nn - 1, by omega⟩
  have Hr : cP s < 0 := by
   rcases Classical.em (cP s < 0) with h | h
   ·exact h
   ·obtain ⟨m, _, _, h3, _⟩ := nQ h
    omega
  have w1 : i64.wrap (((dn.length : Nat) : Int) + 1) = ((dn.length + 1 : Nat) : Int) := by rw [aI (by omega) (by omega)]; omega
  rw [Gd, bU (show ¬ (((dn.length : Nat) : Int) < ((dn.length + 0 : Nat) : Int)) by omega), ax]
  refine Eq.trans (SE s _ _ _) ?_
  rw [show List.replicate (0 + 1) ([] : ak) = [[]] from rfl, mJ, aB, Int.toNat_natCast, rz, aB, w1, if_pos ⟨by omega, by omega, by rw [List.length_append]; simp only [aK, List.length_cons, List.length_nil]; omega⟩, aB, Int.toNat_natCast, (nP Hr).2, List.take_of_length_le (by rw [List.length_append, List.length_cons, List.length_nil]; omega)]
  rfl
 | succ c ih =>
  intro s dn nn hc hs hb hn
  obtain ⟨nn, rfl⟩ : ∃ m', nn = m' + 1 := ⟨nn - 1, by omega⟩
  have Hr : ¬ cP s < 0 := fun h => by rw [(nP h).1] at hc; omega
  obtain ⟨m, h1, h2, h3, h4⟩ := nQ Hr
  have key := ih (s.drop (m + 1)) (dn ++ [s.take m]) nn (by omega) (by rw [List.length_drop]; omega) (by rw [List.length_append, List.length_cons, List.length_nil]; omega) (by omega)
  have w1 : i64.wrap (((dn.length : Nat) : Int) + 1) = (((dn ++ [s.take m]).length : Nat) : Int) := by rw [List.length_append, List.length_cons, List.length_nil, aI (by omega) (by omega)]; omega
  have w2 : i64.wrap (((m : Nat) : Int) + 0) = ((m : Nat) : Int) := by rw [Int.add_zero]; exact aI (by omega) (by omega)
  have w3 : i64.wrap (((m : Nat) : Int) + 1) = ((m + 1 : Nat) : Int) := by rw [aI (by omega) (by omega)]; omega
  have e1 : dn ++ [s.take m] ++ cc (s.drop (m + 1)) = dn ++ cc s := by rw [h4, List.append_assoc]; rfl
  have e2 : dn ++ [s.take m] ++ List.replicate (c + 1) ([] : ak) = dn ++ s.take m :: List.replicate (c + 1) [] := by rw [List.append_assoc]; rfl
  have e3 : (dn ++ [s.take m]).length + c = dn.length + (c + 1) := by rw [List.length_append, List.length_cons, List.length_nil]; omega
  rw [e1, e2, e3] at key
  rw [Gd, aD (show ((dn.length : Nat) : Int) < ((dn.length + (c + 1) : Nat) : Int) by omega), ai, bU Hr, ax, h1, w2, YH (by omega), aB, List.replicate_succ, mJ, aB, Int.toNat_natCast, rz, aB, w3, YI (by omega), aB, w1]
  exact key
theorem BL (s : ak) : s.count 44 <= s.length := List.count_le_length
theorem Ml {s : ak} (hs : s.length <= 2147483647) : aC J3 f244 7 [(11, [0, 1, 2, 3, 9, 10])] [.d .str s, .d .str [44], I 0, I (-1)] [] ah = some (.ret [.d (.slice .str) (cc s)], []) := by
 have hc := BL s
 have w1 : i64.wrap (Int.ofNat s.length + 1) = ((s.length + 1 : Nat) : Int) := by simp only [aK]; rw [aI (by omega) (by omega)]; omega
 have w2 : i64.wrap (Int.ofNat (s.count 44) + 1) = ((s.count 44 + 1 : Nat) : Int) := by simp only [aK]; rw [aI (by omega) (by omega)]; omega
 have hr : nq s = ((s.count 44 + 1 : Nat) : Int) := by
  unfold nq
  rw [w1, w2, if_neg (by omega)]
 have w3 : i64.wrap (((s.count 44 + 1 : Nat) : Int) - 1) = ((s.count 44 : Nat) : Int) := by rw [aI (by omega) (by omega)]; omega
 have key := SF (s.count 44) s [] fu rfl (by omega) (by simp only [List.length_nil]; omega) (by unfold fu; omega)
 rw [SD, hr, if_pos ⟨by omega, by omega⟩, aB, Int.toNat_natCast, w3]
 rw [List.length_nil, Nat.zero_add] at key
 exact key
def PM : List Int -> List Int -> Option (af)
 | d :: r, e :: s => bif d == 1 then (PM r s).map (e :: ·) else bif e != 1 && e != d then none else (PM r s).map (d :: ·)
 | r, _ => some r
def vZ (o : Option (af)) : Option (aq × LHp) := match o with
 | some l => bif ay l != 0 then some (.ret [.nils, I (ay l)], []) else some (.ret [.os 0 0, I 0], [(0, .arr 3 aa 0 false l)])
 | none => some (.ret [.nils, I 4], [])
theorem YJ {a : Int} {L : Nat} (hL : L <= 2147483648) : ∀ (ysr yp pre rest : af) (nn : Nat), rest.length = ysr.length -> a + ((yp.length : Nat) : Int) = ((pre.length : Nat) : Int) -> pre.length + rest.length = L -> yp.length <= pre.length -> ysr.length < nn ->
  lp tu dj BK nn (tv (yp ++ ysr) (pre ++ rest) a ((yp.length : Nat) : Int)) Gc = vZ ((PM rest ysr).map (pre ++ ·)) := by
 intro ysr
 induction ysr with
 | nil =>
  intro yp pre rest nn h1 h2 h3 h4 hn
  obtain ⟨nn, rfl⟩ : ∃ m', nn = m' + 1 := ⟨nn - 1, by omega⟩
  have hr : rest = [] := List.length_eq_zero_iff.1 h1
  subst hr
  rw [Ma, bU (show ¬ (((yp.length : Nat) : Int) < Int.ofNat (yp ++ ([] : af)).length) by rw [List.append_nil]; simp only [aK]; omega), ax]
  refine (afC _ _ _ _).trans ?_
  rw [List.append_nil, aD (show pre.length <= 9223372036854775807 by simp only [List.length_nil] at h3; omega), ai]
  show _ = vZ (some (pre ++ []))
  rw [List.append_nil]
  rfl
 | cons e s ih =>
  intro yp pre rest nn h1 h2 h3 h4 hn
  obtain ⟨nn, rfl⟩ : ∃ m', nn = m' + 1 := ⟨nn - 1, by omega⟩
  cases rest with
  | nil => simp at h1
  | cons d r =>
   simp only [List.length_cons] at h1 h3 hn
   have w0 : i64.wrap (a + ((yp.length : Nat) : Int)) = ((pre.length : Nat) : Int) := by rw [h2]; exact aI (by omega) (by omega)
   have w1 : i64.wrap (((yp.length : Nat) : Int) + 1) = (((yp ++ [e]).length : Nat) : Int) := by rw [List.length_append, List.length_cons, List.length_nil, aI (by omega) (by omega)]; omega
   have g1 := mJ pre d r
   have g2 : (pre ++ d :: r)[pre.length]? = some d := by rw [List.getElem?_append_right (Nat.le_refl _), Nat.sub_self]; rfl
   have g3 := mJ yp e s
   have key : ∀ v : Int, lp tu dj BK nn (tv (yp ++ e :: s) (pre ++ v :: r) a (((yp ++ [e]).length : Nat) : Int)) Gc = vZ ((PM r s).map (pre ++ v :: ·)) := fun v => by
    have k := ih (yp ++ [e]) (pre ++ [v]) r nn (by omega) (by rw [List.length_append, List.length_append, List.length_cons, List.length_nil, List.length_cons, List.length_nil]; omega) (by rw [List.length_append, List.length_cons, List.length_nil]; omega) (by rw [List.length_append, List.length_append, List.length_cons, List.length_nil, List.length_cons, List.length_nil]; omega) (by omega)
    rw [List.append_assoc, List.append_assoc] at k
    refine Eq.trans k ?_
    congr 2
    funext l
    rw [List.append_assoc]
    rfl
   rw [Ma, aD (show ((yp.length : Nat) : Int) < Int.ofNat (yp ++ e :: s).length by rw [List.length_append, List.length_cons]; simp only [aK]; omega), ai, w0, g1, aB, Int.toNat_natCast, g2, aB, g3, aB, aB, rz, aB, w1]
   have eb : PM (d :: r) (e :: s) = bif d == 1 then (PM r s).map (e :: ·) else bif e != 1 && e != d then none else (PM r s).map (d :: ·) := rfl
   rw [eb]
   cases d == 1 with
   | true =>
    rw [ai, ai, Option.map_map]
    exact key e
   | false =>
    rw [ax, ax]
    cases e != 1 with
    | true =>
     rw [ai, aB, aB, Bool.true_and]
     cases e != d with
     | true =>
      show _ = _
      kernel_rfl
     | false =>
      rw [ax, ax, Option.map_map]
      exact key d
    | false =>
     rw [ax, Bool.false_and, ax, Option.map_map]
     exact key d
def YK (A B : af) : Option (af) := (PM (A.drop (A.length - B.length)) B).map (A.take (A.length - B.length) ++ ·)
def Mm (xs ys : af) : Option (af) := bif decide (Int.ofNat xs.length < Int.ofNat ys.length) then YK ys xs else YK xs ys
def ux (xs ys : af) : Bool := bif decide (Int.ofNat xs.length < Int.ofNat ys.length) then ys.isEmpty else xs.isEmpty
def PN (xs ys : af) : Bool := (Mm xs ys).isNone
def py (xs ys : af) : af := (Mm xs ys).getD []
theorem Wg (ys o : af) (a : Int) : hlp tu dj BK (aq × LHp) (tv ys o a 0) Gc = lp tu dj BK fu (tv ys o a 0) Gc := rfl
theorem YL (a : Int) : hlp tu dj BK (aq × LHp) (SA a) Gc = lp tu dj BK fu (SA a) Gc := rfl
theorem Ge {A B : af} (h : B.length <= A.length) (hA : A.length <= 2147483648) : lp tu dj BK fu (tv B A (i64.wrap (Int.ofNat A.length - Int.ofNat B.length)) 0) Gc = vZ (YK A B) := by
 have w : i64.wrap (Int.ofNat A.length - Int.ofNat B.length) = ((A.length - B.length : Nat) : Int) := by
  simp only [aK]
  rw [aI (by omega) (by omega)]
  omega
 have k := YJ (a := ((A.length - B.length : Nat) : Int)) (L := A.length) hA B [] (A.take (A.length - B.length)) (A.drop (A.length - B.length)) fu (by rw [List.length_drop]; omega) (by rw [List.length_take, List.length_nil]; omega) (by rw [List.length_take, List.length_drop]; omega) (by simp) (by unfold fu; omega)
 rw [List.take_append_drop, List.nil_append] at k
 rw [w]
 exact k
theorem YM (a : Int) : lp tu dj BK fu (SA a) Gc = some (.ret [.emp, I 0], []) := by
 obtain ⟨n', zj⟩ : ∃ n, fu = n + 1 := ⟨18446744073709551615, rfl⟩
 rw [zj, YF]
 exact YG a
def D5 (xs ys : af) : Tq :=
 .br (decide (xs.length <= 2147483648 /\ ys.length <= 2147483648)) (.br (ay xs != 0) (.leaf (.ret [.nils, I (ay xs)]) []) (.br (ay ys != 0) (.leaf (.ret [.nils, I (ay ys)]) [])
  (.br (ux xs ys) (.leaf (.ret [.emp, I 0]) []) (.br (PN xs ys) (.leaf (.ret [.nils, I 4]) []) (.br (ay (py xs ys) != 0) (.leaf (.ret [.nils, I (ay (py xs ys))]) []) (.leaf (.ret [.os 0 0, I 0]) [(0, .arr 3 aa 0 false (py xs ys))])))))) .no
theorem Mn (o : Option (af)) : vZ o = bif o.isNone then some (.ret [.nils, I 4], []) else bif ay (o.getD []) != 0 then some (.ret [.nils, I (ay (o.getD []))], []) else some (.ret [.os 0 0, I 0], [(0, .arr 3 aa 0 false (o.getD []))]) := by
 cases o <;> rfl
theorem SG {xs ys : af} (hx : xs.length <= 2147483648) (hy : ys.length <= 2147483648) : aC tu f76 7 [(2, [0, 1, 18, 19, 20]), (13, [1, 10, 11, 48, 49])] [.d (.slice aa) xs, .d (.slice aa) ys] [] ah = (D5 xs ys).run ah := by
 have hb : (D5 xs ys).run ah = bif ay xs != 0 then some (.ret [.nils, I (ay xs)], []) else bif ay ys != 0 then some (.ret [.nils, I (ay ys)], []) else bif ux xs ys then some (.ret [.emp, I 0], []) else vZ (Mm xs ys) := by
  rw [Mn]
  unfold D5
  simp only [Tq.run, aD (show xs.length <= 2147483648 /\ ys.length <= 2147483648 from ⟨hx, hy⟩), ai]
  rfl
 rw [hb, YE, aD (show xs.length <= 9223372036854775807 by omega), aD (show ys.length <= 9223372036854775807 by omega), ai]
 cases ay xs != 0 with
 | true => rfl
 | false =>
  rw [ax, ax, ai]
  cases ay ys != 0 with
  | true => rfl
  | false =>
   rw [ax, ax]
   unfold ux Mm
   cases bJ : decide (Int.ofNat xs.length < Int.ofNat ys.length) with
   | true =>
    have hl : xs.length < ys.length := by have := aU bJ; simp only [aK] at this; omega
    rw [ai, ai, ai]
    cases J1 : ys with
    | nil => rw [J1] at hl; simp at hl
    | cons d r =>
     rw [← J1, show ys.isEmpty = false by rw [J1]; rfl, ax, ax, aD hy, ai]
     exact (Wg xs ys _).trans (Ge (by omega) hy)
   | false =>
    have hl : ys.length <= xs.length := by have := nz bJ; simp only [aK] at this; omega
    rw [ax, ax, ax]
    cases hxs : xs with
    | nil =>
     rw [hxs] at hl
     have hy0 : ys = [] := List.length_eq_zero_iff.1 (by simpa using hl)
     subst hy0
     rw [show (([] : af).isEmpty) = true from rfl, ai, ai]
     exact (YL _).trans (YM _)
    | cons d r =>
     rw [← hxs, show xs.isEmpty = false by rw [hxs]; rfl, ax, ax, aD hx, ai]
     exact (Wg ys xs _).trans (Ge hl hx)
def SH : List AV -> LHp -> Tq
 | [.d zS xs, .d zS ys], [] => D5 xs ys
 | _, _ => .no
theorem Gf : bg 76 (ao SH) := by
 have h1 := bD (d := 7) (l := [(2, [0, 1, 18, 19, 20]), (13, [1, 10, 11, 48, 49])]) L9 func76 call76
 refine aO fun args hs ae aH h' => ?_
 unfold SH at h'
 split at h'
 ·have h2 := h'
  unfold D5 at h2
  obtain ⟨hb, _⟩ := Tq.br_no h2
  obtain ⟨hx, hy⟩ := aU hb
  exact h1.okC ((SG hx hy).trans h')
 ·cases h'
noncomputable def gSr : Env := X2.add 76 (ao SH)
theorem Mo : gSr.Good := oM.add Gf
theorem YN (xs ys : af) : aC gSr f148 5 [] [.d (.slice aa) xs, .d (.slice aa) ys] [] ah = bif decide (xs.length <= 2147483648 /\ ys.length <= 2147483648) then bif ay xs != 0 then bif ay xs != 0 then some (aq.panic 131 (ay xs), []) else az [AV.nils] else bif ay ys != 0 then bif ay ys != 0 then some (aq.panic 131 (ay ys), []) else az [AV.nils] else bif ux xs ys then az [AV.emp] else bif PN xs ys then aV else bif ay (py xs ys) != 0 then bif ay (py xs ys) != 0 then some (aq.panic 131 (ay (py xs ys)), []) else az [AV.nils] else some (aq.ret [AV.os 0 0], [(0, aj.arr 3 (aa) 0 false (py xs ys))]) else none := by kernel_rfl
def dg (xs ys : af) : Int := bif ay xs != 0 then ay xs else bif ay ys != 0 then ay ys else bif ux xs ys then 0 else bif PN xs ys then 4 else ay (py xs ys)
def D6 (xs ys : af) : Tq := .br (decide (xs.length <= 2147483648 /\ ys.length <= 2147483648)) (.br (dg xs ys == 0) (.br (ux xs ys) (.leaf (.ret [.emp]) []) (.leaf (.ret [.os 0 0]) [(0, .arr 3 aa 0 false (py xs ys))])) (.leaf (.panic 131 (dg xs ys)) [])) .no
theorem SI (xs ys : af) : aC gSr f148 5 [] [.d (.slice aa) xs, .d (.slice aa) ys] [] ah = (D6 xs ys).run ah := by
 rw [YN]
 unfold D6
 simp only [Tq.run]
 cases decide (xs.length <= 2147483648 /\ ys.length <= 2147483648) with
 | false => rfl
 | true =>
  unfold dg
  cases h1 : ay xs != 0 with
  | true =>
   have : (ay xs == 0) = false := by simpa using h1
   simp only [ai, this, ax]
  | false =>
   cases h2 : ay ys != 0 with
   | true =>
    have : (ay ys == 0) = false := by simpa using h2
    simp only [ai, this, ax]
   | false =>
    cases ux xs ys with
    | true => rfl
    | false =>
     cases PN xs ys with
     | true => rfl
     | false =>
      cases h3 : ay (py xs ys) != 0 with
      | true =>
       have : (ay (py xs ys) == 0) = false := by simpa using h3
       simp only [ai, this, ax]
      | false =>
       have : ay (py xs ys) = 0 := by simpa using h3
       simp only [ai, ax, this]
       rfl
def SJ : List AV -> LHp -> Tq
 | [.d zS xs, .d zS ys], [] => D6 xs ys
 | _, _ => .no
theorem Gg : bg 148 (ao SJ) := by
 have h1 := bD (d := 5) (l := []) Mo func148 call148
 refine aO fun args hs ae aH h' => ?_
 unfold SJ at h'
 split at h'
 ·exact h1.okC ((SI _ _).trans h')
 ·cases h'
end
end Go.Proofs.XRT
namespace Go.Vm
variable {R : Type}
inductive Nx (A R : Type) where
 | go (a : A)
 | stop (r : Option R)
def cg {A α : Type} (f : A -> α -> Nx A R) (fin : A -> Option R) : List α -> A -> Option R
 | [], a => fin a
 | x :: xs, a => match f a x with
  | .go a' => cg f fin xs a'
  | .stop r => r
theorem cq {S A α : Type} {T : Nat -> S -> Option R} {xs : List α} {st : Int -> A -> S} {f : A -> α -> Nx A R} {fin : A -> Option R} (Inv : Nat -> A -> Prop) (hl : xs.length <= maxLen)
  (h : ∀ (i : Nat) (a : A) (x : α) (n : Nat), Inv i a -> i < xs.length -> xs[i]? = some x -> idx xs (i : Int) = some x -> IntKind.i64.wrap ((i : Int) + 1) = ((i + 1 : Nat) : Int) -> decide ((i : Int) < Int.ofNat xs.length) = true ->
   (∃ a', f a x = .go a' /\ Inv (i + 1) a' /\ T (n + 1) (st (i : Int) a) = T n (st ((i + 1 : Nat) : Int) a')) \/ (∃ r, f a x = .stop r /\ T (n + 1) (st (i : Int) a) = r))
  (he : ∀ (a : A) (n : Nat), Inv xs.length a -> decide (((xs.length : Nat) : Int) < Int.ofNat xs.length) = false -> T (n + 1) (st ((xs.length : Nat) : Int) a) = fin a) {a : A} (h0 : Inv 0 a) : T fu (st 0 a) = cg f fin xs a := by
 have hm : maxLen = 9223372036854775807 := by decide
 have hf : fu = 18446744073709551616 := rfl
 have key : ∀ (r i n : Nat) (a : A), i + r = xs.length -> r < n -> Inv i a -> T n (st (i : Int) a) = cg f fin (xs.drop i) a := by
  intro r
  induction r with
  | zero =>
   intro i n a hi hn hI
   obtain ⟨n, rfl⟩ : ∃ m', n = m' + 1 := ⟨n - 1, by omega⟩
   obtain rfl : i = xs.length := by omega
   rw [List.drop_eq_nil_of_le (by omega)]
   exact he a n hI (bU (Int.lt_irrefl _))
  | succ r ih =>
   intro i n a hi hn hI
   obtain ⟨n, rfl⟩ : ∃ m', n = m' + 1 := ⟨n - 1, by omega⟩
   have bJ : i < xs.length := by omega
   have gx : xs[i]? = some xs[i] := List.getElem?_eq_getElem bJ
   have gi : idx xs (i : Int) = some xs[i] := by unfold idx; rw [if_pos (by omega), Int.toNat_natCast, gx]
   have ed : xs.drop i = xs[i] :: xs.drop (i + 1) := List.drop_eq_getElem_cons bJ
   rcases h i a xs[i] n hI bJ gx gi (by rw [aI (by omega) (by omega)]; omega) (aD (by simp only [aK]; omega)) with ⟨a', h1, h2, h3⟩ | ⟨r', h1, h2⟩
   ·rw [h3, ed, cg, h1]
    exact ih (i + 1) n a' (by omega) (by omega) h2
   ·rw [h2, ed, cg, h1]
 have := key xs.length 0 fu a (by omega) (by omega) h0
 exact this
theorem x6 {S A : Type} {T : Nat -> S -> Option R} {N : Nat} {st : Int -> A -> S} {f : A -> Nat -> Nx A R} {fin : A -> Option R} (Inv : Nat -> A -> Prop) (hl : N <= maxLen)
  (h : ∀ (i : Nat) (a : A) (n : Nat), Inv i a -> i < N -> IntKind.i64.wrap ((i : Int) + 1) = ((i + 1 : Nat) : Int) -> decide ((i : Int) < Int.ofNat N) = true ->
   (∃ a', f a i = .go a' /\ Inv (i + 1) a' /\ T (n + 1) (st (i : Int) a) = T n (st ((i + 1 : Nat) : Int) a')) \/ (∃ r, f a i = .stop r /\ T (n + 1) (st (i : Int) a) = r))
  (he : ∀ (a : A) (n : Nat), Inv N a -> decide ((N : Int) < Int.ofNat N) = false -> T (n + 1) (st (N : Int) a) = fin a) {a : A} (h0 : Inv 0 a) : T fu (st 0 a) = cg f fin (List.range N) a := by
 have hlen : (List.range N).length = N := List.length_range
 refine cq (xs := List.range N) Inv (by omega) (fun i a x n hI hi gx _ hw hd => ?_) (fun a n hI hd => ?_) h0
 ·rw [hlen] at hi hd
  have e : x = i := by
   rw [List.getElem?_eq_getElem (by omega), List.getElem_range] at gx
   exact (Option.some.inj gx).symm
  subst e
  exact h _ a n hI hi hw hd
 ·rw [hlen] at hI hd ⊢
  exact he a n hI hd
end Go.Vm
namespace Go.Vm
def SM {R : Type} (t : Ty) (k : aq -> LHp -> Option R) (aH : LHp) : aq -> Option R
 | .ret [a] => (match toD (gm aH) a t with | some x => k (.ret [.d t x]) [] | none => none)
 | .panic n m => k (.panic n m) []
 | _ => none
def BM (t : Ty) (g : FnE) : FnE := { run := fun args hs k => match hs with
 | [] => g.run args [] fun ae aH => bif fV aH then SM t k aH ae else none
 | _ => none }
theorem oQ {P : Program} {Γ : Nat -> Option AV} {f : FuncId} {t : Ty} {g : FnE} (hg : FnE.OK P Γ f g) : FnE.OK P Γ f (BM t g) := by
 refine ⟨fun args hs k => ?_, fun args hs ae2 nc h => ?_⟩
 ·cases hs with
  | cons _ _ => rfl
  | nil =>
   simp only [BM]
   rw [hg.eq]
   conv => rhs; rw [hg.eq]
   cases g.run args [] (fun a h => some (a, h)) with
   | none => rfl
   | some p =>
    obtain ⟨ae, aH⟩ := p
    simp only [aB]
    cases fV aH with
    | false => rfl
    | true =>
     simp only [ai]
     unfold SM
     split
     ·split <;> rfl
     ·rfl
     ·rfl
 ·cases hs with
  | cons _ _ => cases h
  | nil =>
   simp only [BM] at h
   obtain ⟨ae, aH, hrun, h⟩ := hg.nat _ _ _ _ h
   have hF := hg.ok _ _ _ _ hrun
   clear hrun
   cases hA : fV aH with
   | false => rw [hA] at h; cases h
   | true =>
    rw [hA, ai] at h
    refine ⟨hF.1, fun W im μ vals himLt hglob hinv hrep => ?_⟩
    refine (hF.2 W im μ vals himLt hglob hinv hrep).mono ?_
    rintro e w' ⟨nd, h1, bI, bh, ⟨rfl, rfl⟩, S, he⟩
    have eg : ∀ o, (jA (bh o)).blk = none := fun o => by
     cases ho : aA aH o with
     | none => rw [S.inv.dom o ho]; rfl
     | some ob =>
      obtain ⟨T, e, m, z, xs, rfl⟩ := cV hA ho
      rcases S.inv.obj o _ ho with ⟨ad, bp, _⟩ | ⟨_, bb, cap, cells, bp, _⟩ | ⟨_, bb, cap, cs, bp, _⟩ <;> rw [bp] <;> rfl
    have qe : Ev w' bI bh (aA aH) w' (fun k => bI k \/ ∃ o, (bh o).blk = some k) (fun o => jA (bh o)) (aA (gm aH)) := by
     refine ⟨fun _ h => .inl h, fun _ _ => rfl, fun o ob ho => ?_⟩
     obtain ⟨T, e, m, z, xs, rfl⟩ := cV hA ho
     refine ⟨.arr T e m true xs, by rw [iA hA, ho], m, true, xs, rfl, .inl ⟨rfl, rfl, ?_⟩⟩
     cases hm : bh o with
     | row bb cap => exact .inr ⟨bb, cap, rfl, rfl⟩
     | none => exact .inl rfl
     | «at» bb => exact .inl rfl
     | nil ad => exact .inl rfl
     | fz bb cap => exact .inl rfl
    have hobF : ∀ k ob, aA (gm aH) k = some ob -> il w' (fun k => bI k \/ ∃ o, (bh o).blk = some k) (fun o => jA (bh o)) (aA (gm aH)) (jA (bh k)) ob := by
     intro k ob hk
     rw [iA hA] at hk
     cases ho : aA aH k with
     | none => rw [ho] at hk; cases hk
     | some ob0 =>
      obtain ⟨T, e, m, z, xs, rfl⟩ := cV hA ho
      rw [ho] at hk
      cases hk
      rcases S.inv.obj k _ ho with ⟨ad, bp, hx⟩ | ⟨_, bb, cap, cells, bp, J0, h1, h2, h3, h4⟩ | ⟨_, bb, cap, cs, bp, q1, q2, q3, q4, q5⟩
      ·rw [bp]
       exact .inl ⟨ad, rfl, hx⟩
      ·rw [bp]
       refine .inr (.inr ⟨rfl, bb, cap, _, rfl, .inr ⟨k, by rw [bp]; rfl⟩, h1, h2, ?_, aR.mono (aM.mono qe.fim qe.fheap e) _ _ h4⟩)
       have := (cp J0).sub 0 (xs.length * e.size)
       simpa using this
      ·rw [bp]
       exact .inr (.inr ⟨rfl, bb, cap, cs, rfl, .inl q1, q2, q3, q4, aR.mono (aM.mono qe.fim qe.fheap e) _ _ q5⟩)
    have kf : dc W im μ (aA []) w' (fun k => bI k \/ ∃ o, (bh o).blk = some k) Iy (aA []) := by
     refine ⟨S.os, S.tape, S.output, S.grow, S.old, fun b hb => .inl (S.imSub b hb), fun b hb => ?_, fun b hb => ?_, fun _ _ h => (by cases h), fun _ _ h => (by cases h), ⟨fun _ _ h => (by cases h), fun _ _ _ h => (by cases h), fun _ _ => rfl, fun _ _ h => (by cases h)⟩⟩
     ·rcases hb with hb | ⟨o, hb⟩
      ·exact S.imNew b hb
      ·rcases S.own o b hb with h | h
       ·exact .inr (.inl h)
       ·exact .inr (.inr h)
     ·rcases hb with hb | ⟨o, hb⟩
      ·exact S.imLt b hb
      ·exact (S.inv.sep o b hb).2
    cases nd with
    | panic n m =>
     cases h
     exact ⟨_, _, _, _, ⟨rfl, rfl⟩, kf, he⟩
    | ret l =>
     match l, h, he with
     | [a], h, ⟨v, e1, h1, h2⟩ =>
      simp only [SM] at h
      split at h
      ·rename_i x hx
       cases h
       have hc := jr hx
       have hr : bo w' bI bh (aA aH) a v := by
        cases a with
        | undef => simp only [RepA] at h1
        | tup l => simp only [RepA] at h1
        | _ => exact ⟨h1, h2⟩
       have hr2 := hr.ev qe
       have wN : RepA w' (fun k => bI k \/ ∃ o, (bh o).blk = some k) (fun o => jA (bh o)) (aA (gm aH)) a v.cells.toList := by
        cases a with
        | undef => simp only [RepA] at h1
        | tup l => simp only [RepA] at h1
        | _ => exact hr2.1
       refine ⟨_, _, _, _, ⟨rfl, rfl⟩, kf, v, e1, ?_, ?_⟩
       ·simp only [RepA]
        exact hc.sound hobF _ wN
       ·rw [h2]; exact hc.agg
      ·cases h
     | [], h, _ => cases h
     | _ :: _ :: _, h, _ => cases h
end Go.Vm
namespace Go.Vm
def x7 (hp : LHp) : List AV -> List Ty -> Option (List AV)
 | [], [] => some []
 | a :: l, t :: ts => (match toD hp a t, x7 hp l ts with | some x, some r => some (.d t x :: r) | _, _ => none)
 | _, _ => none
def YP : List AV -> Bool
 | [] => true
 | .d _ _ :: l => YP l
 | _ :: _ => false
def isD : aq -> Bool
 | .ret l => YP l
 | .panic _ _ => true
def YQ {R : Type} (hs : LHp) (k : aq -> LHp -> Option R) (aH : LHp) (ae : aq) : Option R :=
 bif aH.isEmpty && isD ae then k ae (gm hs) else none
def b8 (ts : List Ty) (g : FnE) : FnE := { run := fun args hs k => bif fV hs && cj hs.length hs then (match x7 (gm hs) args ts with | some args' => g.run args' [] (fun ae aH => YQ hs k aH ae) | none => none) else none }
theorem oR {w : World} {im : Nat -> Prop} {μ : Mu} {hp : LHp} (dK : ∀ k ob, aA hp k = some ob -> il w im μ (aA hp) (μ k) ob) : ∀ {l : List AV} {ts : List Ty} {l' : List AV} {vs : List Value}, x7 hp l ts = some l' -> RepFs w im μ (aA hp) l vs -> RepFs w im Iy ajj l' vs
 | [], [], l', vs, h, hr => by cases h; exact hr
 | [], _ :: _, l', vs, h, hr => by cases h
 | _ :: _, [], l', vs, h, hr => by cases h
 | a :: l, t :: ts, l', vs, h, hr => by
  simp only [x7] at h
  split at h
  ·rename_i x r hb hl
   cases h
   simp only [RepFs] at hr ⊢
   obtain ⟨v, us, e, h1, h2, h3⟩ := hr
   have hc := jr hb
   refine ⟨v, us, e, ?_, ?_, oR dK hl h3⟩
   ·simp only [RepA]
    exact hc.sound dK _ h1
   ·rw [h2]
    exact hc.agg
  ·cases h
theorem tx {w : World} {im : Nat -> Prop} {μ bh : Mu} {hp bp : Hp} : ∀ {l : List AV} {vs : List Value}, YP l = true -> RepFs w im μ hp l vs -> RepFs w im bh bp l vs
 | [], vs, _, hr => hr
 | a :: l, vs, h, hr => by
  cases a with
  | d t x =>
   simp only [RepFs] at hr ⊢
   obtain ⟨v, us, e, h1, h2, h3⟩ := hr
   simp only [RepA] at h1
   refine ⟨v, us, e, ?_, h2, tx h h3⟩
   simp only [RepA]
   exact h1
  | _ => cases h
theorem bf {P : Program} {Γ : Nat -> Option AV} {f : FuncId} {ts : List Ty} {g : FnE} (hg : FnE.OK P Γ f g) : FnE.OK P Γ f (b8 ts g) := by
 refine ⟨fun args hs k => ?_, fun args hs ae2 nc h => ?_⟩
 ·simp only [b8]
  cases fV hs && cj hs.length hs with
  | false => rfl
  | true =>
   simp only [ai]
   cases x7 (gm hs) args ts with
   | none => rfl
   | some args' =>
    simp only
    rw [hg.eq]
    conv => rhs; rw [hg.eq]
    cases g.run args' [] (fun a h => some (a, h)) with
    | none => rfl
    | some p =>
     obtain ⟨ae, aH⟩ := p
     simp only [aB, YQ]
     cases aH.isEmpty && isD ae <;> rfl
 ·simp only [b8] at h
  cases hc : fV hs && cj hs.length hs with
  | false => rw [hc] at h; cases h
  | true =>
   rw [hc] at h
   simp only [ba] at hc
   obtain ⟨hA, hB⟩ := hc
   simp only [ai] at h
   split at h
   ·rename_i args' hargs
    obtain ⟨ae, aH, hrun, h⟩ := hg.nat _ _ _ _ h
    have hF := hg.ok _ _ _ _ hrun
    clear hrun
    simp only [YQ] at h
    cases hA' : aH.isEmpty && isD ae with
    | false => rw [hA'] at h; cases h
    | true =>
      rw [hA', ai] at h
      simp only [ba] at hA'
      obtain ⟨hE', hD'⟩ := hA'
      have hnil : aH = [] := List.isEmpty_iff.1 hE'
      subst hnil
      cases h
      ·skip
       refine ⟨hF.1, fun W im μ vals himLt hglob hinv hrep => ?_⟩
       have eg : ∀ o, (jA (μ o)).blk = none := fun o => by
        cases ho : aA hs o with
        | none => rw [hinv.dom o ho]; rfl
        | some ob =>
         obtain ⟨T, e, m, z, xs, rfl⟩ := cV hA ho
         rcases hinv.obj o _ ho with ⟨ad, bp, _⟩ | ⟨_, bb, cap, cells, bp, _⟩ | ⟨_, bb, cap, cs, bp, _⟩ <;> rw [bp] <;> rfl
       have qe : Ev W im μ (aA hs) W (fun k => im k \/ ∃ o, (μ o).blk = some k) (fun o => jA (μ o)) (aA (gm hs)) := by
        refine ⟨fun _ h => .inl h, fun _ _ => rfl, fun o ob ho => ?_⟩
        obtain ⟨T, e, m, z, xs, rfl⟩ := cV hA ho
        refine ⟨.arr T e m true xs, by rw [iA hA, ho], m, true, xs, rfl, .inl ⟨rfl, rfl, ?_⟩⟩
        cases hm : μ o with
        | row bb cap => exact .inr ⟨bb, cap, rfl, rfl⟩
        | none => exact .inl rfl
        | «at» bb => exact .inl rfl
        | nil ad => exact .inl rfl
        | fz bb cap => exact .inl rfl
       have hobF : ∀ k ob, aA (gm hs) k = some ob -> il W (fun k => im k \/ ∃ o, (μ o).blk = some k) (fun o => jA (μ o)) (aA (gm hs)) (jA (μ k)) ob := by
        intro k ob hk
        rw [iA hA] at hk
        cases ho : aA hs k with
        | none => rw [ho] at hk; cases hk
        | some ob0 =>
         obtain ⟨T, e, m, z, xs, rfl⟩ := cV hA ho
         rw [ho] at hk
         cases hk
         rcases hinv.obj k _ ho with ⟨ad, bp, hx⟩ | ⟨_, bb, cap, cells, bp, J0, h1, h2, h3, h4⟩ | ⟨_, bb, cap, cs, bp, q1, q2, q3, q4, q5⟩
         ·rw [bp]
          exact .inl ⟨ad, rfl, hx⟩
         ·rw [bp]
          refine .inr (.inr ⟨rfl, bb, cap, _, rfl, .inr ⟨k, by rw [bp]; rfl⟩, h1, h2, ?_, aR.mono (aM.mono qe.fim qe.fheap e) _ _ h4⟩)
          have := (cp J0).sub 0 (xs.length * e.size)
          simpa using this
         ·rw [bp]
          exact .inr (.inr ⟨rfl, bb, cap, cs, rfl, .inl q1, q2, q3, q4, aR.mono (aM.mono qe.fim qe.fheap e) _ _ q5⟩)
       have hltF : ∀ k, (im k \/ ∃ o, (μ o).blk = some k) -> k < W.heap.size := by
        rintro k (hk | ⟨o, hk⟩)
        ·exact himLt k hk
        ·exact (hinv.sep o k hk).2
       have hargsF := oR hobF hargs (RepFs.ev qe _ _ hrep)
       have hglobF : kT Γ W (fun k => im k \/ ∃ o, (μ o).blk = some k) := fun gg v hv => (hglob gg v hv).ev ⟨fun _ h => .inl h, fun _ _ => rfl, fun _ _ h => (by cases h)⟩
       have hinvF : jR W (fun k => im k \/ ∃ o, (μ o).blk = some k) Iy (aA []) := ⟨fun _ _ h => (by cases h), fun _ _ _ h => (by cases h), fun _ _ => rfl, fun _ _ h => (by cases h)⟩
       refine (hF.2 W _ Iy vals hltF hglobF hinvF hargsF).mono ?_
       rintro e w' ⟨nd, h1, bI, bh, ⟨rfl, rfl⟩, S, he⟩
       have hlow : ∀ o, hs.length <= o -> aA hs o = none := fun o ho => (by cases hq : aA hs o with
        | none => rfl
        | some ob => exact absurd (cb hB o ob hq) (by omega))
       have hfree : ∀ b, b < W.heap.size -> w'.heap[b]? = W.heap[b]? := fun b hb => S.old b hb fun o h => by cases h
       have ev2 : Ev W (fun k => im k \/ ∃ o, (μ o).blk = some k) (fun o => jA (μ o)) (aA (gm hs)) w' bI (fun o => jA (μ o)) (aA (gm hs)) :=
        ⟨S.imSub, fun b hb => hfree b (hltF b hb), fun o ob ho => ⟨ob, ho, cA.refl _ _⟩⟩
       refine ⟨_, _, bI, fun o => jA (μ o), ⟨rfl, rfl⟩, ⟨S.os, S.tape, S.output, S.grow, fun b hb _ => hfree b hb, fun b hb => S.imSub b (.inl hb), fun b hb => ?_, S.imLt, fun o b hb => ?_, fun o ob ho => qe.fob o ob ho, ⟨fun o b hb => ?_, fun o o' b h1 h2 => ?_, fun o ho => ?_, fun o ob ho => ?_⟩⟩, ?_⟩
       ·rcases S.imNew b hb with (h | h) | ⟨o, h⟩ | h
        ·exact .inl h
        ·exact .inr (.inl h)
        ·cases h
        ·exact .inr (.inr h)
       ·rw [eg] at hb; cases hb
       ·rw [eg] at hb; cases hb
       ·rw [eg] at h1; cases h1
       ·rw [iA hA] at ho
        cases hq : aA hs o with
        | none => rw [hinv.dom o hq]; rfl
        | some ob0 =>
         obtain ⟨T, e, m, z, xs, rfl⟩ := cV hA hq
         rw [hq] at ho
         cases ho
       ·exact (hobF o ob ho).ev ev2 fun b hb => by rw [eg] at hb; cases hb
       ·cases nd with
        | panic t n => exact he
        | ret l =>
         match l, hD', he with
         | [.d t x], _, ⟨v, e1, h1, h2⟩ =>
          refine ⟨v, e1, ?_, h2⟩
          simp only [RepA] at h1 ⊢
          exact h1
         | [], hd, ⟨vs, e1, h1⟩ => exact ⟨vs, e1, tx hd h1⟩
         | _ :: _ :: _, hd, ⟨vs, e1, h1⟩ => exact ⟨vs, e1, tx hd h1⟩
   ·cases h
end Go.Vm
namespace Go.Vm
def cK (t : Ty) (r : Option (aq × LHp)) : Option (aq × LHp) := match r with
 | some (ae, aH) => bif fV aH then SM t ah aH ae else none
 | none => none
theorem FnE.OK.okO {E : Env} {fn : Func} {depth : Nat} {live : List (Nat × List Nat)} {P : Program} {Γ : Nat -> Option AV} {f : FuncId} (h : FnE.OK P Γ f (au E fn depth live)) (t : Ty) {args : List AV} {aH : LHp} {ae : aq} (e : cK t (aC E fn depth live args [] ah) = some (ae, aH)) : FnH P Γ f args (aA []) (fun nd h1 => nd = ae /\ h1 = aA aH) := by
 refine (oQ (t := t) h).ok args [] ae aH ?_
 simp only [BM]
 rw [h.eq]
 have e' : cK t ((au E fn depth live).run args [] fun a h => some (a, h)) = some (ae, aH) := e
 cases hr : (au E fn depth live).run args [] (fun a h => some (a, h)) with
 | none => rw [hr] at e'; cases e'
 | some p => rw [hr] at e'; exact e'
abbrev pnc (t : TypeId) (n : Int) : Tq := .leaf (.panic t n) []
abbrev dat (t : Ty) (x : t.den) : Tq := .leaf (.ret [.d t x]) []
theorem BN (t : Ty) (c : Bool) (a b : Option (aq × LHp)) : cK t (bif c then a else b) = bif c then cK t a else cK t b := by cases c <;> rfl
end Go.Vm
set_option maxRecDepth 100000
set_option maxHeartbeats 4000000
namespace Go.Proofs.XRT
open Go.Vm Go Tryz IntKind
noncomputable section
noncomputable def Wh : Code := bd f210
noncomputable def x8 : Code := cL (cL (cR (cL (cR (cR Wh)))))
noncomputable def gM : Cfg := ⟨15, 4, 0, [(3, [3, 5, 6])], true⟩
theorem YR (op nm : ak) (ins : List (ak)) (out : ak) (ag : bn) (name : ak) (ot : af) : aC gIs f25 5 [] [cO op nm ins out ag, .d .str name, .d (.slice aa) ot] [] ah = bif decide (ag.length <= 9223372036854775807) then bif decide (bk (fun a => a.fst == name && a.snd.fst == 7) ag < 0) then bif decide (ot = []) then az [AV.emp] else bif decide (ot.length <= 2147483648) then some (aq.ret [AV.os 0 0], [(0, aj.arr 2 (aa) 0 false ot)]) else none else (List.find? (fun a => a.fst == name && a.snd.fst == 7) ag).bind fun v2 => bif decide (v2.2.2.2.2.2.2.1 = []) then az [AV.emp] else bif decide (List.length v2.2.2.2.2.2.2.1 <= 2147483648) then some (aq.ret [AV.os 0 0], [(0, aj.arr 2 (aa) 0 false v2.2.2.2.2.2.2.1)]) else none else none := by kernel_rfl
noncomputable def KUp : AEx -> LSt -> Option (aq × LHp) := (aQ 0 (aX jP gM [3] (hlp jP gM) (cR (cR (cR Wh))) (aZ prog 0 f210.results.toList ah)))
theorem Mr (n : Int) : aC jP f210 4 [(3, [3, 5, 6])] [I n] [] ah = (hlp jP gM) x8 _ { fr := aw 4 [(3, AV.nils), (5, I n), (6, I 0)], hp := [], nx := 0 } KUp := (bq [3] gM rfl).trans (by obtain ⟨hl, h⟩ := bc jP gM; rw [h]; kernel_rfl)
noncomputable def Gh : Code := bd f196
noncomputable def SN : Code := cL (cL (cR (cL (cR Gh))))
noncomputable def iH : Cfg := ⟨19, 5, 0, [(2, [0, 1, 7, 8])], true⟩
theorem YS (op : ak) : aC g18 f193 4 [(2, [0, 5, 6])] [.d .str op] [] ah = bif [73, 100, 101, 110, 116, 105, 116, 121] == op then az [B true] else bif [78, 101, 103] == op then az [B true] else bif [65, 98, 115] == op then az [B true] else bif [78, 111, 116] == op then az [B true] else bif [82, 101, 108, 117] == op then az [B true] else bif [83, 113, 114, 116] == op then az [B true] else bif [70, 108, 111, 111, 114] == op then az [B true] else bif [69, 120, 112] == op then az [B true] else bif [83, 105, 103, 109, 111, 105, 100] == op then az [B true] else bif [84, 97, 110, 104] == op then az [B true] else az [B false] := by kernel_rfl
def fW (op : ak) : Bool := ones.any fun o => o == op
theorem SO (op : ak) : aC g18 f193 4 [(2, [0, 5, 6])] [.d .str op] [] ah = some (.ret [B (fW op)], []) := by
 rw [YS]
 unfold fW ones
 simp only [List.any_cons, List.any_nil, Bool.or_false]
 repeat (first | rfl | (cases (_ : ak) == op <;> simp only [ai, ax, Bool.true_or, Bool.false_or]))
def SP : List AV -> LHp -> Option (aq × LHp)
 | [.d .str op], [] => some (.ret [B (fW op)], [])
 | _, _ => none
theorem Gi : bg 193 (fnE SP) := by
 refine gL oL bO func193 call193 (depth := 4) (live := [(2, [0, 5, 6])]) (by decide +kernel) rfl fun args hs p h => ?_
 unfold SP at h
 split at h
 ·cases h
  exact SO _
 ·cases h
noncomputable def afE : Env := g35.add 193 (fnE SP)
theorem Iz : afE.Good := l4.add Gi
theorem SQ (op : ak) : aC afE f205 3 [] [.d .str op] [] ah = az [B !fW op] := by kernel_rfl
def Ms : List AV -> LHp -> Option (aq × LHp)
 | [.d .str op], [] => some (.ret [B (!fW op)], [])
 | _, _ => none
theorem Mt : bg 205 (fnE Ms) := by
 refine gL Iz bO func205 call205 (depth := 3) (live := []) (by decide +kernel) rfl fun args hs p h => ?_
 unfold Ms at h
 split at h
 ·cases h
  exact SQ _
 ·cases h
noncomputable def Gj : Env := Wb.add 205 (fnE Ms)
theorem Mv : Gj.Good := kB.add Mt
def Mw (ws : List (ak)) (i : Int) : LSt := ⟨aw 5 [(0, .d (.slice .str) ws), (1, .fn (.func 205) [] []), (7, I (Int.ofNat ws.length)), (8, I i)], [], 0⟩
theorem YT (ws : List (ak)) : aC Gj f196 5 [(2, [0, 1, 7, 8])] [.d (.slice .str) ws, .fn (.func 205) [] []] [] ah = (hlp Gj iH) SN _ (Mw ws 0) (aQ 0 (aX Gj iH [2] (hlp Gj iH) (cR (cR Gh)) (aZ prog 0 f196.results.toList ah))) := (bq [2] iH rfl).trans (by obtain ⟨hl, h⟩ := bc Gj iH; rw [h]; kernel_rfl)
theorem YU (ws : List (ak)) (i : Int) (n : Nat) {R : Type} (k : AEx -> LSt -> Option R) : lp Gj iH SN (n + 1) (Mw ws i) k = bif decide (i < Int.ofNat ws.length) then (idx ws i).bind fun v1 => bif !fW v1 then k AEx.ret { fr := aw 5 [(0, AV.d Ty.str.slice ws), (1, AV.fn (Fn.func 205) [] []), (4, I i), (5, I i), (7, I (Int.ofNat ws.length)), (8, I i), (9, B true), (10, I i), (11, AV.fn (Fn.func 205) [] []), (12, AV.d Ty.str.slice ws), (13, I i), (14, AV.ip Ty.str v1), (15, AV.d Ty.str v1), (16, B true), (17, I i)], hp := [], nx := 0 } else lp Gj iH SN n (Mw ws (i64.wrap (i + 1))) k else k (AEx.exit 0) { fr := aw 5 [(0, AV.d Ty.str.slice ws), (1, AV.fn (Fn.func 205) [] []), (7, I (Int.ofNat ws.length)), (8, I i), (9, B false)], hp := [], nx := 0 } := by kernel_rfl
theorem SR (ws : List (ak)) (hl : ws.length <= maxLen) : aC Gj f196 5 [(2, [0, 1, 7, 8])] [.d (.slice .str) ws, .fn (.func 205) [] []] [] ah = some (.ret [I (bk (fun w => !fW w) ws)], []) := by
 rw [YT]
 have hs := fun (i : Int) (n : Nat) => YU ws i n (aQ 0 (aX Gj iH [2] (hlp Gj iH) (cR (cR Gh)) (aZ prog 0 f196.results.toList ah)))
 have h := fx (T := fun n s => lp Gj iH SN n s (aQ 0 (aX Gj iH [2] (hlp Gj iH) (cR (cR Gh)) (aZ prog 0 f196.results.toList ah)))) (xs := ws) (st := fun i => Mw ws i) hl hs
 unfold Mw at h
 refine h.trans ?_
 unfold bk
 cases hq : ws.findIdx? (fun w => !fW w) with
 | none => show _ = _; kernel_rfl
 | some i =>
  obtain ⟨hi, _⟩ := List.findIdx?_eq_some_iff_getElem.1 hq
  simp only [List.getElem?_eq_getElem hi, aB]
  show _ = _
  kernel_rfl
def YV : List AV -> LHp -> Tq
 | [.d (.slice .str) ws, .fn (.func 205) [] []], [] => .br (decide (ws.length <= maxLen)) (.leaf (.ret [I (bk (fun w => !fW w) ws)]) []) .no
 | _, _ => .no
theorem SS : bg 196 (ao YV) := by
 refine bW Mv bO func196 call196 (depth := 5) (live := [(2, [0, 1, 7, 8])]) (by decide +kernel) rfl fun args hs p h => ?_
 unfold YV at h
 split at h
 ·obtain ⟨hl, h⟩ := Tq.br_no h
  cases h
  have hl := aU hl
  exact SR _ hl
 ·cases h
noncomputable def gCs : Env := Wc.add 196 (ao YV)
theorem Mx : gCs.Good := jx.add SS
theorem YW (ws : List (ak)) : aC gCs f204 4 [] [.d (.slice .str) ws, .fn (.func 205) [] []] [] ah = bif decide (ws.length <= 9223372036854775807) then az [B (decide (bk (fun w => !fW w) ws >= 0))] else none := by kernel_rfl
def My : List AV -> LHp -> Tq
 | [.d .str s, .d .str sep, .d zI a, .d zI b], [] => .br (sep == [44]) (.br (a == 0) (.br (b == -1) (.br (decide (s.length <= 2147483647)) (.leaf (.ret [.d (.slice .str) (cc s)]) []) .no) .no) .no) .no
 | _, _ => .no
theorem Mz : bg 244 (ao My) := by
 have h1 := bD (d := 7) (l := [(11, [0, 1, 2, 3, 9, 10])]) Mi func244 call244
 refine aO fun args hs ae aH h' => ?_
 unfold My at h'
 split at h'
 ·obtain ⟨hb, h2⟩ := Tq.br_no h'
  obtain ⟨hc, h3⟩ := Tq.br_no h2
  obtain ⟨hd, h4⟩ := Tq.br_no h3
  obtain ⟨hl, h5⟩ := Tq.br_no h4
  obtain rfl := eq_of_beq hb
  obtain rfl := eq_of_beq hc
  obtain rfl := eq_of_beq hd
  exact h1.okC ((Ml (aU hl)).trans h5)
 ·cases h'
noncomputable def gSp : Env := g35.add 244 (ao My)
theorem MA : gSp.Good := l4.add Mz
theorem YX (s : ak) : aC gSp f195 4 [] [.d .str s, .d .str [44]] [] ah = bif decide (s.length <= 2147483647) then az [AV.d Ty.str.slice (cc s)] else none := by kernel_rfl
def SU : List AV -> LHp -> Tq
 | [.d .str s, .d .str sep], [] => .br (sep == [44]) (.br (decide (s.length <= 2147483647)) (.leaf (.ret [.d (.slice .str) (cc s)]) []) .no) .no
 | _, _ => .no
theorem Gk : bg 195 (ao SU) := by
 have h1 := bD (d := 4) (l := []) MA func195 call195
 refine aO fun args hs ae aH h' => ?_
 unfold SU at h'
 split at h'
 ·obtain ⟨hb, h2⟩ := Tq.br_no h'
  obtain rfl := eq_of_beq hb
  exact h1.okC ((YX _).trans h2)
 ·cases h'
def YY : List AV -> LHp -> Tq
 | [.d (.slice .str) ws, .fn (.func 205) [] []], [] => .br (decide (ws.length <= maxLen)) (.leaf (.ret [B (!ws.all fW)]) []) .no
 | _, _ => .no
theorem MB {ws : List (ak)} : decide (bk (fun w => !fW w) ws >= 0) = !ws.all fW := by
 unfold bk
 cases h : ws.findIdx? (fun w => !fW w) with
 | none =>
  rw [List.findIdx?_eq_none_iff] at h
  rw [List.all_eq_true.2 fun x hx => by simpa using h x hx]
  rfl
 | some i =>
  obtain ⟨hi, hp, _⟩ := List.findIdx?_eq_some_iff_getElem.1 h
  have : ws.all fW = false := by
   rw [List.all_eq_false]
   exact ⟨_, List.getElem_mem hi, by simpa using hp⟩
  rw [this]
  exact aD (by show ((i : Nat) : Int) >= 0; omega)
theorem SV : bg 204 (ao YY) := by
 have h1 := bD (d := 4) (l := []) Mx func204 call204
 refine aO fun args hs ae aH h' => ?_
 unfold YY at h'
 split at h'
 ·refine h1.okC ((YW _).trans ?_)
  rw [MB]
  exact h'
 ·cases h'
noncomputable def gTh : Env := ((Wc.add 64 (ao D3)).add 195 (ao SU)).add 204 (ao YY)
theorem MC : gTh.Good := ((jx.add oP).add Gk).add SV
theorem YZ (op nm : ak) (ins : List (ak)) (out : ak) (ag : bn) : aC gTh f144 5 [] [cO op nm ins out ag] [] ah = bif decide (ag.length <= 9223372036854775807) then bif decide (bk (fun a => a.fst == [116, 104, 101, 110] && a.snd.fst == 3) ag < 0) then az [AV.nils, I 0] else (List.find? (fun a => a.fst == [116, 104, 101, 110] && a.snd.fst == 3) ag).bind fun v2 => bif decide (List.length v2.2.2.2.2.1 <= 2147483647) then bif decide ((cc v2.2.2.2.2.1).length <= 9223372036854775807) then bif !(cc v2.2.2.2.2.1).all fW then az [AV.nils, I 4] else az [AV.d Ty.str.slice (cc v2.2.2.2.2.1), I 0] else none else none else none := by kernel_rfl
def mK : ak := [116, 104, 101, 110]
def k8 (ag : bn) : Bool := (ag.find? (ie mK 3)).isNone
def oS (ag : bn) : List (ak) := match ag.find? (ie mK 3) with | some a => cc a.2.2.2.2.1 | none => []
def iW (ag : bn) : Bool := !(oS ag).all fW
theorem pU (s : ak) : (cc s).length <= s.length + 1 := by rw [tw]; have := BL s; omega
def aF (ag : bn) : Bool := decide (ag.length <= 2147483647) && ag.all fun a => decide (a.1.length <= 2147483647) && decide (a.2.2.2.2.1.length <= 2147483647) && decide (a.2.2.2.2.2.2.1.length <= 2147483648)
theorem gN {ag : bn} (h : aF ag = true) {a : (Y1).den} (ha : a ∈ ag) : a.1.length <= 2147483647 /\ a.2.2.2.2.1.length <= 2147483647 /\ a.2.2.2.2.2.2.1.length <= 2147483648 := by
 unfold aF at h
 rw [ba] at h
 have := List.all_eq_true.1 h.2 a ha
 simp only [ba, decide_eq_true_eq] at this
 exact ⟨this.1.1, this.1.2, this.2⟩
theorem bM {ag : bn} (h : aF ag = true) : ag.length <= 2147483647 := by
 unfold aF at h
 rw [ba] at h
 exact aU h.1
def SW : List AV -> LHp -> Tq
 | [.d Y2 (_, _, _, _, ag, _)], [] => .br (aF ag) (.br (k8 ag) (.leaf (.ret [.nils, I 0]) []) (.br (iW ag) (.leaf (.ret [.nils, I 4]) []) (.leaf (.ret [.d (.slice .str) (oS ag), I 0]) []))) .no
 | _, _ => .no
theorem Gl : bg 144 (ao SW) := by
 have h1 := bD (d := 5) (l := []) MC func144 call144
 refine aO fun args hs ae aH h' => ?_
 unfold SW at h'
 split at h'
 ·rename_i op nm ins out ag _
  obtain ⟨hb, h2⟩ := Tq.br_no h'
  refine h1.okC ((YZ op nm ins out ag).trans ?_)
  refine Eq.trans ?_ h2
  have hlen := bM hb
  rw [aD (show ag.length <= 9223372036854775807 by have := hlen; omega), jW, ai]
  unfold k8 iW oS
  change (bif (ag.find? (ie mK 3)).isNone then _ else (ag.find? (ie mK 3)).bind _) = _
  cases hq : ag.find? (ie mK 3) with
  | none => rfl
  | some a =>
   have hm := gN hb (List.mem_of_find?_eq_some hq)
   have hs := pU a.2.2.2.2.1
   simp only [Option.isNone_some, ax, aB]
   rw [aD hm.2.1, ai, aD (show (cc a.2.2.2.2.1).length <= 9223372036854775807 by have := hm.2.1; omega), ai]
   rfl
 ·cases h'
theorem Y7 (c : Int) : aC Wb f199 4 [] [.d (.int .u8) c] [] ah = bif c == 105 then az [I 2] else bif c == 115 then az [I 7] else bif c == 102 then az [I 1] else bif c == 116 then az [I 4] else az [I 3] := by kernel_rfl
theorem Y8 (w p : ak) : aC g20 f198 4 [] [.d .str w, .d .str p] [] ah = bif decide (Int.ofNat w.length >= Int.ofNat p.length) then (if (0 : Int) <= 0 /\ 0 <= Int.ofNat p.length /\ Int.ofNat p.length <= Int.ofNat w.length then some (List.drop 0 (List.take (Int.ofNat p.length).toNat w)) else none).bind fun v1 => az [B (v1 == p)] else az [B false] := by kernel_rfl
theorem Y9 (w : ak) : aC g39 f203 4 [] [.d .str w, .d .str [42]] [] ah = bif decide (Int.ofNat w.length >= 1) then (if 0 <= i64.wrap (Int.ofNat w.length - 1) /\ i64.wrap (Int.ofNat w.length - 1) <= Int.ofNat w.length /\ Int.ofNat w.length <= Int.ofNat w.length then some (List.drop (i64.wrap (Int.ofNat w.length - 1)).toNat (List.take (Int.ofNat w.length).toNat w)) else none).bind fun v1 => az [B (v1 == [42])] else az [B false] := by kernel_rfl
theorem Za (w : ak) : aC g37 f202 4 [] [.d .str w, .d .str [32]] [] ah = bif [32] == w then (if (0 : Int) <= 1 /\ 1 <= Int.ofNat w.length /\ Int.ofNat w.length <= Int.ofNat w.length then some (List.drop 1 (List.take (Int.ofNat w.length).toNat w)) else none).bind fun v1 => az [AV.d Ty.str [], AV.d Ty.str v1, B true] else bif decide (Lib.indexByte w 32 >= 0) then (if (0 : Int) <= 0 /\ 0 <= Lib.indexByte w 32 /\ Lib.indexByte w 32 <= Int.ofNat w.length then some (List.drop 0 (List.take (Lib.indexByte w 32).toNat w)) else none).bind fun v2 => (if 0 <= i64.wrap (Lib.indexByte w 32 + 1) /\ i64.wrap (Lib.indexByte w 32 + 1) <= Int.ofNat w.length /\ Int.ofNat w.length <= Int.ofNat w.length then some (List.drop (i64.wrap (Lib.indexByte w 32 + 1)).toNat (List.take (Int.ofNat w.length).toNat w)) else none).bind fun v3 => az [AV.d Ty.str v2, AV.d Ty.str v3, B true] else az [AV.d Ty.str w, AV.d Ty.str [], B false] := by kernel_rfl
def dO (c : Int) : Int := bif c == 105 then 2 else bif c == 115 then 7 else bif c == 102 then 1 else bif c == 116 then 4 else 3
def Zb : List AV -> LHp -> Option (aq × LHp)
 | [.d (.int .u8) c], [] => some (.ret [I (dO c)], [])
 | _, _ => none
theorem SX (c : Int) : aC Wb f199 4 [] [.d (.int .u8) c] [] ah = some (.ret [I (dO c)], []) := by
 rw [Y7]
 unfold dO
 cases c == 105 <;> cases c == 115 <;> cases c == 102 <;> cases c == 116 <;> rfl
theorem SY : bg 199 (fnE Zb) := by
 refine gL kB bO func199 call199 (depth := 4) (live := []) (by decide +kernel) rfl fun args hs p h => ?_
 unfold Zb at h
 split at h
 ·cases h
  exact SX _
 ·cases h
def cC (w p : ak) : Bool := decide (p.length <= w.length) && (w.take p.length == p)
def Zc : List AV -> LHp -> Option (aq × LHp)
 | [.d .str w, .d .str p], [] => some (.ret [B (cC w p)], [])
 | _, _ => none
theorem SZ (w p : ak) : aC g20 f198 4 [] [.d .str w, .d .str p] [] ah = some (.ret [B (cC w p)], []) := by
 rw [Y8]
 unfold cC
 by_cases h : p.length <= w.length
 ·rw [aD (show Int.ofNat w.length >= Int.ofNat p.length by simp only [aK]; omega), ai, aD h, Bool.true_and]
  have := YH h
  simp only [aK] at this ⊢
  rw [this]
  rfl
 ·rw [bU (show ¬ Int.ofNat w.length >= Int.ofNat p.length by simp only [aK]; omega), ax, bU h, Bool.false_and]
theorem S0 : bg 198 (fnE Zc) := by
 refine gL th bO func198 call198 (depth := 4) (live := []) (by decide +kernel) rfl fun args hs p h => ?_
 unfold Zc at h
 split at h
 ·cases h
  exact SZ _ _
 ·cases h
def fX (w : ak) : Bool := w.drop (w.length - 1) == [42]
theorem S1 {w : ak} (hw : w.length <= 2147483648) : aC g39 f203 4 [] [.d .str w, .d .str [42]] [] ah = some (.ret [B (fX w)], []) := by
 rw [Y9]
 unfold fX
 by_cases h : 1 <= w.length
 ·have w1 : i64.wrap (Int.ofNat w.length - 1) = ((w.length - 1 : Nat) : Int) := by simp only [aK]; rw [aI (by omega) (by omega)]; omega
  rw [aD (show Int.ofNat w.length >= 1 by simp only [aK]; omega), ai, w1, YI (by omega)]
  rfl
 ·rw [bU (show ¬ Int.ofNat w.length >= 1 by simp only [aK]; omega), ax]
  have : w = [] := List.length_eq_zero_iff.1 (by omega)
  subst this
  rfl
def Zd : List AV -> LHp -> Tq
 | [.d .str w, .d .str p], [] => .br (p == [42]) (.br (decide (w.length <= 2147483648)) (.leaf (.ret [B (fX w)]) []) .no) .no
 | _, _ => .no
theorem S2 : bg 203 (ao Zd) := by
 have h1 : bg 203 (au g39 f203 4 []) := FN
 refine aO fun args hs ae aH h' => ?_
 unfold Zd at h'
 split at h'
 ·obtain ⟨hb, h2⟩ := Tq.br_no h'
  obtain ⟨hl, h3⟩ := Tq.br_no h2
  obtain rfl := eq_of_beq hb
  exact h1.okC ((S1 (aU hl)).trans h3)
 ·cases h'
def fL (w : ak) : ak := bif decide (Lib.indexByte w 32 >= 0) then w.take (Lib.indexByte w 32).toNat else w
def cm (w : ak) : ak := bif decide (Lib.indexByte w 32 >= 0) then w.drop ((Lib.indexByte w 32).toNat + 1) else []
theorem nr : ∀ (l : ak) (c : UInt8), Lib.indexByte l c < l.length
 | [], _ => by unfold Lib.indexByte; simp
 | b :: l, c => by
  have := nr l c
  unfold Lib.indexByte
  rw [List.length_cons]
  split
  ·omega
  ·split <;> omega
theorem S3 {w : ak} (hw : w.length <= 2147483648) : aC g37 f202 4 [] [.d .str w, .d .str [32]] [] ah = some (.ret [.d .str (fL w), .d .str (cm w), B (decide (Lib.indexByte w 32 >= 0))], []) := by
 rw [Za]
 unfold fL cm
 cases hw1 : [32] == w with
 | true =>
  obtain rfl := eq_of_beq hw1
  rfl
 | false =>
  have bJ := nr w 32
  cases h : decide (Lib.indexByte w 32 >= 0) with
  | false => rfl
  | true =>
   obtain ⟨i, hi⟩ := Int.eq_ofNat_of_zero_le (aU h)
   rw [hi] at bJ ⊢
   have w1 : i64.wrap (((i : Nat) : Int) + 1) = ((i + 1 : Nat) : Int) := by rw [aI (by omega) (by omega)]; omega
   rw [ax, ai, YH (by omega), aB, w1, YI (by omega)]
   rfl
def Ze : List AV -> LHp -> Tq
 | [.d .str w, .d .str p], [] => .br (p == [32]) (.br (decide (w.length <= 2147483648)) (.leaf (.ret [.d .str (fL w), .d .str (cm w), B (decide (Lib.indexByte w 32 >= 0))]) []) .no) .no
 | _, _ => .no
theorem S4 : bg 202 (ao Ze) := by
 have h1 : bg 202 (au g37 f202 4 []) := FM
 refine aO fun args hs ae aH h' => ?_
 unfold Ze at h'
 split at h'
 ·obtain ⟨hb, h2⟩ := Tq.br_no h'
  obtain ⟨hl, h3⟩ := Tq.br_no h2
  obtain rfl := eq_of_beq hb
  exact h1.okC ((S3 (aU hl)).trans h3)
 ·cases h'
noncomputable def afF : Env := g21.add 198 (fnE Zc)
theorem IA : afF.Good := ti.add S0
theorem Zf (w : ak) (a : (Y1).den) : aC afF f197 4 [] [.d .str w, .op 0 [] 0] [(0, .box (.d (Y1) a))] ah = (if List.length a.1 + 1 < 4611686018427387904 then some (a.1 ++ [32]) else none).bind fun v0 => some (aq.ret [B (cC w v0)], [(0, aj.box (AV.d Y1 a))]) := by kernel_rfl
theorem Zg (b a : (Y1).den) : aC g15 f201 4 [] [.d (Y1) b, .op 0 [] 0] [(0, .box (.d (Y1) a))] ah = some (aq.ret [B (b.1 == a.1)], [(0, aj.box (AV.d Y1 a))]) := by kernel_rfl
noncomputable def Gm : Code := bd f196
noncomputable def S5 : Code := cL (cL (cR (cL (cR Gm))))
noncomputable def iI : Cfg := ⟨19, 5, 1, [(2, [0, 1, 7, 8])], true⟩
noncomputable def Gn : Code := bd f49
noncomputable def S6 : Code := cL (cL (cR (cL (cR Gn))))
noncomputable def iJ : Cfg := ⟨19, 5, 1, [(2, [0, 1, 7, 8])], true⟩
def mW (a : (Y1).den) : LHp := [(0, .box (.d (Y1) a))]
def qP (a : (Y1).den) (w : ak) : Bool := cC w (a.1 ++ [32])
def Zh : List AV -> LHp -> Tq
 | [.d .str w, .op 0 [] 0], [(0, .box (.d Y1 a))] => .br (decide (List.length a.1 <= 2147483647)) (.leaf (.ret [B (qP a w)]) (mW a)) .no
 | _, _ => .no
theorem S7 : bg 197 (ao Zh) := by
 have h1 := bD (d := 4) (l := []) IA func197 call197
 refine aO fun args hs ae aH h' => ?_
 unfold Zh at h'
 split at h'
 ·rename_i w a
  obtain ⟨hb, h2⟩ := Tq.br_no h'
  have hl := aU hb
  refine h1.okC ((Zf w a).trans ?_)
  rw [if_pos (show List.length a.1 + 1 < 4611686018427387904 by have := hl; omega), aB]
  exact h2
 ·cases h'
def Zi : List AV -> LHp -> Option (aq × LHp)
 | [.d Y1 b, .op 0 [] 0], [(0, .box (.d Y1 a))] => some (.ret [B (b.1 == a.1)], mW a)
 | _, _ => none
theorem S8 : bg 201 (fnE Zi) := by
 refine gL tf bO func201 call201 (depth := 4) (live := []) (by decide +kernel) rfl fun args hs p h => ?_
 unfold Zi at h
 split at h
 ·cases h
  exact Zg _ _
 ·cases h
noncomputable def Gp : Env := Wb.add 197 (ao Zh)
theorem MD : Gp.Good := kB.add S7
noncomputable def Gq : Env := g17.add 201 (fnE Zi)
theorem ME : Gq.Good := oK.add S8
def MF (ws : List (ak)) (a : (Y1).den) (i : Int) : LSt := ⟨aw 5 [(0, .d (.slice .str) ws), (1, .fn (.func 197) [] [.op 0 [] 0]), (7, I (Int.ofNat ws.length)), (8, I i)], mW a, 2⟩
theorem Zj (ws : List (ak)) (a : (Y1).den) : aC Gp f196 5 [(2, [0, 1, 7, 8])] [.d (.slice .str) ws, .fn (.func 197) [] [.op 0 [] 0]] (mW a) ah = (hlp Gp iI) S5 _ (MF ws a 0) (aQ 0 (aX Gp iI [2] (hlp Gp iI) (cR (cR Gm)) (aZ prog 1 f196.results.toList ah))) := (bq [2] iI rfl).trans (by obtain ⟨hl, h⟩ := bc Gp iI; rw [h]; kernel_rfl)
def MG (bs : bn) (a : (Y1).den) (i : Int) : LSt := ⟨aw 5 [(0, .d (.slice (Y1)) bs), (1, .fn (.func 201) [] [.op 0 [] 0]), (7, I (Int.ofNat bs.length)), (8, I i)], mW a, 2⟩
theorem Zk (bs : bn) (a : (Y1).den) : aC Gq f49 5 [(2, [0, 1, 7, 8])] [.d (.slice (Y1)) bs, .fn (.func 201) [] [.op 0 [] 0]] (mW a) ah = (hlp Gq iJ) S6 _ (MG bs a 0) (aQ 0 (aX Gq iJ [2] (hlp Gq iJ) (cR (cR Gn)) (aZ prog 1 f49.results.toList ah))) := (bq [2] iJ rfl).trans (by obtain ⟨hl, h⟩ := bc Gq iJ; rw [h]; kernel_rfl)
theorem Zl (ws : List (ak)) (a : (Y1).den) (i : Int) (n : Nat) {R : Type} (k : AEx -> LSt -> Option R) : lp Gp iI S5 (n + 1) (MF ws a i) k = bif decide (i < Int.ofNat ws.length) then (idx ws i).bind fun v1 => bif decide (List.length a.1 <= 2147483647) then bif qP a v1 then k AEx.ret { fr := aw 5 [(0, AV.d Ty.str.slice ws), (1, AV.fn (Fn.func 197) [] [AV.op 0 [] 0]), (4, I i), (5, I i), (7, I (Int.ofNat ws.length)), (8, I i), (9, B true), (10, I i), (11, AV.fn (Fn.func 197) [] [AV.op 0 [] 0]), (12, AV.d Ty.str.slice ws), (13, I i), (14, AV.ip Ty.str v1), (15, AV.d Ty.str v1), (16, B true), (17, I i)], hp := [(0, aj.box (AV.d Y1 a)), (0, aj.box (AV.d Y1 a))], nx := 3 } else lp Gp iI S5 n (MF ws a (i64.wrap (i + 1))) k else none else k (AEx.exit 0) { fr := aw 5 [(0, AV.d Ty.str.slice ws), (1, AV.fn (Fn.func 197) [] [AV.op 0 [] 0]), (7, I (Int.ofNat ws.length)), (8, I i), (9, B false)], hp := [(0, aj.box (AV.d Y1 a))], nx := 2 } := by kernel_rfl
theorem Zm (bs : bn) (a : (Y1).den) (i : Int) (n : Nat) {R : Type} (k : AEx -> LSt -> Option R) : lp Gq iJ S6 (n + 1) (MG bs a i) k = bif decide (i < Int.ofNat bs.length) then (idx bs i).bind fun v1 => bif v1.1 == a.1 then k AEx.ret { fr := aw 5 [(0, AV.d Y1.slice bs), (1, AV.fn (Fn.func 201) [] [AV.op 0 [] 0]), (4, I i), (5, I i), (7, I (Int.ofNat bs.length)), (8, I i), (9, B true), (10, I i), (11, AV.fn (Fn.func 201) [] [AV.op 0 [] 0]), (12, AV.d Y1.slice bs), (13, I i), (14, AV.ip Y1 v1), (15, AV.d Y1 v1), (16, B true), (17, I i)], hp := [(0, aj.box (AV.d Y1 a)), (0, aj.box (AV.d Y1 a))], nx := 3 } else lp Gq iJ S6 n (MG bs a (i64.wrap (i + 1))) k else k (AEx.exit 0) { fr := aw 5 [(0, AV.d Y1.slice bs), (1, AV.fn (Fn.func 201) [] [AV.op 0 [] 0]), (7, I (Int.ofNat bs.length)), (8, I i), (9, B false)], hp := [(0, aj.box (AV.d Y1 a))], nx := 2 } := by kernel_rfl
theorem S9 {ws : List (ak)} {a : (Y1).den} (hl : ws.length <= maxLen /\ List.length a.1 <= 2147483647) : aC Gp f196 5 [(2, [0, 1, 7, 8])] [.d (.slice .str) ws, .fn (.func 197) [] [.op 0 [] 0]] (mW a) ah = some (.ret [I (bk (qP a) ws)], mW a) := by
 rw [Zj]
 have hs := fun (i : Int) (n : Nat) => Zl ws a i n (aQ 0 (aX Gp iI [2] (hlp Gp iI) (cR (cR Gm)) (aZ prog 1 f196.results.toList ah)))
 simp only [aD hl.2, ai] at hs
 have h := fx (T := fun n s => lp Gp iI S5 n s (aQ 0 (aX Gp iI [2] (hlp Gp iI) (cR (cR Gm)) (aZ prog 1 f196.results.toList ah)))) (xs := ws) (st := fun i => MF ws a i) hl.1 hs
 unfold MF mW at h
 refine h.trans ?_
 unfold bk
 cases hq : ws.findIdx? (qP a) with
 | none => show _ = _; kernel_rfl
 | some i =>
  obtain ⟨hi, _⟩ := List.findIdx?_eq_some_iff_getElem.1 hq
  simp only [List.getElem?_eq_getElem hi, aB]
  show _ = _
  kernel_rfl
theorem Ta {bs : bn} {a : (Y1).den} (hl : bs.length <= maxLen) : aC Gq f49 5 [(2, [0, 1, 7, 8])] [.d (.slice (Y1)) bs, .fn (.func 201) [] [.op 0 [] 0]] (mW a) ah = some (.ret [I (bk (fun b => b.1 == a.1) bs)], mW a) := by
 rw [Zk]
 have hs := fun (i : Int) (n : Nat) => Zm bs a i n (aQ 0 (aX Gq iJ [2] (hlp Gq iJ) (cR (cR Gn)) (aZ prog 1 f49.results.toList ah)))
 have h := fx (T := fun n s => lp Gq iJ S6 n s (aQ 0 (aX Gq iJ [2] (hlp Gq iJ) (cR (cR Gn)) (aZ prog 1 f49.results.toList ah)))) (xs := bs) (st := fun i => MG bs a i) hl hs
 unfold MG mW at h
 refine h.trans ?_
 unfold bk
 cases hq : bs.findIdx? (fun b => b.1 == a.1) with
 | none => show _ = _; kernel_rfl
 | some i =>
  obtain ⟨hi, _⟩ := List.findIdx?_eq_some_iff_getElem.1 hq
  simp only [List.getElem?_eq_getElem hi, aB]
  show _ = _
  kernel_rfl
def Zn : List AV -> LHp -> Tq
 | [.d (.slice .str) ws, .fn (.func 197) [] [.op 0 [] 0]], [(0, .box (.d Y1 a))] => .br (decide (ws.length <= maxLen /\ List.length a.1 <= 2147483647)) (.leaf (.ret [I (bk (qP a) ws)]) (mW a)) .no
 | _, _ => .no
theorem Tb : bg 196 (ao Zn) := by
 refine bW MD bO func196 call196 (depth := 5) (live := [(2, [0, 1, 7, 8])]) (by decide +kernel) rfl fun args hs p h => ?_
 unfold Zn at h
 split at h
 ·obtain ⟨hl, h⟩ := Tq.br_no h
  cases h
  have hl := aU hl
  exact S9 hl
 ·cases h
def Zo : List AV -> LHp -> Tq
 | [.d (.slice Y1) bs, .fn (.func 201) [] [.op 0 [] 0]], [(0, .box (.d Y1 a))] => .br (decide (bs.length <= maxLen)) (.leaf (.ret [I (bk (fun b => b.1 == a.1) bs)]) (mW a)) .no
 | _, _ => .no
theorem Tc : bg 49 (ao Zo) := by
 refine bW ME bO func49 call49 (depth := 5) (live := [(2, [0, 1, 7, 8])]) (by decide +kernel) rfl fun args hs p h => ?_
 unfold Zo at h
 split at h
 ·obtain ⟨hl, h⟩ := Tq.br_no h
  cases h
  have hl := aU hl
  exact Ta hl
 ·cases h
noncomputable def gF2 : Env := Wb.add 49 (ao Zo)
theorem MH : gF2.Good := kB.add Tc
theorem Zp (bs : bn) (a : (Y1).den) : aC gF2 f200 4 [] [.d (.slice (Y1)) bs, .fn (.func 201) [] [.op 0 [] 0]] (mW a) ah = bif decide (bs.length <= 9223372036854775807) then some (aq.ret [B (decide (bk (fun b => b.fst == a.fst) bs >= 0))], [(0, aj.box (AV.d Y1 a))]) else none := by kernel_rfl
theorem oT {α : Type} {p : α -> Bool} {ws : List α} : decide (bk p ws >= 0) = ws.any p := by
 unfold bk
 cases h : ws.findIdx? p with
 | none =>
  rw [List.findIdx?_eq_none_iff] at h
  rw [List.any_eq_false.2 fun x hx => by simpa using h x hx]
  rfl
 | some i =>
  obtain ⟨hi, hp, _⟩ := List.findIdx?_eq_some_iff_getElem.1 h
  rw [List.any_eq_true.2 ⟨_, List.getElem_mem hi, hp⟩]
  exact aD (by show ((i : Nat) : Int) >= 0; omega)
def Zq : List AV -> LHp -> Tq
 | [.d (.slice Y1) bs, .fn (.func 201) [] [.op 0 [] 0]], [(0, .box (.d Y1 a))] => .br (decide (bs.length <= maxLen)) (.leaf (.ret [B (bs.any fun b => b.1 == a.1)]) (mW a)) .no
 | _, _ => .no
theorem Td : bg 200 (ao Zq) := by
 have h1 := bD (d := 4) (l := []) MH func200 call200
 refine aO fun args hs ae aH h' => ?_
 unfold Zq at h'
 split at h'
 ·refine h1.okC ((Zp _ _).trans ?_)
  rw [oT]
  exact h'
 ·cases h'
noncomputable def wb : Code := bd f143
noncomputable def D7 : Code := cL (cL (cR (cL (cR (cR wb)))))
noncomputable def D8 : Code := cL (cL (cR (cL (cR (cR (cR wb))))))
noncomputable def cW : Cfg := ⟨92, 7, 0, [(3, [2, 5, 20, 21, 22]), (14, [2, 63, 64, 65])], true⟩
noncomputable def qQ : Env := ((((((Wc.add 64 (ao D3)).add 195 (ao SU)).add 199 (fnE Zb)).add 203 (ao Zd)).add 202 (ao Ze)).add 196 (ao Zn)).add 200 (ao Zq)
theorem MI : qQ.Good := ((((((jx.add oP).add Gk).add SY).add S2).add S4).add Tb).add Td
def Te (op nm : ak) (ins : List (ak)) (out : ak) (ag : bn) : LHp := [(0, .box (cO op nm ins out ag))]
def D9 (op nm : ak) (ins : List (ak)) (out : ak) (ag : bn) (ws : List (ak)) (i : Int) : LSt := ⟨aw 7 [(2, .op 0 [] 0), (5, .d (.slice .str) ws), (20, .d (.slice (Y1)) ag), (21, I (Int.ofNat ag.length)), (22, I i)], Te op nm ins out ag, 1⟩
theorem Zr (op nm : ak) (ins : List (ak)) (out : ak) (ag : bn) (r : ak) : aC qQ f143 7 [(3, [2, 5, 20, 21, 22]), (14, [2, 63, 64, 65])] [cO op nm ins out ag, .d .str r] [] ah = (if r.length + 7 < 4611686018427387904 then some (r ++ [44, 116, 104, 101, 110, 32, 120]) else none).bind fun v0 => bif decide (v0.length <= 2147483647) then (hlp qQ cW) D7 _ (D9 op nm ins out ag (cc v0) 0) (aQ 0 (aX qQ cW [3, 14] (hlp qQ cW) (cR (cR (cR wb))) (aZ prog 0 f143.results.toList ah))) else none := (bq [3, 14] cW rfl).trans (by obtain ⟨hl, h⟩ := bc qQ cW; rw [h]; kernel_rfl)
theorem MJ (op nm : ak) (ins : List (ak)) (out : ak) (ag : bn) (ws : List (ak)) (i : Int) (n : Nat) {R : Type} (k : AEx -> LSt -> Option R) : lp qQ cW D7 (n + 1) (D9 op nm ins out ag ws i) k = bif decide (i < Int.ofNat ag.length) then (idx ag i).bind fun v1 => bif decide (ws.length <= 9223372036854775807 /\ List.length v1.1 <= 2147483647) then bif decide (bk (fun w => cC w (v1.fst ++ [32])) ws < 0) then k AEx.ret { fr := aw 7 [(2, AV.op 0 [] 0), (4, I 5), (5, AV.d Ty.str.slice ws), (6, I i), (7, AV.op 1 [] 0), (8, I (bk (fun w => cC w (v1.fst ++ [32])) ws)), (20, AV.d Y1.slice ag), (21, I (Int.ofNat ag.length)), (22, I i), (23, B true), (24, I i), (25, AV.ip Y1 v1), (26, AV.d Y1 v1), (27, AV.d Ty.str.slice ws), (28, AV.fn (Fn.func 197) [] [AV.op 1 [] 0]), (29, I (bk (fun w => cC w (v1.fst ++ [32])) ws)), (30, I (bk (fun w => cC w (v1.fst ++ [32])) ws)), (31, B true)], hp := [(1, aj.box (AV.d Y1 v1)), (1, aj.box (AV.d Y1 v1)), (1, aj.box ((AV.d Ty.str []).pr ((I 0).pr ((I 0).pr ((I 0).pr ((AV.d Ty.str []).pr (((I 0).pr (AV.nils.pr (AV.nils.pr (AV.d Ty.unit PUnit.unit)))).pr (AV.nils.pr (AV.d Ty.unit PUnit.unit))))))))), (0, aj.box (AV.d Y2 (op, nm, ins, out, ag, PUnit.unit)))], nx := 3 } else (idx ws (bk (fun w => cC w (v1.fst ++ [32])) ws)).bind fun v4 => (zU v4 (i64.wrap (Int.ofNat (List.length v1.1) + 1))).bind fun v5 => bif dO v5 != v1.2.1 then k AEx.ret { fr := aw 7 [(2, AV.op 0 [] 0), (4, I 4), (5, AV.d Ty.str.slice ws), (6, I i), (7, AV.op 1 [] 0), (8, I (bk (fun w => cC w (v1.fst ++ [32])) ws)), (20, AV.d Y1.slice ag), (21, I (Int.ofNat ag.length)), (22, I i), (23, B true), (24, I i), (25, AV.ip Y1 v1), (26, AV.d Y1 v1), (27, AV.d Ty.str.slice ws), (28, AV.fn (Fn.func 197) [] [AV.op 1 [] 0]), (29, I (bk (fun w => cC w (v1.fst ++ [32])) ws)), (30, I (bk (fun w => cC w (v1.fst ++ [32])) ws)), (31, B false), (32, AV.d Ty.str.slice ws), (33, I (bk (fun w => cC w (v1.fst ++ [32])) ws)), (34, AV.ip Ty.str v4), (35, AV.d Ty.str v4), (36, AV.op 1 [0] 0), (37, AV.d Ty.str v1.1), (38, I (Int.ofNat (List.length v1.1))), (39, I (i64.wrap (Int.ofNat (List.length v1.1) + 1))), (40, AV.d (Ty.int u8) v5), (41, I (dO v5)), (42, AV.op 1 [1] 1), (43, I v1.2.1), (44, B (dO v5 != v1.2.1)), (45, B true), (46, AV.tup []), (47, AV.tup []), (48, AV.tup []), (49, AV.tup []), (50, AV.tup []), (51, AV.tup []), (52, B true)], hp := [(1, aj.box (AV.d Y1 v1)), (1, aj.box (AV.d Y1 v1)), (1, aj.box ((AV.d Ty.str []).pr ((I 0).pr ((I 0).pr ((I 0).pr ((AV.d Ty.str []).pr (((I 0).pr (AV.nils.pr (AV.nils.pr (AV.d Ty.unit PUnit.unit)))).pr (AV.nils.pr (AV.d Ty.unit PUnit.unit))))))))), (0, aj.box (AV.d Y2 (op, nm, ins, out, ag, PUnit.unit)))], nx := 3 } else (if (0 : Int) <= 0 /\ 0 <= i /\ i <= Int.ofNat ag.length then some (List.drop 0 (List.take i.toNat ag)) else none).bind fun v7 => bif decide (v7.length <= 9223372036854775807) then bif v7.any fun b => b.fst == v1.fst then k AEx.ret { fr := aw 7 [(2, AV.op 0 [] 0), (4, I 4), (5, AV.d Ty.str.slice ws), (6, I i), (7, AV.op 1 [] 0), (8, I (bk (fun w => cC w (v1.fst ++ [32])) ws)), (20, AV.d Y1.slice ag), (21, I (Int.ofNat ag.length)), (22, I i), (23, B true), (24, I i), (25, AV.ip Y1 v1), (26, AV.d Y1 v1), (27, AV.d Ty.str.slice ws), (28, AV.fn (Fn.func 197) [] [AV.op 1 [] 0]), (29, I (bk (fun w => cC w (v1.fst ++ [32])) ws)), (30, I (bk (fun w => cC w (v1.fst ++ [32])) ws)), (31, B false), (32, AV.d Ty.str.slice ws), (33, I (bk (fun w => cC w (v1.fst ++ [32])) ws)), (34, AV.ip Ty.str v4), (35, AV.d Ty.str v4), (36, AV.op 1 [0] 0), (37, AV.d Ty.str v1.1), (38, I (Int.ofNat (List.length v1.1))), (39, I (i64.wrap (Int.ofNat (List.length v1.1) + 1))), (40, AV.d (Ty.int u8) v5), (41, I (dO v5)), (42, AV.op 1 [1] 1), (43, I v1.2.1), (44, B (dO v5 != v1.2.1)), (45, B false), (46, AV.op 0 [4] 4), (47, AV.d Y1.slice ag), (48, I i), (49, AV.d Y1.slice v7), (50, AV.fn (Fn.func 201) [] [AV.op 1 [] 0]), (51, B (v7.any fun b => b.fst == v1.fst)), (52, B true)], hp := [(1, aj.box (AV.d Y1 v1)), (1, aj.box (AV.d Y1 v1)), (1, aj.box (AV.d Y1 v1)), (1, aj.box ((AV.d Ty.str []).pr ((I 0).pr ((I 0).pr ((I 0).pr ((AV.d Ty.str []).pr (((I 0).pr (AV.nils.pr (AV.nils.pr (AV.d Ty.unit PUnit.unit)))).pr (AV.nils.pr (AV.d Ty.unit PUnit.unit))))))))), (0, aj.box (AV.d Y2 (op, nm, ins, out, ag, PUnit.unit)))], nx := 4 } else bif v1.2.1 == 1 then bif !bS 1 v1.2.2.1 then k AEx.ret { fr := aw 7 [(2, AV.op 0 [] 0), (4, I 4), (5, AV.d Ty.str.slice ws), (6, I i), (7, AV.op 1 [] 0), (8, I (bk (fun w => cC w (v1.fst ++ [32])) ws)), (20, AV.d Y1.slice ag), (21, I (Int.ofNat ag.length)), (22, I i), (23, B true), (24, I i), (25, AV.ip Y1 v1), (26, AV.d Y1 v1), (27, AV.d Ty.str.slice ws), (28, AV.fn (Fn.func 197) [] [AV.op 1 [] 0]), (29, I (bk (fun w => cC w (v1.fst ++ [32])) ws)), (30, I (bk (fun w => cC w (v1.fst ++ [32])) ws)), (31, B false), (32, AV.d Ty.str.slice ws), (33, I (bk (fun w => cC w (v1.fst ++ [32])) ws)), (34, AV.ip Ty.str v4), (35, AV.d Ty.str v4), (36, AV.op 1 [0] 0), (37, AV.d Ty.str v1.1), (38, I (Int.ofNat (List.length v1.1))), (39, I (i64.wrap (Int.ofNat (List.length v1.1) + 1))), (40, AV.d (Ty.int u8) v5), (41, I (dO v5)), (42, AV.op 1 [1] 1), (43, I v1.2.1), (44, B (dO v5 != v1.2.1)), (45, B false), (46, AV.op 0 [4] 4), (47, AV.d Y1.slice ag), (48, I i), (49, AV.d Y1.slice v7), (50, AV.fn (Fn.func 201) [] [AV.op 1 [] 0]), (51, B (v7.any fun b => b.fst == v1.fst)), (52, B false), (53, AV.op 1 [1] 1), (54, I v1.2.1), (55, B (v1.2.1 == 1)), (56, B true), (57, AV.op 1 [2] 2), (58, I v1.2.2.1), (59, B (bS 1 v1.2.2.1)), (60, B !bS 1 v1.2.2.1), (61, B true)], hp := [(1, aj.box (AV.d Y1 v1)), (1, aj.box (AV.d Y1 v1)), (1, aj.box (AV.d Y1 v1)), (1, aj.box ((AV.d Ty.str []).pr ((I 0).pr ((I 0).pr ((I 0).pr ((AV.d Ty.str []).pr (((I 0).pr (AV.nils.pr (AV.nils.pr (AV.d Ty.unit PUnit.unit)))).pr (AV.nils.pr (AV.d Ty.unit PUnit.unit))))))))), (0, aj.box (AV.d Y2 (op, nm, ins, out, ag, PUnit.unit)))], nx := 4 } else lp qQ cW D7 n (D9 op nm ins out ag ws (i64.wrap (i + 1))) k else lp qQ cW D7 n (D9 op nm ins out ag ws (i64.wrap (i + 1))) k else none else none else k (AEx.exit 0) { fr := aw 7 [(2, AV.op 0 [] 0), (5, AV.d Ty.str.slice ws), (20, AV.d Y1.slice ag), (21, I (Int.ofNat ag.length)), (22, I i), (23, B false)], hp := [(0, aj.box (AV.d Y2 (op, nm, ins, out, ag, PUnit.unit)))], nx := 1 } := by kernel_rfl
def Ea (op nm : ak) (ins : List (ak)) (out : ak) (ag : bn) (ws : List (ak)) (i : Int) : LSt := ⟨aw 7 [(2, .op 0 [] 0), (63, .d (.slice .str) ws), (64, I (Int.ofNat ws.length)), (65, I i)], Te op nm ins out ag, 1⟩
theorem MK (op nm : ak) (ins : List (ak)) (out : ak) (ag : bn) (ws : List (ak)) (i : Int) (n : Nat) {R : Type} (k : AEx -> LSt -> Option R) : lp qQ cW D8 (n + 1) (Ea op nm ins out ag ws i) k = bif decide (i < Int.ofNat ws.length) then (idx ws i).bind fun v1 => bif decide (List.length v1 <= 2147483648) then (if (cm v1).length + 1 < 4611686018427387904 then some (cm v1 ++ [32]) else none).bind fun v3 => (zU v3 0).bind fun v4 => bif decide (ag.length <= 9223372036854775807) then bif decide (bk (fun a => a.fst == fL v1 && a.snd.fst == dO v4) ag < 0) then bif decide ((cm v1).length <= 2147483648) then bif fX (cm v1) then k AEx.ret { fr := aw 7 [(2, AV.op 0 [] 0), (4, I 4), (10, AV.d Ty.str v1), (11, AV.d Ty.str (fL v1)), (12, AV.d Ty.str (cm v1)), (13, B (decide (Lib.indexByte v1 32 >= 0))), (14, AV.op 1 [] 0), (15, B false), (63, AV.d Ty.str.slice ws), (64, I (Int.ofNat ws.length)), (65, I i), (66, B true), (67, AV.ip Ty.str v1), (68, AV.d Ty.str v1), (69, AV.tup [AV.d Ty.str (fL v1), AV.d Ty.str (cm v1), B (decide (Lib.indexByte v1 32 >= 0))]), (70, AV.d Ty.str v1), (71, AV.tup [AV.d Ty.str (fL v1), AV.d Ty.str (cm v1), B (decide (Lib.indexByte v1 32 >= 0))]), (72, AV.d Ty.str (fL v1)), (73, AV.d Ty.str (cm v1)), (74, B (decide (Lib.indexByte v1 32 >= 0))), (75, AV.tup [(AV.d Ty.str []).pr ((I 0).pr ((I 0).pr ((I 0).pr ((AV.d Ty.str []).pr (((I 0).pr (AV.nils.pr (AV.nils.pr (AV.d Ty.unit PUnit.unit)))).pr (AV.nils.pr (AV.d Ty.unit PUnit.unit))))))), B false]), (76, AV.d Y2 (op, nm, ins, out, ag, PUnit.unit)), (77, AV.d Ty.str (fL v1)), (78, AV.d Ty.str (cm v1)), (79, AV.d Ty.str v3), (80, AV.d (Ty.int u8) v4), (81, I (dO v4)), (82, AV.tup [(AV.d Ty.str []).pr ((I 0).pr ((I 0).pr ((I 0).pr ((AV.d Ty.str []).pr (((I 0).pr (AV.nils.pr (AV.nils.pr (AV.d Ty.unit PUnit.unit)))).pr (AV.nils.pr (AV.d Ty.unit PUnit.unit))))))), B false]), (83, (AV.d Ty.str []).pr ((I 0).pr ((I 0).pr ((I 0).pr ((AV.d Ty.str []).pr (((I 0).pr (AV.nils.pr (AV.nils.pr (AV.d Ty.unit PUnit.unit)))).pr (AV.nils.pr (AV.d Ty.unit PUnit.unit)))))))), (84, B false), (85, AV.d Ty.str (cm v1)), (86, B (fX (cm v1))), (87, B true), (88, B false), (89, B true), (90, B true)], hp := [(1, aj.box ((AV.d Ty.str []).pr ((I 0).pr ((I 0).pr ((I 0).pr ((AV.d Ty.str []).pr (((I 0).pr (AV.nils.pr (AV.nils.pr (AV.d Ty.unit PUnit.unit)))).pr (AV.nils.pr (AV.d Ty.unit PUnit.unit))))))))), (1, aj.box ((AV.d Ty.str []).pr ((I 0).pr ((I 0).pr ((I 0).pr ((AV.d Ty.str []).pr (((I 0).pr (AV.nils.pr (AV.nils.pr (AV.d Ty.unit PUnit.unit)))).pr (AV.nils.pr (AV.d Ty.unit PUnit.unit))))))))), (0, aj.box (AV.d Y2 (op, nm, ins, out, ag, PUnit.unit)))], nx := 2 } else lp qQ cW D8 n (Ea op nm ins out ag ws (i64.wrap (i + 1))) k else none else (List.find? (fun a => a.fst == fL v1 && a.snd.fst == dO v4) ag).bind fun v7 => bif decide ((cm v1).length <= 2147483648) then bif fX (cm v1) then lp qQ cW D8 n (Ea op nm ins out ag ws (i64.wrap (i + 1))) k else lp qQ cW D8 n (Ea op nm ins out ag ws (i64.wrap (i + 1))) k else none else none else none else k (AEx.exit 2) { fr := aw 7 [(2, AV.op 0 [] 0), (63, AV.d Ty.str.slice ws), (64, I (Int.ofNat ws.length)), (65, I i), (66, B false)], hp := [(0, aj.box (AV.d Y2 (op, nm, ins, out, ag, PUnit.unit)))], nx := 1 } := by kernel_rfl
noncomputable def afG (hl : Hl) : AEx -> LSt -> Option (aq × LHp) := aQ 0 (aX qQ cW [3, 14] hl (cR (cR (cR wb))) (aZ prog 0 f143.results.toList ah))
noncomputable def Zs : AEx -> LSt -> Option (aq × LHp) := aQ 2 (aX qQ cW [3, 14] (hlp qQ cW) (cR (cR (cR (cR wb)))) (aZ prog 0 f143.results.toList ah))
def Wi (op nm : ak) (ins : List (ak)) (out : ak) (ag : bn) (ws : List (ak)) (i : Int) : LSt := ⟨aw 7 [(2, .op 0 [] 0), (5, .d (.slice .str) ws), (20, .d (.slice (Y1)) ag), (21, I (Int.ofNat ag.length)), (22, I i), (23, B false)], Te op nm ins out ag, 1⟩
theorem Zt (hl : Hl) (op nm : ak) (ins : List (ak)) (out : ak) (ag : bn) (ws : List (ak)) (i : Int) : afG hl (.exit 0) (Wi op nm ins out ag ws i) = hl D8 _ (Ea op nm ins out ag ws 0) (aQ 2 (aX qQ cW [3, 14] hl (cR (cR (cR (cR wb)))) (aZ prog 0 f143.results.toList ah))) := by kernel_rfl
noncomputable def KAr : AEx -> LSt -> Option (aq × LHp) := afG (hlp qQ cW)
theorem Zu (op nm : ak) (ins : List (ak)) (out : ak) (ag : bn) (ws : List (ak)) (i : Int) : KAr (.exit 0) (Wi op nm ins out ag ws i) = lp qQ cW D8 fu (Ea op nm ins out ag ws 0) Zs := (Zt (hlp qQ cW) op nm ins out ag ws i).trans rfl
theorem Zv (op nm : ak) (ins : List (ak)) (out : ak) (ag : bn) (ws : List (ak)) : hlp qQ cW D7 (aq × LHp) (D9 op nm ins out ag ws 0) KAr = lp qQ cW D7 fu (D9 op nm ins out ag ws 0) KAr := rfl
def afH (op nm : ak) (ins : List (ak)) (out : ak) (ag : bn) (ws : List (ak)) (i : Int) : LSt := ⟨aw 7 [(2, .op 0 [] 0), (63, .d (.slice .str) ws), (64, I (Int.ofNat ws.length)), (65, I i), (66, B false)], Te op nm ins out ag, 1⟩
theorem Zw (op nm : ak) (ins : List (ak)) (out : ak) (ag : bn) (ws : List (ak)) (i : Int) : Zs (.exit 2) (afH op nm ins out ag ws i) = az [I 0] := by kernel_rfl
def pV (w : ak) : Bool := decide (w.length <= 2147483648) && !(w.getLast? == some 32)
theorem ML {w : ak} {a : (Y1).den} (hw : pV w = true) (hp : qP a w = true) : List.length a.1 + 1 < w.length := by
 unfold pV at hw
 unfold qP cC at hp
 simp only [ba, decide_eq_true_eq, Bool.not_eq_true', beq_eq_false_iff_ne, beq_iff_eq] at hw hp
 obtain ⟨h1, h2⟩ := hp
 rw [List.length_append] at h1 h2
 have h1 : List.length a.1 + 1 <= w.length := h1
 rcases Nat.lt_or_ge (List.length a.1 + 1) w.length with h | h
 ·exact h
 ·exfalso
  apply hw.2
  rw [List.take_of_length_le (by show w.length <= List.length a.1 + 1; omega)] at h2
  rw [h2]
  simp
def jB (w : ak) (i : Nat) : Int := ((w.getD i 0).toNat : Int)
theorem Gr {w : ak} {i : Nat} (h : i < w.length) : zU w ((i : Nat) : Int) = some (jB w i) := by
 unfold zU jB
 rw [if_pos (by omega), Int.toNat_natCast, List.getD_eq_getElem?_getD, List.getElem?_eq_getElem h]
 rfl
def Wj (ws : List (ak)) (pre : bn) (a : (Y1).den) : Int := match ws.find? (qP a) with
 | none => 5
 | some w => bif dO (jB w (List.length a.1 + 1)) != a.2.1 then 4 else bif pre.any (fun b => b.1 == a.1) then 4 else bif a.2.1 == 1 then (bif !bS 1 a.2.2.1 then 4 else 0) else 0
def Tf (ws : List (ak)) : bn -> bn -> Int
 | _, [] => 0
 | pre, a :: r => bif Wj ws pre a != 0 then Wj ws pre a else Tf ws (pre ++ [a]) r
def Zx (ag : bn) (w : ak) : Bool := fX (cm w) && (ag.find? (ie (fL w) (dO (jB (cm w ++ [32]) 0)))).isNone
theorem Tg (w : ak) : (cm w).length <= w.length := by
 unfold cm
 cases decide (Lib.indexByte w 32 >= 0) with
 | false => simp
 | true => rw [ai, List.length_drop]; omega
theorem Zy {op nm : ak} {ins : List (ak)} {out : ak} {ag : bn} {ws : List (ak)} (hl : ag.length <= 2147483647) (hws : ws.length <= 2147483648) (hw : ∀ w ∈ ws, pV w = true) : ∀ (r j nn : Nat), j + r = ws.length -> r < nn ->
  lp qQ cW D8 nn (Ea op nm ins out ag ws ((j : Nat) : Int)) Zs = some (.ret [I (bif (ws.drop j).any (Zx ag) then 4 else 0)], []) := by
 intro r
 induction r with
 | zero =>
  intro j nn hj hn
  obtain ⟨nn, rfl⟩ : ∃ m', nn = m' + 1 := ⟨nn - 1, by omega⟩
  rw [MK, bU (show ¬ (((j : Nat) : Int) < Int.ofNat ws.length) by simp only [aK]; omega), ax, List.drop_eq_nil_of_le (by omega)]
  exact Zw op nm ins out ag ws _
 | succ r ih =>
  intro j nn hj hn
  obtain ⟨nn, rfl⟩ : ∃ m', nn = m' + 1 := ⟨nn - 1, by omega⟩
  have key := ih (j + 1) nn (by omega) (by omega)
  have bJ : j < ws.length := by omega
  have gI : idx ws ((j : Nat) : Int) = some (ws[j]) := by
   unfold idx
   rw [if_pos (by omega), Int.toNat_natCast, List.getElem?_eq_getElem bJ]
  have ed : ws.drop j = ws[j] :: ws.drop (j + 1) := List.drop_eq_getElem_cons bJ
  have hwo := hw ws[j] (List.getElem_mem bJ)
  have hw1 : (ws[j]).length <= 2147483648 := by
   unfold pV at hwo
   rw [ba] at hwo
   exact aU hwo.1
  generalize ws[j] = w at *
  have hk := Tg w
  have w1 : i64.wrap (((j : Nat) : Int) + 1) = ((j + 1 : Nat) : Int) := by rw [aI (by omega) (by omega)]; omega
  have g0 : zU (cm w ++ [32]) 0 = some (jB (cm w ++ [32]) 0) := Gr (i := 0) (by rw [List.length_append]; exact Nat.succ_pos _)
  have e1 : decide (bk (fun a => a.fst == fL w && a.snd.fst == dO (jB (cm w ++ [32]) 0)) ag < 0) = (ag.find? (ie (fL w) (dO (jB (cm w ++ [32]) 0)))).isNone := jW _ _
  have e2 : List.find? (fun a => a.fst == fL w && a.snd.fst == dO (jB (cm w ++ [32]) 0)) ag = ag.find? (ie (fL w) (dO (jB (cm w ++ [32]) 0))) := rfl
  rw [MK, aD (show ((j : Nat) : Int) < Int.ofNat ws.length by simp only [aK]; omega), ai, gI, aB, aD hw1, ai, if_pos (show (cm w).length + 1 < 4611686018427387904 by omega), aB, g0, aB, aD (show ag.length <= 9223372036854775807 by omega), ai, aD (show (cm w).length <= 2147483648 by omega), ai, w1, e1, e2, ed, List.any_cons]
  have en : Zx ag w = (fX (cm w) && (ag.find? (ie (fL w) (dO (jB (cm w ++ [32]) 0)))).isNone) := rfl
  rw [en]
  cases hf : ag.find? (ie (fL w) (dO (jB (cm w ++ [32]) 0))) with
  | none =>
   cases hs : fX (cm w) with
   | true => show _ = _; kernel_rfl
   | false => exact key
  | some a =>
   simp only [Option.isNone_some, ax, aB, ai, Bool.and_false, Bool.false_or]
   cases hs : fX (cm w) with
   | true => exact key
   | false => exact key
def kE (ws : List (ak)) (ag : bn) : Int := bif Tf ws [] ag != 0 then Tf ws [] ag else bif ws.any (Zx ag) then 4 else 0
theorem MM {α : Type} {pre r : List α} {L : List α} (h : L = pre ++ r) : (if (0 : Int) <= 0 /\ 0 <= ((pre.length : Nat) : Int) /\ ((pre.length : Nat) : Int) <= Int.ofNat L.length then some (List.drop 0 (List.take ((pre.length : Nat) : Int).toNat L)) else none) = some pre := by
 rw [if_pos ⟨by omega, by omega, by rw [h, List.length_append]; simp only [aK]; omega⟩, Int.toNat_natCast, h, List.take_left]
 rfl
theorem Zz {op nm : ak} {ins : List (ak)} {out : ak} {ag : bn} {ws : List (ak)} (hl : aF ag = true) (hws : ws.length <= 2147483648) (hw : ∀ w ∈ ws, pV w = true) : ∀ (rest pre : bn) (nn : Nat), ag = pre ++ rest -> rest.length < nn ->
  lp qQ cW D7 nn (D9 op nm ins out ag ws ((pre.length : Nat) : Int)) KAr = some (.ret [I (bif Tf ws pre rest != 0 then Tf ws pre rest else bif ws.any (Zx ag) then 4 else 0)], []) := by
 have hlen := bM hl
 intro rest
 induction rest with
 | nil =>
  intro pre nn hp hn
  obtain ⟨nn, rfl⟩ : ∃ m', nn = m' + 1 := ⟨nn - 1, by omega⟩
  have eg : ag.length = pre.length := by rw [hp, List.append_nil]
  rw [MJ, bU (show ¬ (((pre.length : Nat) : Int) < Int.ofNat ag.length) by simp only [aK]; omega), ax]
  refine (Zu op nm ins out ag ws _).trans ?_
  have key := Zy (op := op) (nm := nm) (ins := ins) (out := out) hlen hws hw ws.length 0 fu (by omega) (by unfold fu; omega)
  rw [List.drop_zero] at key
  exact key
 | cons a r ih =>
  intro pre nn hp hn
  obtain ⟨nn, rfl⟩ : ∃ m', nn = m' + 1 := ⟨nn - 1, by omega⟩
  have key := ih (pre ++ [a]) nn (by rw [hp, List.append_assoc]; rfl) (by simp only [List.length_cons] at hn; omega)
  have eg : ag.length = pre.length + (r.length + 1) := by rw [hp, List.length_append, List.length_cons]
  have ha := gN hl (a := a) (by rw [hp]; simp)
  have gI : idx ag ((pre.length : Nat) : Int) = some a := by rw [hp]; exact mJ pre a r
  have w1 : i64.wrap (((pre.length : Nat) : Int) + 1) = (((pre ++ [a]).length : Nat) : Int) := by rw [List.length_append, List.length_cons, List.length_nil, aI (by omega) (by omega)]; omega
  have e1 : decide (bk (fun w => cC w (a.fst ++ [32])) ws < 0) = (ws.find? (qP a)).isNone := jW _ _
  have e2 : idx ws (bk (fun w => cC w (a.fst ++ [32])) ws) = ws.find? (qP a) := td _ _
  have w2 : i64.wrap (Int.ofNat (List.length a.1) + 1) = ((List.length a.1 + 1 : Nat) : Int) := by
   have := ha.1
   simp only [aK]
   rw [aI (by omega) (by omega)]
   omega
  have ed : Tf ws pre (a :: r) = bif Wj ws pre a != 0 then Wj ws pre a else Tf ws (pre ++ [a]) r := rfl
  rw [MJ, aD (show ((pre.length : Nat) : Int) < Int.ofNat ag.length by simp only [aK]; omega), ai, gI, aB, aD (show ws.length <= 9223372036854775807 /\ List.length a.1 <= 2147483647 from ⟨by omega, ha.1⟩), ai, e1, e2, MM hp, w2, w1, ed]
  cases hf : ws.find? (qP a) with
  | none =>
   have ho : Wj ws pre a = 5 := by unfold Wj; rw [hf]
   rw [ho]
   show _ = _
   kernel_rfl
  | some w =>
   have hpr : qP a w = true := List.find?_some hf
   have hwo := ML (hw w (List.mem_of_find?_eq_some hf)) hpr
   have ho : Wj ws pre a = bif dO (jB w (List.length a.1 + 1)) != a.2.1 then 4 else bif pre.any (fun b => b.1 == a.1) then 4 else bif a.2.1 == 1 then (bif !bS 1 a.2.2.1 then 4 else 0) else 0 := by unfold Wj; rw [hf]
   rw [Option.isNone_some, ax, aB, Gr hwo, aB, aB, aD (show pre.length <= 9223372036854775807 by omega), ai, ho]
   cases dO (jB w (List.length a.1 + 1)) != a.2.1 with
   | true => show _ = _; kernel_rfl
   | false =>
    simp only [ax]
    cases pre.any (fun b => b.1 == a.1) with
    | true => show _ = _; kernel_rfl
    | false =>
     simp only [ax]
     cases a.2.1 == 1 with
     | true =>
      simp only [ai]
      cases !bS 1 a.2.2.1 with
      | true => show _ = _; kernel_rfl
      | false => exact key
     | false => exact key
def eV (r : ak) : List (ak) := cc (r ++ [44, 116, 104, 101, 110, 32, 120])
def l6 (r : ak) : Bool := decide (r.length <= 1000000) && (eV r).all pV
theorem Th {op nm : ak} {ins : List (ak)} {out : ak} {ag : bn} {r : ak} (hl : aF ag = true) (hr : l6 r = true) : aC qQ f143 7 [(3, [2, 5, 20, 21, 22]), (14, [2, 63, 64, 65])] [cO op nm ins out ag, .d .str r] [] ah = some (.ret [I (kE (eV r) ag)], []) := by
 unfold l6 at hr
 rw [ba] at hr
 have h1 := aU hr.1
 have hw := List.all_eq_true.1 hr.2
 have h2 : (r ++ [44, 116, 104, 101, 110, 32, 120]).length = r.length + 7 := by rw [List.length_append]; rfl
 have h3 := pU (r ++ [44, 116, 104, 101, 110, 32, 120])
 rw [Zr, if_pos (show r.length + 7 < 4611686018427387904 by omega), aB]
 change (bif decide (List.length (α := UInt8) (r ++ [44, 116, 104, 101, 110, 32, 120]) <= 2147483647) then _ else _) = _
 rw [aD (show List.length (α := UInt8) (r ++ [44, 116, 104, 101, 110, 32, 120]) <= 2147483647 by omega), ai]
 have hlen := bM hl
 refine (Zv op nm ins out ag (eV r)).trans ?_
 exact Zz hl (by unfold eV; omega) hw ag [] fu rfl (by unfold fu; omega)
def ZA : List AV -> LHp -> Tq
 | [.d Y2 (_, _, _, _, ag, _), .d .str r], [] => .br (aF ag && l6 r) (.leaf (.ret [I (kE (eV r) ag)]) []) .no
 | _, _ => .no
theorem Ti : bg 143 (ao ZA) := by
 have h1 := bD (d := 7) (l := [(3, [2, 5, 20, 21, 22]), (14, [2, 63, 64, 65])]) MI func143 call143
 refine aO fun args hs ae aH h' => ?_
 unfold ZA at h'
 split at h'
 ·obtain ⟨hb, h2⟩ := Tq.br_no h'
  rw [ba] at hb
  exact h1.okC ((Th hb.1 hb.2).trans h2)
 ·cases h'
noncomputable def gRo : Env := g19.add 193 (fnE SP)
theorem MN : gRo.Good := l0.add Gi
noncomputable def dZ : Option (aq × LHp) := az [AV.d ((aa).pair ((aa).pair (Ty.str.pair Ty.unit))) (2, 2, [], PUnit.unit), B true]
noncomputable def rA : Option (aq × LHp) := az [AV.d ((aa).pair ((aa).pair (Ty.str.pair Ty.unit))) (1, 1, [97, 120, 101, 115, 32, 115, 44, 107, 101, 101, 112, 100, 105, 109, 115, 32, 105], PUnit.unit), B true]
noncomputable def x9 : Option (aq × LHp) := az [AV.d ((aa).pair ((aa).pair (Ty.str.pair Ty.unit))) (1, 1, [107, 101, 114, 110, 101, 108, 95, 115, 104, 97, 112, 101, 32, 115, 42, 44, 115, 116, 114, 105, 100, 101, 115, 32, 115, 44, 112, 97, 100, 115, 32, 115], PUnit.unit), B true]
noncomputable def ya : Option (aq × LHp) := az [AV.d ((aa).pair ((aa).pair (Ty.str.pair Ty.unit))) (1, 1, [115, 104, 97, 112, 101, 32, 115, 42], PUnit.unit), B true]
noncomputable def yb : Option (aq × LHp) := az [AV.d ((aa).pair ((aa).pair (Ty.str.pair Ty.unit))) (1, 1, [97, 120, 101, 115, 32, 115, 42], PUnit.unit), B true]
noncomputable def yc : Option (aq × LHp) := az [AV.d ((aa).pair ((aa).pair (Ty.str.pair Ty.unit))) (1, 1, [97, 120, 105, 115, 32, 105], PUnit.unit), B true]
theorem ZB (op : ak) : aC gRo f141 7 [] [.d .str op] [] ah = bif op == zl1 then az [AV.d ((aa).pair ((aa).pair (Ty.str.pair Ty.unit))) (1, 1, [], PUnit.unit), B true] else bif op == QH then dZ else bif op == QI then dZ else bif op == QJ then dZ else bif op == QK then dZ else bif op == QL then dZ else bif op == QM then dZ else bif op == V7 then dZ else bif op == [79, 114] then dZ else bif op == V8 then dZ else bif op == uP then dZ else bif op == xH then dZ else bif op == xI then dZ else bif op == KY then dZ else bif op == qJ then az [AV.d ((aa).pair ((aa).pair (Ty.str.pair Ty.unit))) (3, 3, [], PUnit.unit), B true] else bif op == KZ then az [AV.d ((aa).pair ((aa).pair (Ty.str.pair Ty.unit))) (1, 1, [109, 105, 110, 32, 102, 44, 109, 97, 120, 32, 102], PUnit.unit), B true] else bif op == DU then az [AV.d ((aa).pair ((aa).pair (Ty.str.pair Ty.unit))) (1, 1, [116, 111, 32, 105, 42], PUnit.unit), B true] else bif op == DV then rA else bif op == DW then rA else bif op == K0 then rA else bif op == xJ then az [AV.d ((aa).pair ((aa).pair (Ty.str.pair Ty.unit))) (1, 1, [97, 120, 105, 115, 32, 105, 44, 107, 101, 101, 112, 100, 105, 109, 115, 32, 105], PUnit.unit), B true] else bif op == xK then ya else bif op == xL then ya else bif op == xM then az [AV.d ((aa).pair ((aa).pair (Ty.str.pair Ty.unit))) (1, 1, [112, 101, 114, 109, 32, 115], PUnit.unit), B true] else bif op == uQ then az [AV.d ((aa).pair ((aa).pair (Ty.str.pair Ty.unit))) (1, 20, [97, 120, 105, 115, 32, 105, 42], PUnit.unit), B true] else bif op == uR then az [AV.d ((aa).pair ((aa).pair (Ty.str.pair Ty.unit))) (1, 1, [115, 116, 97, 114, 116, 115, 32, 115, 42, 44, 101, 110, 100, 115, 32, 115, 42, 44, 97, 120, 101, 115, 32, 115], PUnit.unit), B true] else bif op == oG then az [AV.d ((aa).pair ((aa).pair (Ty.str.pair Ty.unit))) (2, 2, [97, 120, 105, 115, 32, 105], PUnit.unit), B true] else bif op == uS then az [AV.d ((aa).pair ((aa).pair (Ty.str.pair Ty.unit))) (1, 1, [112, 97, 100, 115, 32, 115, 42, 44, 118, 97, 108, 117, 101, 32, 102], PUnit.unit), B true] else bif op == xN then yb else bif op == xO then yb else bif op == AQ then yc else bif op == K1 then yc else bif op == Ih then az [AV.d ((aa).pair ((aa).pair (Ty.str.pair Ty.unit))) (2, 3, [116, 114, 97, 110, 115, 65, 32, 105, 44, 116, 114, 97, 110, 115, 66, 32, 105, 44, 97, 108, 112, 104, 97, 32, 102, 44, 98, 101, 116, 97, 32, 102], PUnit.unit), B true] else bif op == AR then az [AV.d ((aa).pair ((aa).pair (Ty.str.pair Ty.unit))) (2, 3, [115, 116, 114, 105, 100, 101, 115, 32, 115, 44, 112, 97, 100, 115, 32, 115, 44, 100, 105, 108, 97, 116, 105, 111, 110, 115, 32, 115, 44, 103, 114, 111, 117, 112, 32, 105], PUnit.unit), B true] else bif op == K2 then x9 else bif op == K3 then x9 else bif op == K4 then az [AV.d ((aa).pair ((aa).pair (Ty.str.pair Ty.unit))) (5, 5, [101, 112, 115, 105, 108, 111, 110, 32, 102], PUnit.unit), B true] else bif op == nO then az [AV.d ((aa).pair ((aa).pair (Ty.str.pair Ty.unit))) (0, 0, [118, 97, 108, 117, 101, 32, 116, 42], PUnit.unit), B true] else az [AV.d ((aa).pair ((aa).pair (Ty.str.pair Ty.unit))) (1, 1, [], PUnit.unit), B (fW op)] := by kernel_rfl
def wc (op : ak) : Option (Int × Int × ak × Unit) :=
 bif op == zl1 then some (1, 1, [], ()) else
 bif op == QH then some (2, 2, [], ()) else
 bif op == QI then some (2, 2, [], ()) else
 bif op == QJ then some (2, 2, [], ()) else
 bif op == QK then some (2, 2, [], ()) else
 bif op == QL then some (2, 2, [], ()) else
 bif op == QM then some (2, 2, [], ()) else
 bif op == V7 then some (2, 2, [], ()) else
 bif op == [79, 114] then some (2, 2, [], ()) else
 bif op == V8 then some (2, 2, [], ()) else
 bif op == uP then some (2, 2, [], ()) else
 bif op == xH then some (2, 2, [], ()) else
 bif op == xI then some (2, 2, [], ()) else
 bif op == KY then some (2, 2, [], ()) else
 bif op == qJ then some (3, 3, [], ()) else
 bif op == KZ then some (1, 1, [109, 105, 110, 32, 102, 44, 109, 97, 120, 32, 102], ()) else
 bif op == DU then some (1, 1, [116, 111, 32, 105, 42], ()) else
 bif op == DV then some (1, 1, [97, 120, 101, 115, 32, 115, 44, 107, 101, 101, 112, 100, 105, 109, 115, 32, 105], ()) else
 bif op == DW then some (1, 1, [97, 120, 101, 115, 32, 115, 44, 107, 101, 101, 112, 100, 105, 109, 115, 32, 105], ()) else
 bif op == K0 then some (1, 1, [97, 120, 101, 115, 32, 115, 44, 107, 101, 101, 112, 100, 105, 109, 115, 32, 105], ()) else
 bif op == xJ then some (1, 1, [97, 120, 105, 115, 32, 105, 44, 107, 101, 101, 112, 100, 105, 109, 115, 32, 105], ()) else
 bif op == xK then some (1, 1, [115, 104, 97, 112, 101, 32, 115, 42], ()) else
 bif op == xL then some (1, 1, [115, 104, 97, 112, 101, 32, 115, 42], ()) else
 bif op == xM then some (1, 1, [112, 101, 114, 109, 32, 115], ()) else
 bif op == uQ then some (1, 20, [97, 120, 105, 115, 32, 105, 42], ()) else
 bif op == uR then some (1, 1, [115, 116, 97, 114, 116, 115, 32, 115, 42, 44, 101, 110, 100, 115, 32, 115, 42, 44, 97, 120, 101, 115, 32, 115], ()) else
 bif op == oG then some (2, 2, [97, 120, 105, 115, 32, 105], ()) else
 bif op == uS then some (1, 1, [112, 97, 100, 115, 32, 115, 42, 44, 118, 97, 108, 117, 101, 32, 102], ()) else
 bif op == xN then some (1, 1, [97, 120, 101, 115, 32, 115, 42], ()) else
 bif op == xO then some (1, 1, [97, 120, 101, 115, 32, 115, 42], ()) else
 bif op == AQ then some (1, 1, [97, 120, 105, 115, 32, 105], ()) else
 bif op == K1 then some (1, 1, [97, 120, 105, 115, 32, 105], ()) else
 bif op == Ih then some (2, 3, [116, 114, 97, 110, 115, 65, 32, 105, 44, 116, 114, 97, 110, 115, 66, 32, 105, 44, 97, 108, 112, 104, 97, 32, 102, 44, 98, 101, 116, 97, 32, 102], ()) else
 bif op == AR then some (2, 3, [115, 116, 114, 105, 100, 101, 115, 32, 115, 44, 112, 97, 100, 115, 32, 115, 44, 100, 105, 108, 97, 116, 105, 111, 110, 115, 32, 115, 44, 103, 114, 111, 117, 112, 32, 105], ()) else
 bif op == K2 then some (1, 1, [107, 101, 114, 110, 101, 108, 95, 115, 104, 97, 112, 101, 32, 115, 42, 44, 115, 116, 114, 105, 100, 101, 115, 32, 115, 44, 112, 97, 100, 115, 32, 115], ()) else
 bif op == K3 then some (1, 1, [107, 101, 114, 110, 101, 108, 95, 115, 104, 97, 112, 101, 32, 115, 42, 44, 115, 116, 114, 105, 100, 101, 115, 32, 115, 44, 112, 97, 100, 115, 32, 115], ()) else
 bif op == K4 then some (5, 5, [101, 112, 115, 105, 108, 111, 110, 32, 102], ()) else
 bif op == nO then some (0, 0, [118, 97, 108, 117, 101, 32, 116, 42], ()) else
 none
def cw (op : ak) : Int × Int × ak × Unit := (wc op).getD (1, 1, [], ())
def tz (op : ak) : Bool := (wc op).isSome || fW op
def ZC : List AV -> LHp -> Option (aq × LHp)
 | [.d .str op], [] => some (.ret [.d (Y5) (cw op), B (tz op)], [])
 | _, _ => none
theorem Tj (op : ak) : aC gRo f141 7 [] [.d .str op] [] ah = some (.ret [.d (Y5) (cw op), B (tz op)], []) := by
 rw [ZB]; simp only [dZ, rA, x9, ya, yb, yc]
 unfold cw tz wc
 cases op == zl1
 rotate_left
 ·rfl
 cases op == QH
 rotate_left
 ·rfl
 cases op == QI
 rotate_left
 ·rfl
 cases op == QJ
 rotate_left
 ·rfl
 cases op == QK
 rotate_left
 ·rfl
 cases op == QL
 rotate_left
 ·rfl
 cases op == QM
 rotate_left
 ·rfl
 cases op == V7
 rotate_left
 ·rfl
 cases op == [79, 114]
 rotate_left
 ·rfl
 cases op == V8
 rotate_left
 ·rfl
 cases op == uP
 rotate_left
 ·rfl
 cases op == xH
 rotate_left
 ·rfl
 cases op == xI
 rotate_left
 ·rfl
 cases op == KY
 rotate_left
 ·rfl
 cases op == qJ
 rotate_left
 ·rfl
 cases op == KZ
 rotate_left
 ·rfl
 cases op == DU
 rotate_left
 ·rfl
 cases op == DV
 rotate_left
 ·rfl
 cases op == DW
 rotate_left
 ·rfl
 cases op == K0
 rotate_left
 ·rfl
 cases op == xJ
 rotate_left
 ·rfl
 cases op == xK
 rotate_left
 ·rfl
 cases op == xL
 rotate_left
 ·rfl
 cases op == xM
 rotate_left
 ·rfl
 cases op == uQ
 rotate_left
 ·rfl
 cases op == uR
 rotate_left
 ·rfl
 cases op == oG
 rotate_left
 ·rfl
 cases op == uS
 rotate_left
 ·rfl
 cases op == xN
 rotate_left
 ·rfl
 cases op == xO
 rotate_left
 ·rfl
 cases op == AQ
 rotate_left
 ·rfl
 cases op == K1
 rotate_left
 ·rfl
 cases op == Ih
 rotate_left
 ·rfl
 cases op == AR
 rotate_left
 ·rfl
 cases op == K2
 rotate_left
 ·rfl
 cases op == K3
 rotate_left
 ·rfl
 cases op == K4
 rotate_left
 ·rfl
 cases op == nO
 rotate_left
 ·rfl
 rfl
theorem Tk : bg 141 (fnE ZC) := by
 refine gL MN bO func141 call141 (depth := 7) (live := []) (by decide +kernel) rfl fun args hs p h => ?_
 unfold ZC at h
 split at h
 ·cases h
  exact Tj _
 ·cases h
theorem IB (op : ak) : l6 (cw op).2.2.1 = true := by
 unfold cw wc
 cases op == zl1
 rotate_left
 ·kernel_rfl
 cases op == QH
 rotate_left
 ·kernel_rfl
 cases op == QI
 rotate_left
 ·kernel_rfl
 cases op == QJ
 rotate_left
 ·kernel_rfl
 cases op == QK
 rotate_left
 ·kernel_rfl
 cases op == QL
 rotate_left
 ·kernel_rfl
 cases op == QM
 rotate_left
 ·kernel_rfl
 cases op == V7
 rotate_left
 ·kernel_rfl
 cases op == [79, 114]
 rotate_left
 ·kernel_rfl
 cases op == V8
 rotate_left
 ·kernel_rfl
 cases op == uP
 rotate_left
 ·kernel_rfl
 cases op == xH
 rotate_left
 ·kernel_rfl
 cases op == xI
 rotate_left
 ·kernel_rfl
 cases op == KY
 rotate_left
 ·kernel_rfl
 cases op == qJ
 rotate_left
 ·kernel_rfl
 cases op == KZ
 rotate_left
 ·kernel_rfl
 cases op == DU
 rotate_left
 ·kernel_rfl
 cases op == DV
 rotate_left
 ·kernel_rfl
 cases op == DW
 rotate_left
 ·kernel_rfl
 cases op == K0
 rotate_left
 ·kernel_rfl
 cases op == xJ
 rotate_left
 ·kernel_rfl
 cases op == xK
 rotate_left
 ·kernel_rfl
 cases op == xL
 rotate_left
 ·kernel_rfl
 cases op == xM
 rotate_left
 ·kernel_rfl
 cases op == uQ
 rotate_left
 ·kernel_rfl
 cases op == uR
 rotate_left
 ·kernel_rfl
 cases op == oG
 rotate_left
 ·kernel_rfl
 cases op == uS
 rotate_left
 ·kernel_rfl
 cases op == xN
 rotate_left
 ·kernel_rfl
 cases op == xO
 rotate_left
 ·kernel_rfl
 cases op == AQ
 rotate_left
 ·kernel_rfl
 cases op == K1
 rotate_left
 ·kernel_rfl
 cases op == Ih
 rotate_left
 ·kernel_rfl
 cases op == AR
 rotate_left
 ·kernel_rfl
 cases op == K2
 rotate_left
 ·kernel_rfl
 cases op == K3
 rotate_left
 ·kernel_rfl
 cases op == K4
 rotate_left
 ·kernel_rfl
 cases op == nO
 rotate_left
 ·kernel_rfl
 kernel_rfl
noncomputable def Gs : Code := bd f194
noncomputable def Tl : Code := cL (cL (cR (cL (cR Gs))))
noncomputable def iK : Cfg := ⟨19, 5, 0, [(2, [0, 1, 7, 8])], true⟩
def MO (ws : List (ak)) (v : ak) (i : Int) : LSt := ⟨aw 5 [(0, .d (.slice .str) ws), (1, .d .str v), (7, I (Int.ofNat ws.length)), (8, I i)], [], 0⟩
theorem ZD (ws : List (ak)) (v : ak) : aC g19 f194 5 [(2, [0, 1, 7, 8])] [.d (.slice .str) ws, .d .str v] [] ah = (hlp g19 iK) Tl _ (MO ws v 0) (aQ 0 (aX g19 iK [2] (hlp g19 iK) (cR (cR Gs)) (aZ prog 0 f194.results.toList ah))) := (bq [2] iK rfl).trans (by obtain ⟨hl, h⟩ := bc g19 iK; rw [h]; kernel_rfl)
theorem ZE (ws : List (ak)) (v : ak) (i : Int) (n : Nat) {R : Type} (k : AEx -> LSt -> Option R) : lp g19 iK Tl (n + 1) (MO ws v i) k = bif decide (i < Int.ofNat ws.length) then (idx ws i).bind fun v1 => bif v == v1 then k AEx.ret { fr := aw 5 [(0, AV.d Ty.str.slice ws), (1, AV.d Ty.str v), (4, I i), (5, I i), (7, I (Int.ofNat ws.length)), (8, I i), (9, B true), (10, I i), (11, AV.d Ty.str v), (12, AV.d Ty.str.slice ws), (13, I i), (14, AV.ip Ty.str v1), (15, AV.d Ty.str v1), (16, B true), (17, I i)], hp := [], nx := 0 } else lp g19 iK Tl n (MO ws v (i64.wrap (i + 1))) k else k (AEx.exit 0) { fr := aw 5 [(0, AV.d Ty.str.slice ws), (1, AV.d Ty.str v), (7, I (Int.ofNat ws.length)), (8, I i), (9, B false)], hp := [], nx := 0 } := by kernel_rfl
theorem Tm {ws : List (ak)} {v : ak} (hl : ws.length <= maxLen) : aC g19 f194 5 [(2, [0, 1, 7, 8])] [.d (.slice .str) ws, .d .str v] [] ah = some (.ret [I (bk (fun w => v == w) ws)], []) := by
 rw [ZD]
 have hs := fun (i : Int) (n : Nat) => ZE ws v i n (aQ 0 (aX g19 iK [2] (hlp g19 iK) (cR (cR Gs)) (aZ prog 0 f194.results.toList ah)))
 have h := fx (T := fun n s => lp g19 iK Tl n s (aQ 0 (aX g19 iK [2] (hlp g19 iK) (cR (cR Gs)) (aZ prog 0 f194.results.toList ah)))) (xs := ws) (st := fun i => MO ws v i) hl hs
 unfold MO at h
 refine h.trans ?_
 unfold bk
 cases hq : ws.findIdx? (fun w => v == w) with
 | none => show _ = _; kernel_rfl
 | some i =>
  obtain ⟨hi, _⟩ := List.findIdx?_eq_some_iff_getElem.1 hq
  simp only [List.getElem?_eq_getElem hi, aB]
  show _ = _
  kernel_rfl
def ZF : List AV -> LHp -> Tq
 | [.d (.slice .str) ws, .d .str v], [] => .br (decide (ws.length <= maxLen)) (.leaf (.ret [I (bk (fun w => v == w) ws)]) []) .no
 | _, _ => .no
theorem Tn : bg 194 (ao ZF) := by
 refine bW l0 bO func194 call194 (depth := 5) (live := [(2, [0, 1, 7, 8])]) (by decide +kernel) rfl fun args hs p h => ?_
 unfold ZF at h
 split at h
 ·obtain ⟨hl, h⟩ := Tq.br_no h
  cases h
  have hl := aU hl
  exact Tm hl
 ·cases h
noncomputable def gCx : Env := g19.add 194 (ao ZF)
theorem MP : gCx.Good := l0.add Tn
theorem ZG (ws : List (ak)) (v : ak) : aC gCx f142 4 [] [.d (.slice .str) ws, .d .str v] [] ah = bif decide (ws.length <= 9223372036854775807) then az [B (decide (bk (fun w => v == w) ws >= 0))] else none := by kernel_rfl
def ZH : List AV -> LHp -> Tq
 | [.d (.slice .str) ws, .d .str v], [] => .br (decide (ws.length <= maxLen)) (.leaf (.ret [B (ws.any fun w => v == w)]) []) .no
 | _, _ => .no
theorem To : bg 142 (ao ZH) := by
 have h1 := bD (d := 4) (l := []) MP func142 call142
 refine aO fun args hs ae aH h' => ?_
 unfold ZH at h'
 split at h'
 ·refine h1.okC ((ZG _ _).trans ?_)
  rw [oT]
  exact h'
 ·cases h'
def ZI : List AV -> LHp -> Tq
 | [.d Y0 v], [] => .br (decide (List.length v.2.1 <= maxLen /\ List.length v.2.2.1 <= maxLen)) (.leaf (.ret [I (jw v.1 v.2.1 v.2.2.1)]) []) .no
 | _, _ => .no
theorem Tp : bg 57 (ao ZI) := by
 refine aO fun args hs ae aH h' => ?_
 unfold ZI at h'
 split at h'
 ·exact FA.2 _ _ _ _ h'
 ·cases h'
noncomputable def gKc : Env := (((((Wc.add 141 (fnE ZC)).add 142 (ao ZH)).add 143 (ao ZA)).add 144 (ao SW)).add 64 (ao D3)).add 57 (ao ZI)
theorem MQ : gKc.Good := (((((jx.add Tk).add To).add Ti).add Gl).add oP).add Tp
noncomputable def yd (op : ak) (ag : bn) : Option (aq × LHp) := bif decide (ag.length <= 9223372036854775807) then bif decide (bk (fun a => a.fst == QN && a.snd.fst == 4) ag < 0) then az [I 0] else (List.find? (fun a => a.fst == QN && a.snd.fst == 4) ag).bind fun u9 => bif op == nO then bif decide (List.length u9.2.2.2.2.2.1.2.1 <= 9223372036854775807 /\ List.length u9.2.2.2.2.2.1.2.2.1 <= 9223372036854775807) then az [I (jw u9.2.2.2.2.2.1.1 u9.2.2.2.2.2.1.2.1 u9.2.2.2.2.2.1.2.2.1)] else none else az [I 0] else none
theorem ZJ (op nm : ak) (ins : List (ak)) (out : ak) (ag : bn) : aC gKc f102 7 [] [cO op nm ins out ag] [] ah = bif !tz op then az [I 5] else bif decide (Int.ofNat ins.length < (cw op).1) then az [I 4] else bif decide (Int.ofNat ins.length > (cw op).2.1) then az [I 4] else bif out == [] then az [I 5] else bif decide (ins.length <= 9223372036854775807) then bif ins.any fun w => [] == w then az [I 5] else bif aF ag && l6 (cw op).2.2.1 then bif kE (eV (cw op).2.2.1) ag != 0 then az [I (kE (eV (cw op).2.2.1) ag)] else bif aF ag then bif k8 ag then yd op ag else bif iW ag then az [I 4] else yd op ag else none else none else none := by kernel_rfl
def dh : ak := nO
def jC : ak := QN
def l7 (ag : bn) : Bool := ag.all fun a => decide (List.length a.2.2.2.2.2.1.2.1 <= maxLen /\ List.length a.2.2.2.2.2.1.2.2.1 <= maxLen)
def tA (op : ak) (ag : bn) : Int := match ag.find? (ie jC 4) with
 | none => 0
 | some a => bif op == dh then jw a.2.2.2.2.2.1.1 a.2.2.2.2.2.1.2.1 a.2.2.2.2.2.1.2.2.1 else 0
def BO (op : ak) (ins : List (ak)) (out : ak) (ag : bn) : Int :=
 bif !tz op then 5 else bif decide (Int.ofNat ins.length < (cw op).1) then 4 else bif decide (Int.ofNat ins.length > (cw op).2.1) then 4 else
 bif out == [] then 5 else bif ins.any (fun w => [] == w) then 5 else bif kE (eV (cw op).2.2.1) ag != 0 then kE (eV (cw op).2.2.1) ag else
 bif k8 ag then tA op ag else bif iW ag then 4 else tA op ag
theorem MR {op nm : ak} {ins : List (ak)} {out : ak} {ag : bn} (h1 : ins.length <= maxLen) (h2 : aF ag = true) (h3 : l7 ag = true) : aC gKc f102 7 [] [cO op nm ins out ag] [] ah = some (.ret [I (BO op ins out ag)], []) := by
 have hlen := bM h2
 have hc : (bif decide (bk (fun a => a.fst == jC && a.snd.fst == 4) ag < 0) then az [I 0]
   else (List.find? (fun a => a.fst == jC && a.snd.fst == 4) ag).bind fun v =>
    bif op == dh then (bif decide (List.length v.2.2.2.2.2.1.2.1 <= 9223372036854775807 /\ List.length v.2.2.2.2.2.1.2.2.1 <= 9223372036854775807) then az [I (jw v.2.2.2.2.2.1.1 v.2.2.2.2.2.1.2.1 v.2.2.2.2.2.1.2.2.1)] else none) else az [I 0]) = (az [I (tA op ag)] : Option (aq × LHp)) := by
  rw [jW]
  unfold tA
  change (bif (ag.find? (ie jC 4)).isNone then _ else (ag.find? (ie jC 4)).bind _) = _
  cases hf : ag.find? (ie jC 4) with
  | none => rfl
  | some a =>
   have ht := List.all_eq_true.1 h3 a (List.mem_of_find?_eq_some hf)
   have ht2 : decide (List.length a.2.2.2.2.2.1.2.1 <= 9223372036854775807 /\ List.length a.2.2.2.2.2.1.2.2.1 <= 9223372036854775807) = true := ht
   simp only [Option.isNone_some, ax, aB, ht2, ai]
   cases op == dh <;> rfl
 rw [ZJ]; simp only [yd]; rw [h2, IB, aD (show ins.length <= 9223372036854775807 from h1), aD (show ag.length <= 9223372036854775807 by omega)]
 unfold BO
 cases !tz op with
 | true => rfl
 | false =>
  cases decide (Int.ofNat ins.length < (cw op).1) with
  | true => rfl
  | false =>
   cases decide (Int.ofNat ins.length > (cw op).2.1) with
   | true => rfl
   | false =>
    cases out == [] with
    | true => rfl
    | false =>
     cases ins.any (fun w => [] == w) with
     | true => rfl
     | false =>
      cases kE (eV (cw op).2.2.1) ag != 0 with
      | true => rfl
      | false =>
       cases k8 ag with
       | true => exact hc
       | false =>
        cases iW ag with
        | true => rfl
        | false => exact hc
def MS : List AV -> LHp -> Tq
 | [.d Y2 (op, _, ins, out, ag, _)], [] => .br (decide (ins.length <= maxLen) && (aF ag && l7 ag)) (.leaf (.ret [I (BO op ins out ag)]) []) .no
 | _, _ => .no
theorem MT : bg 102 (ao MS) := by
 have h1 := bD (d := 7) (l := []) MQ func102 call102
 refine aO fun args hs ae aH h' => ?_
 unfold MS at h'
 split at h'
 ·obtain ⟨hb, h2⟩ := Tq.br_no h'
  rw [ba, ba] at hb
  exact h1.okC ((MR (aU hb.1) hb.2.1 hb.2.2).trans h2)
 ·cases h'
noncomputable def Gt : Code := bd f252
noncomputable def Ts : Code := cL (cL (cR (cL (cR Gt))))
noncomputable def iL : Cfg := ⟨19, 5, 1, [(2, [0, 1, 7, 8])], true⟩
def BP (z : Bool) (xs : af) : LHp := [(0, .arr 3 aa 0 z xs)]
def MU (z : Bool) (xs : af) (v : Int) (i : Int) : LSt := ⟨aw 5 [(0, .os 0 0), (1, I v), (7, I (Int.ofNat xs.length)), (8, I i)], BP z xs, 2⟩
theorem ZK (z : Bool) (xs : af) (v : Int) : aC jP f252 5 [(2, [0, 1, 7, 8])] [.os 0 0, I v] (BP z xs) ah = (hlp jP iL) Ts _ (MU z xs v 0) (aQ 0 (aX jP iL [2] (hlp jP iL) (cR (cR Gt)) (aZ prog 1 f252.results.toList ah))) := (bq [2] iL rfl).trans (by obtain ⟨hl, h⟩ := bc jP iL; rw [h]; kernel_rfl)
theorem ZL (z : Bool) (xs : af) (v : Int) (i : Int) (n : Nat) {R : Type} (k : AEx -> LSt -> Option R) : lp jP iL Ts (n + 1) (MU z xs v i) k = bif decide (i < Int.ofNat xs.length) then (idx xs i).bind fun v1 => (xs[i.toNat]?).bind fun v2 => bif v == v2 then k AEx.ret { fr := aw 5 [(0, AV.os 0 0), (1, I v), (4, I i), (5, I i), (7, I (Int.ofNat xs.length)), (8, I i), (9, B true), (10, I i), (11, I v), (12, AV.os 0 0), (13, I i), (14, AV.oe 0 0 i.toNat), (15, I v2), (16, B true), (17, I i)], hp := [(0, aj.arr 3 (aa) 0 z xs)], nx := 2 } else lp jP iL Ts n (MU z xs v (i64.wrap (i + 1))) k else k (AEx.exit 0) { fr := aw 5 [(0, AV.os 0 0), (1, I v), (7, I (Int.ofNat xs.length)), (8, I i), (9, B false)], hp := [(0, aj.arr 3 (aa) 0 z xs)], nx := 2 } := by kernel_rfl
theorem Tt {z : Bool} {xs : af} {v : Int} (hl : xs.length <= maxLen) : aC jP f252 5 [(2, [0, 1, 7, 8])] [.os 0 0, I v] (BP z xs) ah = some (.ret [I (bk (fun w => v == w) xs)], BP z xs) := by
 rw [ZK]
 have hs := fun (i : Int) (n : Nat) => ZL z xs v i n (aQ 0 (aX jP iL [2] (hlp jP iL) (cR (cR Gt)) (aZ prog 1 f252.results.toList ah)))
 simp only [aep] at hs
 have h := fx (T := fun n s => lp jP iL Ts n s (aQ 0 (aX jP iL [2] (hlp jP iL) (cR (cR Gt)) (aZ prog 1 f252.results.toList ah)))) (xs := xs) (st := fun i => MU z xs v i) hl hs
 unfold MU BP at h
 refine h.trans ?_
 unfold bk
 cases hq : xs.findIdx? (fun w => v == w) with
 | none => show _ = _; kernel_rfl
 | some i =>
  obtain ⟨hi, _⟩ := List.findIdx?_eq_some_iff_getElem.1 hq
  simp only [List.getElem?_eq_getElem hi, aB]
  show _ = _
  kernel_rfl
def ZM : List AV -> LHp -> Tq
 | [.os 0 0, .d zI v], [(0, .arr 3 zI 0 z xs)] => .br (decide (xs.length <= maxLen)) (.leaf (.ret [I (bk (fun w => v == w) xs)]) (BP z xs)) .no
 | _, _ => .no
theorem Tu : bg 252 (ao ZM) := by
 refine bW jy bO func252 call252 (depth := 5) (live := [(2, [0, 1, 7, 8])]) (by decide +kernel) rfl fun args hs p h => ?_
 unfold ZM at h
 split at h
 ·obtain ⟨hl, h⟩ := Tq.br_no h
  cases h
  have hl := aU hl
  exact Tt hl
 ·cases h
noncomputable def gCi : Env := X3.add 252 (ao ZM)
theorem MV : gCi.Good := oN.add Tu
theorem ZN (z : Bool) (xs : af) (v : Int) : aC gCi f212 4 [] [.os 0 0, I v] (BP z xs) ah = bif decide (xs.length <= 9223372036854775807) then some (aq.ret [B (decide (bk (fun w => v == w) xs >= 0))], [(0, aj.arr 3 (aa) 0 z xs)]) else none := by kernel_rfl
theorem ZO (v : Int) : aC X3 f212 4 [] [.nils, I v] [] ah = az [B false] := by kernel_rfl
def ZP : List AV -> LHp -> Tq
 | [.os 0 0, .d zI v], [(0, .arr 3 zI 0 z xs)] => .br (decide (xs.length <= maxLen)) (.leaf (.ret [B (xs.any fun w => v == w)]) (BP z xs)) .no
 | _, _ => .no
def ZQ : List AV -> LHp -> Tq
 | [.nils, .d zI _], [] => .leaf (.ret [B false]) []
 | _, _ => .no
theorem afI {α : Type} {p : α -> Bool} {ws : List α} : decide (bk p ws >= 0) = ws.any p := oT
theorem Tv : bg 212 (ao ZP) := by
 have h1 := bD (d := 4) (l := []) MV func212 call212
 refine aO fun args hs ae aH h' => ?_
 unfold ZP at h'
 split at h'
 ·refine h1.okC ((ZN _ _ _).trans ?_)
  rw [afI]
  exact h'
 ·cases h'
theorem Tw : bg 212 (ao ZQ) := by
 have h1 : bg 212 (au X3 f212 4 []) := FR
 refine aO fun args hs ae aH h' => ?_
 unfold ZQ at h'
 split at h'
 ·exact h1.okC ((ZO _).trans h')
 ·cases h'
def ctF (args : List AV) (hs : LHp) : Tq := orT (ZQ args hs) (ZP args hs)
theorem ZR : bg 212 (ao ctF) := ky Tw Tv
def qR (k r : Int) : Bool := decide (i64.wrap (0 - r) <= k) && decide (k < r)
def kF (k r : Int) : Int := bif decide (k < 0) then i64.wrap (k + r) else k
theorem ZS (k r : Int) : aC X2 f149 5 [] [I k, I r] [] ah = bif decide (i64.wrap (0 - r) <= k) then bif !decide (k < r) then aV else bif decide (k < 0) then az [I (i64.wrap (k + r))] else az [I k] else aV := by kernel_rfl
def IC : List AV -> LHp -> Tq
 | [.d zI k, .d zI r], [] => .br (qR k r) (.leaf (.ret [I (kF k r)]) []) (.leaf (.panic 131 4) [])
 | _, _ => .no
theorem rB : bg 149 (ao IC) := by
 have h2 : bg 149 (au X2 f149 5 []) := FQ
 refine aO fun args hs ae aH h' => ?_
 unfold IC at h'
 split at h'
 ·rename_i k r
  refine h2.okC ((ZS k r).trans (Eq.trans ?_ h'))
  unfold qR kF
  simp only [Tq.run]
  cases decide (i64.wrap (0 - r) <= k) with
  | false => rfl
  | true =>
   cases decide (k < r) with
   | false => rfl
   | true => cases decide (k < 0) <;> rfl
 ·cases h'
noncomputable def Wk : Code := bd f211
noncomputable def ye : Code := cL (cL (cR (cL (cR (cR Wk)))))
noncomputable def gO : Cfg := ⟨29, 5, 0, [(3, [1, 5, 9, 10, 11])], true⟩
def gq (T : Nat) (xs : af) : Option (aq × LHp) := match xs with
 | [] => some (.ret [.nils], [])
 | x :: r => some (.ret [.os 0 0], [(0, .arr T aa 0 false (x :: r))])
theorem jD (T : Nat) (xs : af) : cK (.slice aa) (gq T xs) = some (.ret [.d (.slice aa) xs], []) := by cases xs <;> rfl
theorem BQ (T K : Nat) (xs : af) : cK (.slice aa) (bif decide (xs = []) then az [AV.emp] else bif decide (xs.length <= K) then some (aq.ret [AV.os 0 0], [(0, aj.arr T aa 0 false xs)]) else none) = (Tq.br (decide (xs.length <= K)) (dat (.slice aa) xs) .no).run ah := by
 cases xs with
 | nil => rfl
 | cons x r =>
  simp only [Tq.run]
  show cK _ (bif decide ((x :: r).length <= K) then _ else _) = _
  cases decide ((x :: r).length <= K) <;> rfl
theorem jE {ag : bn} (h : aF ag = true) (name : ak) {ot : af} (ho : ot.length <= 2147483648) : (al ag name ot).length <= 2147483648 := by
 unfold al
 cases hf : ag.find? (ie name 7) with
 | none => exact ho
 | some a => exact (gN h (List.mem_of_find?_eq_some hf)).2.2
def ZT : List AV -> LHp -> Tq
 | [.d Y2 (_, _, _, _, ag, _), .d .str name, .d zS ot], [] => .br (aF ag) (.br (decide (ot.length <= 2147483648)) (dat (.slice aa) (al ag name ot)) .no) .no
 | _, _ => .no
theorem Tx : bg 25 (ao ZT) := by
 have h1 := bD (d := 5) (l := []) tt func25 call25
 refine aO fun args hs ae aH h' => ?_
 unfold ZT at h'
 split at h'
 ·rename_i op nm ins out ag _ name ot
  obtain ⟨hs, h2⟩ := Tq.br_no h'
  obtain ⟨hb, h3⟩ := Tq.br_no h2
  have hb := aU hb
  have hlen := bM hs
  refine h1.okO (.slice aa) (Eq.trans ?_ h3)
  refine Eq.trans (congrArg (cK _) (YR op nm ins out ag name ot)) ?_
  rw [aD (show ag.length <= 9223372036854775807 by omega), ai, jW]
  have hL := jE hs name hb
  unfold al at hL ⊢
  change cK _ (bif (ag.find? (ie name 7)).isNone then _ else (ag.find? (ie name 7)).bind _) = _
  cases hf : ag.find? (ie name 7) with
  | none =>
   refine (BQ _ _ _).trans ?_
   rw [aD hb]
   rfl
  | some a =>
   rw [hf] at hL
   refine (BQ _ _ _).trans ?_
   rw [aD hL]
   rfl
 ·cases h'
noncomputable def uT : FnE := b8 [(Y2), .str, .slice aa] (ao ZT)
theorem iX : bg 25 uT := bf Tx
def Eb (n i : Int) : LSt := { fr := aw 4 [(3, AV.nils), (5, I n), (6, I i)], hp := [], nx := 0 }
def ID (o : af) (n i : Int) : LSt := { fr := aw 4 [(3, AV.os 0 0), (5, I n), (6, I i)], hp := [(0, .arr 2 aa 0 false o)], nx := 1 }
theorem MW (m i : Int) (n : Nat) {R : Type} (k : AEx -> LSt -> Option R) : lp jP gM x8 (n + 1) (Eb m i) k = bif decide (i < m) then lp jP gM x8 n (ID [i] m (i64.wrap (i + 1))) k else k (AEx.exit 0) { fr := aw 4 [(3, AV.nils), (5, I m), (6, I i), (7, B false)], hp := [], nx := 0 } := by kernel_rfl
theorem MX (c : Int) (o : af) (m i : Int) (n : Nat) {R : Type} (k : AEx -> LSt -> Option R) : lp jP gM x8 (n + 1) (ID (c :: o) m i) k = bif decide (i < m) then (app (c :: o) [i]).bind fun v1 => lp jP gM x8 n (ID v1 m (i64.wrap (i + 1))) k else k (AEx.exit 0) { fr := aw 4 [(3, AV.os 0 0), (5, I m), (6, I i), (7, B false)], hp := [(0, aj.arr 2 (aa) 0 false (c :: o))], nx := 1 } := by kernel_rfl
noncomputable def mX : Env := (Is.add 149 (ao IC)).add 212 (ao ctF)
theorem we : mX.Good := (dM.add rB).add ZR
def oU (l : af) (r i : Int) : LSt := { fr := aw 5 [(1, I r), (5, .nils), (9, .d (.slice aa) l), (10, I (Int.ofNat l.length)), (11, I i)], hp := [], nx := 0 }
noncomputable def KAx : AEx -> LSt -> Option (aq × LHp) := (aQ 0 (aX mX gO [3] (hlp mX gO) (cR (cR (cR Wk))) (aZ prog 0 f211.results.toList ah)))
theorem MY (l : af) (r : Int) : aC mX f211 5 [(3, [1, 5, 9, 10, 11])] [.d (.slice aa) l, I r] [] ah = (hlp mX gO) ye _ (oU l r 0) KAx := (bq [3] gO rfl).trans (by obtain ⟨hl, h⟩ := bc mX gO; rw [h]; kernel_rfl)
def tB (o l : af) (r i : Int) : LSt := { fr := aw 5 [(1, I r), (5, .os 0 0), (9, .d (.slice aa) l), (10, I (Int.ofNat l.length)), (11, I i)], hp := [(0, .arr 3 aa 0 false o)], nx := 1 }
theorem MZ (l : af) (r i : Int) (n : Nat) {R : Type} (k : AEx -> LSt -> Option R) : lp mX gO ye (n + 1) (oU l r i) k = bif decide (i < Int.ofNat l.length) then (idx l i).bind fun v1 => bif qR v1 r then lp mX gO ye n (tB [kF v1 r] l r (i64.wrap (i + 1))) k else k (AEx.panic 131 4) { fr := aw 5 [(1, I r), (5, AV.nils), (7, I v1), (9, AV.d (aa).slice l), (10, I (Int.ofNat l.length)), (11, I i), (12, B true), (13, AV.ip (aa) v1), (14, I v1), (15, I v1), (16, I r)], hp := [], nx := 0 } else k (AEx.exit 0) { fr := aw 5 [(1, I r), (5, AV.nils), (9, AV.d (aa).slice l), (10, I (Int.ofNat l.length)), (11, I i), (12, B false)], hp := [], nx := 0 } := by kernel_rfl
theorem M0 (c : Int) (o l : af) (r i : Int) (n : Nat) {R : Type} (k : AEx -> LSt -> Option R) : lp mX gO ye (n + 1) (tB (c :: o) l r i) k = bif decide (i < Int.ofNat l.length) then (idx l i).bind fun v1 => bif qR v1 r then bif decide ((c :: o).length <= 9223372036854775807) then bif !!(c :: o).any fun w => kF v1 r == w then k (AEx.panic 131 4) { fr := aw 5 [(1, I r), (5, AV.os 0 0), (7, I v1), (8, I (kF v1 r)), (9, AV.d (aa).slice l), (10, I (Int.ofNat l.length)), (11, I i), (12, B true), (13, AV.ip (aa) v1), (14, I v1), (15, I v1), (16, I r), (17, I (kF v1 r)), (18, AV.os 0 0), (19, I (kF v1 r)), (20, B ((c :: o).any fun w => kF v1 r == w)), (21, B !(c :: o).any fun w => kF v1 r == w)], hp := [(0, aj.arr 3 (aa) 0 false (c :: o)), (0, aj.arr 3 (aa) 0 false (c :: o))], nx := 2 } else (app (c :: o) [kF v1 r]).bind fun v5 => lp mX gO ye n (tB v5 l r (i64.wrap (i + 1))) k else none else k (AEx.panic 131 4) { fr := aw 5 [(1, I r), (5, AV.os 0 0), (7, I v1), (9, AV.d (aa).slice l), (10, I (Int.ofNat l.length)), (11, I i), (12, B true), (13, AV.ip (aa) v1), (14, I v1), (15, I v1), (16, I r)], hp := [(0, aj.arr 3 (aa) 0 false (c :: o))], nx := 1 } else k (AEx.exit 0) { fr := aw 5 [(1, I r), (5, AV.os 0 0), (9, AV.d (aa).slice l), (10, I (Int.ofNat l.length)), (11, I i), (12, B false)], hp := [(0, aj.arr 3 (aa) 0 false (c :: o))], nx := 1 } := by kernel_rfl
def gy (N : Nat) : af := (List.range N).map Int.ofNat
def stU (m : Int) (i : Int) (o : af) : LSt := match o with
 | [] => Eb m i
 | c :: o => ID (c :: o) m i
theorem M1 {N : Nat} (hN : N <= 2147483648) : lp jP gM x8 fu (Eb (N : Int) 0) KUp = gq 2 (gy N) := by
 have hm : maxLen = 9223372036854775807 := by decide
 refine (x6 (N := N) (T := fun n s => lp jP gM x8 n s KUp) (st := stU (N : Int)) (f := fun o i => .go (o ++ [(i : Int)])) (fin := gq 2) (fun i o => o = gy i) (by omega) ?_ ?_ (a := []) rfl).trans ?_
 ·intro i o n hI hi hw hd
  subst hI
  refine .inl ⟨_, rfl, by simp [gy, List.range_succ], ?_⟩
  have hlen : (gy i).length = i := by simp [gy]
  cases ho : gy i with
  | nil =>
   show lp _ _ _ (n + 1) (Eb (N : Int) (i : Int)) _ = _
   rw [MW, aD (show (i : Int) < (N : Int) by omega), ai, hw]
   rfl
  | cons c r =>
   have j1 : (c :: r).length + [((i : Nat) : Int)].length <= lim := by rw [← ho, hlen, List.length_singleton, show lim = 4294967296 from rfl]; omega
   show lp _ _ _ (n + 1) (ID (c :: r) (N : Int) (i : Int)) _ = _
   rw [MX, aD (show (i : Int) < (N : Int) by omega), ai, dI j1, aB, hw]
   rfl
 ·intro o n hI hd
  cases o with
  | nil =>
   show lp _ _ _ (n + 1) (Eb (N : Int) (N : Int)) _ = _
   rw [MW, bU (show ¬ ((N : Int) < (N : Int)) by omega), ax]
   show _ = _
   kernel_rfl
  | cons c r =>
   show lp _ _ _ (n + 1) (ID (c :: r) (N : Int) (N : Int)) _ = _
   rw [MX, bU (show ¬ ((N : Int) < (N : Int)) by omega), ax]
   show _ = _
   kernel_rfl
 ·have : ∀ (l : List Nat) (o : af), cg (fun o i => Nx.go (R := aq × LHp) (o ++ [((i : Nat) : Int)])) (gq 2) l o = gq 2 (o ++ l.map Int.ofNat) := by
   intro l
   induction l with
   | nil => intro o; rw [cg, List.map_nil, List.append_nil]
   | cons a l ih => intro o; rw [cg]; simp only; rw [ih, List.append_assoc]; rfl
  rw [this]
  rfl
theorem Wl (m : Int) : hlp jP gM x8 (aq × LHp) (Eb m 0) KUp = lp jP gM x8 fu (Eb m 0) KUp := rfl
def ZU : List AV -> LHp -> Tq
 | [.d zI m], [] => .br (decide (0 <= m /\ m <= 2147483648)) (dat (.slice aa) (gy m.toNat)) .no
 | _, _ => .no
theorem Tz : bg 210 (ao ZU) := by
 have h1 := bD (d := 4) (l := [(3, [3, 5, 6])]) jy func210 call210
 refine aO fun args hs ae aH h' => ?_
 unfold ZU at h'
 split at h'
 ·rename_i m
  obtain ⟨hb, h2⟩ := Tq.br_no h'
  obtain ⟨h3, h4⟩ := aU hb
  obtain ⟨N, rfl⟩ := Int.eq_ofNat_of_zero_le h3
  refine h1.okO (.slice aa) (Eq.trans ?_ h2)
  refine Eq.trans (congrArg (cK _) ((Mr _).trans ((Wl _).trans (M1 (Int.ofNat_le.1 h4))))) ?_
  exact jD _ _
 ·cases h'
noncomputable def ZV : FnE := b8 [aa] (ao ZU)
theorem Gu : bg 210 ZV := bf Tz
def lC (l : af) (r : Int) : af := l.map fun a => kF a r
def eh (r : Int) : List Int -> List Int -> Bool
 | [], _ => true
 | a :: l, o => qR a r && (!(o.any fun w => kF a r == w) && eh r l (o ++ [kF a r]))
def afK (l : af) (r : Int) (i : Int) (o : af) : LSt := match o with
 | [] => oU l r i
 | c :: o => tB (c :: o) l r i
def axN (r : Int) (o : af) (a : Int) : Nx (af) (aq × LHp) := bif qR a r && !(o.any fun w => kF a r == w) then .go (o ++ [kF a r]) else .stop (some (.panic 131 4, []))
theorem Gv (r : Int) : ∀ (l o : af), cg (axN r) (gq 3) l o = bif eh r l o then gq 3 (o ++ l.map fun a => kF a r) else some (.panic 131 4, [])
 | [], o => by rw [cg, eh, List.map_nil, List.append_nil]; rfl
 | a :: l, o => by
  rw [cg, eh]
  unfold axN
  cases qR a r with
  | false => rfl
  | true =>
   cases o.any fun w => kF a r == w with
   | true => rfl
   | false =>
    show cg (axN r) _ l _ = _
    rw [Gv r l, List.append_assoc]
    rfl
theorem M3 {l : af} {r : Int} (hl : l.length <= 2147483648) : lp mX gO ye fu (oU l r 0) KAx = bif eh r l [] then gq 3 (l.map fun a => kF a r) else some (.panic 131 4, []) := by
 have hm : maxLen = 9223372036854775807 := by decide
 refine (cq (T := fun n s => lp mX gO ye n s KAx) (st := afK l r) (f := axN r) (fin := gq 3) (fun i o => o.length = i) (by omega) ?_ ?_ (a := []) rfl).trans (Gv r l [])
 ·intro i o x n hI hi gx gi hw hd
  unfold axN
  cases o with
  | nil =>
   show (∃ a', _ /\ _ /\ lp _ _ _ (n + 1) (oU l r (i : Int)) _ = _) \/ (∃ r', _ /\ lp _ _ _ (n + 1) (oU l r (i : Int)) _ = _)
   rw [MZ, hd, ai, gi, aB, hw]
   cases qR x r with
   | true => exact .inl ⟨_, rfl, by simp only [List.length_append, List.length_singleton, hI], rfl⟩
   | false => exact .inr ⟨_, rfl, by show _ = _; kernel_rfl⟩
  | cons c o =>
   have j1 : (c :: o).length + [kF x r].length <= lim := by rw [hI, List.length_singleton, show lim = 4294967296 from rfl]; omega
   show (∃ a', _ /\ _ /\ lp _ _ _ (n + 1) (tB (c :: o) l r (i : Int)) _ = _) \/ (∃ r', _ /\ lp _ _ _ (n + 1) (tB (c :: o) l r (i : Int)) _ = _)
   rw [M0, hd, ai, gi, aB, hw, dI j1, aD (show (c :: o).length <= 9223372036854775807 by rw [hI]; omega), ai]
   cases qR x r with
   | false => exact .inr ⟨_, rfl, by show _ = _; kernel_rfl⟩
   | true =>
    cases hq : (c :: o).any fun w => kF x r == w with
    | false => exact .inl ⟨_, rfl, by simp only [List.length_append, List.length_singleton, hI], rfl⟩
    | true => exact .inr ⟨_, rfl, by show _ = _; kernel_rfl⟩
 ·intro o n hI hd
  cases o with
  | nil =>
   show lp _ _ _ (n + 1) (oU l r (l.length : Int)) _ = _
   rw [MZ, hd, ax]
   show _ = _
   kernel_rfl
  | cons c o =>
   show lp _ _ _ (n + 1) (tB (c :: o) l r (l.length : Int)) _ = _
   rw [M0, hd, ax]
   show _ = _
   kernel_rfl
theorem Wm (l : af) (r : Int) : hlp mX gO ye (aq × LHp) (oU l r 0) KAx = lp mX gO ye fu (oU l r 0) KAx := rfl
def ZW : List AV -> LHp -> Tq
 | [.d zS l, .d zI r], [] => .br (decide (l.length <= 2147483648)) (.br (eh r l []) (dat (.slice aa) (lC l r)) (pnc 131 4)) .no
 | _, _ => .no
theorem TA : bg 211 (ao ZW) := by
 have h1 := bD (d := 5) (l := [(3, [1, 5, 9, 10, 11])]) we func211 call211
 refine aO fun args hs ae aH h' => ?_
 unfold ZW at h'
 split at h'
 ·rename_i l r
  obtain ⟨hb, h2⟩ := Tq.br_no h'
  refine h1.okO (.slice aa) (Eq.trans ?_ h2)
  refine Eq.trans (congrArg (cK _) ((MY _ _).trans ((Wm _ _).trans (M3 (aU hb))))) ?_
  simp only [Tq.run]
  cases eh r l [] with
  | true => exact jD _ _
  | false => rfl
 ·cases h'
noncomputable def ZX : FnE := b8 [.slice aa, aa] (ao ZW)
theorem Gw : bg 211 ZX := bf TA
def tC (op : ak) (t : Int) : Option (aq × LHp) := bif t == 1 then bif op == K5 then az [I 2147483648, I 0] else bif op == Ii then az [I 0, I 0] else bif op == QO then az [I 0, I 0] else bif op == QP then az [I 0, I 0] else bif op == QQ then az [I 0, I 0] else bif op == [69, 120, 112] then az [I 1065353216, I 0] else bif op == QR then az [I 1056964608, I 0] else bif op == QS then az [I 0, I 0] else az [I 0, I 1] else az [I 0, I 1]
def l8 (op : ak) (t : Int) : Option (aq × LHp) := bif op == Ii then bif t == 6 then az [I 0, I 0] else bif t == 7 then az [I 0, I 0] else (tC op t) else (tC op t)
def tD (op : ak) (t : Int) : Option (aq × LHp) := bif op == Ii then bif t == 6 then (l8 op t) else bif t == 7 then (l8 op t) else (l8 op t) else (l8 op t)
def tE (op : ak) (t : Int) : Option (aq × LHp) := bif op == K5 then bif t == 6 then bif t == 6 then az [I 0, I 0] else az [I 0, I 0] else bif t == 7 then bif t == 6 then az [I 0, I 0] else az [I 0, I 0] else (tD op t) else (tD op t)
theorem ZY (op : ak) (t : Int) : aC X1 f146 7 [] [.d .str op, I t, I 0] [] ah = bif !bS t 0 then az [I 0, I 1] else bif op == QT then az [I 0, I 0] else bif op == [78, 111, 116] then bif t == 9 then az [I 1, I 0] else (tE op t) else (tE op t) := by kernel_rfl
def pW (op : ak) (t : Int) : Option (aq × LHp) := bif op == QH then bif t == 6 then az [I 0, I 0] else az [I 0, I 0] else bif op == QI then bif t == 6 then az [I 0, I 0] else az [I 0, I 0] else bif op == QJ then bif t == 6 then az [I 0, I 0] else az [I 0, I 0] else bif op == QK then az [I 0, I 7] else bif op == QL then az [I 0, I 0] else bif op == QM then az [I 0, I 0] else bif op == uP then az [I 1, I 0] else bif op == xH then az [I 0, I 0] else bif op == xI then az [I 0, I 0] else az [I 0, I 1]
theorem TB (op : ak) (t : Int) : aC X0 f111 7 [] [.d .str op, I t, I 0, I 0] [] ah = bif !bS t 0 then az [I 0, I 1] else bif !bS t 0 then az [I 0, I 1] else bif t == 6 then (pW op t) else bif t == 7 then (pW op t) else bif t == 1 then bif op == QH then az [I 0, I 0] else bif op == QI then az [I 0, I 0] else bif op == QJ then az [I 0, I 0] else bif op == QK then az [I 2143289344, I 0] else bif op == uP then az [I 1, I 0] else bif op == xH then az [I 0, I 0] else bif op == xI then az [I 0, I 0] else bif op == QL then az [I 0, I 0] else bif op == QM then az [I 0, I 0] else az [I 0, I 1] else bif op == V7 then az [I 0, I 0] else bif op == [79, 114] then az [I 0, I 0] else bif op == V8 then az [I 0, I 0] else bif op == uP then az [I 1, I 0] else az [I 0, I 1] := by kernel_rfl
theorem M4 {α : Type} {c : Bool} {a b : Option α} (h1 : a.isSome = true) (h2 : b.isSome = true) : (bif c then a else b).isSome = true := by
 cases c with
 | true => exact h1
 | false => exact h2
def ns (r : Option (aq × LHp)) : Option (Int × Int) := match r with
 | some (.ret [.d (.int .i64) a, .d (.int .i64) b], []) => some (a, b)
 | _ => none
theorem tF {r : Option (aq × LHp)} (h : (ns r).isSome = true) : r = some (.ret [I ((ns r).getD (0, 0)).1, I ((ns r).getD (0, 0)).2], []) := by
 unfold ns at h ⊢
 split at h
 ·rfl
 ·cases h
theorem wg (c : Bool) (a b : Option (aq × LHp)) : ns (bif c then a else b) = bif c then ns a else ns b := by cases c <;> rfl
theorem wh (a b : Int) : ns (some (.ret [I a, I b], [])) = some (a, b) := rfl
noncomputable def k9 (op : ak) (t : Int) : Int × Int := (ns (aC X1 f146 7 [] [.d .str op, I t, I 0] [] ah)).getD (0, 0)
noncomputable def IE (op : ak) (t : Int) : Int × Int := (ns (aC X0 f111 7 [] [.d .str op, I t, I 0, I 0] [] ah)).getD (0, 0)
theorem TC (op : ak) (t : Int) : aC X1 f146 7 [] [.d .str op, I t, I 0] [] ah = some (.ret [I (k9 op t).1, I (k9 op t).2], []) := by
 refine tF ?_
 rw [ZY]
 simp only [tC, l8, tD, tE]
 simp only [wg, wh]
 repeat' (first | rfl | refine M4 ?_ ?_)
theorem M5 (op : ak) (t : Int) : aC X0 f111 7 [] [.d .str op, I t, I 0, I 0] [] ah = some (.ret [I (IE op t).1, I (IE op t).2], []) := by
 refine tF ?_
 rw [TB]
 simp only [pW]
 simp only [wg, wh]
 repeat' (first | rfl | refine M4 ?_ ?_)
noncomputable def TD : List AV -> LHp -> Tq
 | [.d .str op, .d zI t, .d zI x], [] => .br (x == 0) (.leaf (.ret [I (k9 op t).1, I (k9 op t).2]) []) .no
 | _, _ => .no
theorem Gx : bg 146 (ao TD) := by
 have h1 : bg 146 (au X1 f146 7 []) := FP
 refine aO fun args hs ae aH h' => ?_
 unfold TD at h'
 split at h'
 ·obtain ⟨hb, h2⟩ := Tq.br_no h'
  obtain rfl := eq_of_beq hb
  exact h1.okC ((TC _ _).trans h2)
 ·cases h'
noncomputable def M6 : List AV -> LHp -> Tq
 | [.d .str op, .d zI t, .d zI x, .d zI y], [] => .br (x == 0) (.br (y == 0) (.leaf (.ret [I (IE op t).1, I (IE op t).2]) []) .no) .no
 | _, _ => .no
theorem M7 : bg 111 (ao M6) := by
 have h1 : bg 111 (au X0 f111 7 []) := FO
 refine aO fun args hs ae aH h' => ?_
 unfold M6 at h'
 split at h'
 ·obtain ⟨hb, h2⟩ := Tq.br_no h'
  obtain ⟨hc, h3⟩ := Tq.br_no h2
  obtain rfl := eq_of_beq hb
  obtain rfl := eq_of_beq hc
  exact h1.okC ((M5 _ _).trans h3)
 ·cases h'
noncomputable def Gy : Code := bd f251
noncomputable def TE : Code := cL (cL (cR (cL (cR Gy))))
noncomputable def iM : Cfg := ⟨19, 5, 1, [(2, [0, 1, 7, 8])], true⟩
def uU (t : Int) : LHp := [(0, .box (I t))]
theorem ZZ (v : (Y3).den) (t : Int) : aC g69 f209 4 [] [.d (Y3) v, .op 0 [] 0] (uU t) ah = some (aq.ret [B (v.2.1 != t)], [(0, aj.box (I t))]) := by kernel_rfl
def Z0 : List AV -> LHp -> Option (aq × LHp)
 | [.d Y3 v, .op 0 [] 0], [(0, .box (.d zI t))] => some (.ret [B (v.2.1 != t)], uU t)
 | _, _ => none
theorem TF : bg 209 (fnE Z0) := by
 refine gL tj bO func209 call209 (depth := 4) (live := []) (by decide +kernel) rfl fun args hs p h => ?_
 unfold Z0 at h
 split at h
 ·cases h
  exact ZZ _ _
 ·cases h
noncomputable def Gz : Env := uw.add 209 (fnE Z0)
theorem M8 : Gz.Good := fw.add TF
def M9 (vs : b5) (t : Int) (i : Int) : LSt := ⟨aw 5 [(0, .d (.slice (Y3)) vs), (1, .fn (.func 209) [] [.op 0 [] 0]), (7, I (Int.ofNat vs.length)), (8, I i)], uU t, 2⟩
theorem Z1 (vs : b5) (t : Int) : aC Gz f251 5 [(2, [0, 1, 7, 8])] [.d (.slice (Y3)) vs, .fn (.func 209) [] [.op 0 [] 0]] (uU t) ah = (hlp Gz iM) TE _ (M9 vs t 0) (aQ 0 (aX Gz iM [2] (hlp Gz iM) (cR (cR Gy)) (aZ prog 1 f251.results.toList ah))) := (bq [2] iM rfl).trans (by obtain ⟨hl, h⟩ := bc Gz iM; rw [h]; kernel_rfl)
theorem Z2 (vs : b5) (t : Int) (i : Int) (n : Nat) {R : Type} (k : AEx -> LSt -> Option R) : lp Gz iM TE (n + 1) (M9 vs t i) k = bif decide (i < Int.ofNat vs.length) then (idx vs i).bind fun v1 => bif v1.2.1 != t then k AEx.ret { fr := aw 5 [(0, AV.d Y3.slice vs), (1, AV.fn (Fn.func 209) [] [AV.op 0 [] 0]), (4, I i), (5, I i), (7, I (Int.ofNat vs.length)), (8, I i), (9, B true), (10, I i), (11, AV.fn (Fn.func 209) [] [AV.op 0 [] 0]), (12, AV.d Y3.slice vs), (13, I i), (14, AV.ip Y3 v1), (15, AV.d Y3 v1), (16, B true), (17, I i)], hp := [(0, aj.box (I t)), (0, aj.box (I t))], nx := 3 } else lp Gz iM TE n (M9 vs t (i64.wrap (i + 1))) k else k (AEx.exit 0) { fr := aw 5 [(0, AV.d Y3.slice vs), (1, AV.fn (Fn.func 209) [] [AV.op 0 [] 0]), (7, I (Int.ofNat vs.length)), (8, I i), (9, B false)], hp := [(0, aj.box (I t))], nx := 2 } := by kernel_rfl
theorem TG {vs : b5} {t : Int} (hl : vs.length <= maxLen) : aC Gz f251 5 [(2, [0, 1, 7, 8])] [.d (.slice (Y3)) vs, .fn (.func 209) [] [.op 0 [] 0]] (uU t) ah = some (.ret [I (bk (fun v => v.2.1 != t) vs)], uU t) := by
 rw [Z1]
 have hs := fun (i : Int) (n : Nat) => Z2 vs t i n (aQ 0 (aX Gz iM [2] (hlp Gz iM) (cR (cR Gy)) (aZ prog 1 f251.results.toList ah)))
 have h := fx (T := fun n s => lp Gz iM TE n s (aQ 0 (aX Gz iM [2] (hlp Gz iM) (cR (cR Gy)) (aZ prog 1 f251.results.toList ah)))) (xs := vs) (st := fun i => M9 vs t i) hl hs
 unfold M9 uU at h
 refine h.trans ?_
 unfold bk
 cases hq : vs.findIdx? (fun v => v.2.1 != t) with
 | none => show _ = _; kernel_rfl
 | some i =>
  obtain ⟨hi, _⟩ := List.findIdx?_eq_some_iff_getElem.1 hq
  simp only [List.getElem?_eq_getElem hi, aB]
  show _ = _
  kernel_rfl
def Z3 : List AV -> LHp -> Tq
 | [.d (.slice Y3) vs, .fn (.func 209) [] [.op 0 [] 0]], [(0, .box (.d zI t))] => .br (decide (vs.length <= maxLen)) (.leaf (.ret [I (bk (fun v => v.2.1 != t) vs)]) (uU t)) .no
 | _, _ => .no
theorem TH : bg 251 (ao Z3) := by
 refine bW M8 bO func251 call251 (depth := 5) (live := [(2, [0, 1, 7, 8])]) (by decide +kernel) rfl fun args hs p h => ?_
 unfold Z3 at h
 split at h
 ·obtain ⟨hl, h⟩ := Tq.br_no h
  cases h
  have hl := aU hl
  exact TG hl
 ·cases h
noncomputable def afM : Env := uw.add 251 (ao Z3)
theorem IF : afM.Good := fw.add TH
theorem Z4 (vs : b5) (t : Int) : aC afM f208 4 [] [.d (.slice (Y3)) vs, .fn (.func 209) [] [.op 0 [] 0]] (uU t) ah = bif decide (vs.length <= 9223372036854775807) then some (aq.ret [B (decide (bk (fun v => v.snd.fst != t) vs >= 0))], [(0, aj.box (I t))]) else none := by kernel_rfl
def Z5 : List AV -> LHp -> Tq
 | [.d (.slice Y3) vs, .fn (.func 209) [] [.op 0 [] 0]], [(0, .box (.d zI t))] => .br (decide (vs.length <= maxLen)) (.leaf (.ret [B (vs.any fun v => v.2.1 != t)]) (uU t)) .no
 | _, _ => .no
theorem TI : bg 208 (ao Z5) := by
 have h1 := bD (d := 4) (l := []) IF func208 call208
 refine aO fun args hs ae aH h' => ?_
 unfold Z5 at h'
 split at h'
 ·refine h1.okC ((Z4 _ _).trans ?_)
  rw [oT]
  exact h'
 ·cases h'
noncomputable def gAk : Env := uw.add 208 (ao Z5)
theorem Na : gAk.Good := fw.add TI
abbrev fD (n : (Y2).den) (vs : b5) : AV := .d (Y4) (n, vs, ())
theorem Z6 (n : (Y2).den) (vs : b5) (t : Int) : aC gAk f147 4 [] [fD n vs, I t] [] ah = bif decide (vs.length <= 9223372036854775807) then az [B !vs.any fun v => v.snd.fst != t] else none := by kernel_rfl
def tG (vs : b5) (t : Int) : Bool := !vs.any fun v => v.2.1 != t
def Z7 : List AV -> LHp -> Tq
 | [.d Y4 (_, vs, _), .d zI t], [] => .br (decide (vs.length <= maxLen)) (.leaf (.ret [B (tG vs t)]) []) .no
 | _, _ => .no
theorem TJ : bg 147 (ao Z7) := by
 have h1 := bD (d := 4) (l := []) Na func147 call147
 refine aO fun args hs ae aH h' => ?_
 unfold Z7 at h'
 split at h'
 ·exact h1.okC ((Z6 _ _ _).trans h')
 ·cases h'
end
end Go.Proofs.XRT
namespace Go.Vm
def tH : aq -> Bool
 | .ret [.nils] => true
 | .ret [.emp] => true
 | _ => false
def IG (T : TypeId) (e : Ty) (g : FnE) : FnE := { run := fun args hs k => g.run args hs fun ae aH => bif tH ae then (bif cj aH.length aH then k (.ret [.os aH.length 0]) (aH ++ [(aH.length, .arr T e 0 false [])]) else none) else k ae aH }
theorem Nb {hp : LHp} (h : cj hp.length hp = true) {o : Nat} (ho : hp.length <= o) : aA hp o = none := by
 cases hq : aA hp o with
 | none => rfl
 | some ob => exact absurd (cb h o ob hq) (by omega)
theorem kG : ∀ (hp : LHp) (n : Nat) (ob : aj) (o : Nat), aA (hp ++ [(n, ob)]) o = (match aA hp o with | some x => some x | none => bif Nat.beq n o then some ob else none)
 | [], n, ob, o => by
  simp only [List.nil_append, aA]
 | (a, x) :: r, n, ob, o => by
  simp only [List.cons_append, aA]
  cases Nat.beq a o with
  | true => rfl
  | false => exact kG r n ob o
theorem pX {P : Program} {Γ : Nat -> Option AV} {f : FuncId} {T : TypeId} {e : Ty} {g : FnE} (hg : FnE.OK P Γ f g) : FnE.OK P Γ f (IG T e g) := by
 refine ⟨fun args hs k => ?_, fun args hs ae2 nc h => ?_⟩
 ·simp only [IG]
  rw [hg.eq]
  conv => rhs; rw [hg.eq]
  cases g.run args hs (fun a h => some (a, h)) with
  | none => rfl
  | some p =>
   obtain ⟨ae, aH⟩ := p
   simp only [aB]
   cases tH ae with
   | false => rfl
   | true => cases cj aH.length aH <;> rfl
 ·simp only [IG] at h
  obtain ⟨ae, aH, hrun, h⟩ := hg.nat _ _ _ _ h
  have hF := hg.ok _ _ _ _ hrun
  clear hrun
  cases hE : tH ae with
  | false => rw [hE, ax] at h; cases h; exact hF
  | true =>
   rw [hE, ai] at h
   cases hB : cj aH.length aH with
   | false => rw [hB] at h; cases h
   | true =>
    rw [hB, ai] at h
    cases h
    refine ⟨hF.1, fun W im μ vals himLt hglob hinv hrep => ?_⟩
    refine (hF.2 W im μ vals himLt hglob hinv hrep).mono ?_
    rintro ed w' ⟨nd, h1, bI, bh, ⟨rfl, rfl⟩, S, he⟩
    obtain ⟨v, a, e1, e2, e3⟩ : ∃ (v : Value) (a : Option Addr), ed = .returned v /\ v.cells.toList = [.slice a 0 0] /\ aY v = false := by
     unfold tH at hE
     split at hE
     ·obtain ⟨v, g1, g2, g3⟩ := he
      simp only [RepA] at g2
      exact ⟨v, none, g1, g2, g3⟩
     ·obtain ⟨v, g1, g2, g3⟩ := he
      simp only [RepA] at g2
      obtain ⟨a, g2⟩ := g2
      exact ⟨v, a, g1, g2, g3⟩
     ·cases hE
    have hnew : aA aH aH.length = none := Nb hB (Nat.le_refl _)
    have gold : ∀ o ob, aA aH o = some ob -> aA (aH ++ [(aH.length, .arr T e 0 false [])]) o = some ob := fun o ob ho => by rw [kG, ho]
    have gnew : aA (aH ++ [(aH.length, .arr T e 0 false [])]) aH.length = some (.arr T e 0 false []) := by rw [kG, hnew, Nat.beq_refl]; rfl
    have gno : ∀ o, aA (aH ++ [(aH.length, .arr T e 0 false [])]) o = none -> aA aH o = none /\ o ≠ aH.length := fun o ho => by
     rw [kG] at ho
     cases hq : aA aH o with
     | some x => rw [hq] at ho; cases ho
     | none =>
      refine ⟨rfl, fun h => ?_⟩
      subst h
      rw [hq, Nat.beq_refl] at ho
      cases ho
    have gcase : ∀ o ob, aA (aH ++ [(aH.length, .arr T e 0 false [])]) o = some ob -> aA aH o = some ob \/ (o = aH.length /\ ob = .arr T e 0 false []) := fun o ob ho => by
     rw [kG] at ho
     cases hq : aA aH o with
     | some x => rw [hq] at ho; exact .inl ho
     | none =>
      rw [hq] at ho
      cases hb : Nat.beq aH.length o with
      | false => rw [hb] at ho; cases ho
      | true =>
       rw [hb] at ho
       cases ho
       exact .inr ⟨(bj hb).symm, rfl⟩
    have j2 : ∀ o ob, aA aH o = some ob -> o ≠ aH.length := fun o ob ho h => by subst h; rw [hnew] at ho; cases ho
    obtain ⟨Ht, m1, m2⟩ : ∃ Ht : Mu, (∀ o, o ≠ aH.length -> Ht o = bh o) /\ Ht aH.length = Pl.nil a := ⟨fun o => if o = aH.length then Pl.nil a else bh o, fun o h => if_neg h, if_pos rfl⟩
    have mb : ∀ o b, (Ht o).blk = some b -> o ≠ aH.length /\ (bh o).blk = some b := fun o b h => by
     by_cases ho : o = aH.length
     ·rw [ho, m2] at h; cases h
     ·exact ⟨ho, by rwa [m1 o ho] at h⟩
    have ev : Ev w' bI bh (aA aH) w' bI Ht (aA (aH ++ [(aH.length, .arr T e 0 false [])])) :=
     ⟨fun _ h => h, fun _ _ => rfl, fun o ob ho => ⟨ob, gold o ob ho, by rw [m1 o (j2 o ob ho)]; exact cA.refl _ _⟩⟩
    refine ⟨_, _, bI, Ht, ⟨rfl, rfl⟩, ⟨S.os, S.tape, S.output, S.grow, S.old, S.imSub, S.imNew, S.imLt, fun o b hb => S.own o b (mb o b hb).2, fun o ob ho => ?_, ⟨fun o b hb => S.inv.sep o b (mb o b hb).2, fun o o' b g1 g2 => S.inv.inj o o' b (mb o b g1).2 (mb o' b g2).2, fun o ho => ?_, fun o ob ho => ?_⟩⟩, v, e1, ?_, e3⟩
    ·obtain ⟨ct, g1, g2⟩ := S.fob o ob ho
     exact ⟨ct, gold o ct g1, by rw [m1 o (j2 o ct g1)]; exact g2⟩
    ·obtain ⟨g1, g2⟩ := gno o ho
     rw [m1 o g2]
     exact S.inv.dom o g1
    ·rcases gcase o ob ho with g1 | ⟨rfl, rfl⟩
     ·rw [m1 o (j2 o ob g1)]
      exact (S.inv.obj o ob g1).ev ev fun _ _ => rfl
     ·exact .inl ⟨a, m2, rfl⟩
    ·simp only [RepA]
     refine ⟨T, e, 0, false, [], gnew, Nat.le_refl _, .slice a 0 0, e2, rfl, fun _ => ?_⟩
     rw [m2]
     rfl
end Go.Vm
set_option maxRecDepth 100000
set_option maxHeartbeats 4000000
namespace Go.Proofs.XRT
open Go.Vm Go Tryz IntKind
noncomputable section
theorem Z8 (a : Int) (d : af) : aC uw f107 4 [] [.d (.slice aa) (a :: d)] [] ah = (app [] (a :: d)).bind fun v0 => some (aq.ret [AV.os 0 0], [(0, aj.arr 3 (aa) 0 false v0)]) := by kernel_rfl
def uV : List AV -> LHp -> Tq
 | [.d zS xs], [] => .br (decide (xs.length <= 2147483648)) (.leaf (.ret [.os 0 0]) [(0, .arr 3 aa 0 false xs)]) .no
 | _, _ => .no
theorem jY : bg 107 (ao uV) := by
 have h2 : bg 107 (IG 3 aa (au uw f107 4 [])) := pX (bD fw func107 call107)
 have h1 : bg 107 (IG 3 aa Sf) := pX xX
 refine aO fun args hs ae aH h' => ?_
 unfold uV at h'
 split at h'
 ·rename_i xs
  obtain ⟨hb, h3⟩ := Tq.br_no h'
  cases h3
  cases xs with
  | nil => exact h1.ok _ _ _ _ rfl
  | cons a d =>
   refine h2.ok _ _ _ _ ?_
   simp only [IG]
   have h4 := bD fw func107 call107 (l := []) (d := 4)
   rw [h4.eq]
   have e : (au uw f107 4 []).run [.d (.slice aa) (a :: d)] [] (fun a h => some (a, h)) = some (.ret [.os 0 0], [(0, .arr 3 aa 0 false (a :: d))]) := (Z8 a d).trans (by rw [St (aU hb)]; rfl)
   rw [e]
   rfl
 ·cases h'
noncomputable def Nc : Code := bd f215
noncomputable def yf : Code := cL (cL (cR (cL (cR (cR (cR Nc))))))
noncomputable def fE : Cfg := ⟨47, 6, 0, [(4, [3, 4, 5, 14, 21, 22, 23])], true⟩
noncomputable def Wn : Code := bd f150
noncomputable def lb : Code := cL (cL (cR (cL (cR (cR (cR (cR (cR (cR (cR Wn))))))))))
noncomputable def cX : Cfg := ⟨63, 6, 0, [(9, [6, 7, 8, 39, 40, 41])], true⟩
noncomputable def Nd : Code := bd f216
noncomputable def fF : Code := cL (cL (cR (cL (cR (cR (cR Nd))))))
noncomputable def bF : Cfg := ⟨80, 7, 0, [(4, [1, 5, 6, 7, 13, 14, 15])], true⟩
noncomputable def Nf : Code := bd f219
noncomputable def Ec : Code := cL (cL (cR (cL (cR (cR (cR (cR (cR Nf))))))))
noncomputable def gP : Cfg := ⟨78, 7, 0, [(6, [1, 5, 6, 8, 41, 42, 43])], true⟩
noncomputable def wi : Code := bd f218
noncomputable def qS : Code := cL (cL (cR (cL (cR (cR (cR wi))))))
noncomputable def BR : Code := cL (cL (cR (cR (cR (cL (cL (cR (cR (cL (cL (cR (cL (cR (cR (cR wi)))))))))))))))
noncomputable def bQ : Cfg := ⟨62, 6, 0, [(4, [1, 5, 6, 21, 22, 23]), (8, [1, 5, 6, 21, 22, 23, 35, 36, 37])], true⟩
noncomputable def Ng : Code := bd f217
noncomputable def yg : Code := cL (cL (cR (cL (cR (cR (cR (cR (cR Ng))))))))
noncomputable def fG : Cfg := ⟨47, 6, 0, [(6, [1, 6, 7, 24, 25, 26])], true⟩
noncomputable def Nh : Code := bd f221
noncomputable def Ed : Code := cL (cL (cR (cL (cR (cR (cR Nh))))))
noncomputable def gQ : Cfg := ⟨41, 6, 0, [(4, [1, 5, 6, 17, 18])], true⟩
noncomputable def mY : Env := Is.add 25 uT
theorem IH : mY.Good := dM.add iX
noncomputable def afN : Env := (((Is.add 25 uT).add 210 ZV).add 211 ZX).add 59 (ao qO)
theorem II : afN.Good := (((dM.add iX).add Gu).add Gw).add ig
noncomputable def dP : Env := D2.add 25 uT
theorem IJ : dP.Good := kC.add iX
noncomputable def afO : Env := (((g77.add 25 uT).add 210 ZV).add 211 ZX).add 107 (ao uV)
theorem IK : afO.Good := (((tm.add iX).add Gu).add Gw).add jY
theorem Z9 (op nm : ak) (ins : List (ak)) (out : ak) (ag : bn) (name : ak) (ot : af) (c lo hi : Int) : aC mY f215 6 [(4, [3, 4, 5, 14, 21, 22, 23])] [cO op nm ins out ag, .d .str name, .d (.slice aa) ot, I c, I lo, I hi] [] ah = bif aF ag then bif decide (ot.length <= 2147483648) then (hlp mY fE) yf _ { fr := aw 6 [(3, I c), (4, I lo), (5, I hi), (14, AV.nils), (21, AV.d (aa).slice (al ag name ot)), (22, I (Int.ofNat (al ag name ot).length)), (23, I 0)], hp := [], nx := 0 } (aQ 0 (aX mY fE [4] (hlp mY fE) (cR (cR (cR (cR Nc)))) (aZ prog 0 f215.results.toList ah))) else none else none := (bq [4] fE rfl).trans (by obtain ⟨hl, h⟩ := bc mY fE; rw [h]; kernel_rfl)
theorem aaa (op nm : ak) (ins : List (ak)) (out : ak) (ag : bn) (vs : b5) (xs : af) : aC dP f216 7 [(4, [1, 5, 6, 7, 13, 14, 15])] [fD (op, nm, ins, out, ag, ()) vs, .d (.slice aa) xs] [] ah = bif aF ag then (hlp dP bF) fF _ { fr := aw 7 [(1, AV.d (aa).slice xs), (5, I (-1)), (6, I 1), (7, AV.nils), (13, AV.d (aa).slice (al ag qK [])), (14, I (Int.ofNat (al ag qK []).length)), (15, I 0)], hp := [], nx := 0 } (aQ 0 (aX dP bF [4] (hlp dP bF) (cR (cR (cR (cR Nd)))) (aZ prog 0 f216.results.toList ah))) else none := (bq [4] bF rfl).trans (by obtain ⟨hl, h⟩ := bc dP bF; rw [h]; kernel_rfl)
abbrev BX (n : (Y2).den) (vs : b5) : AV := .d (Y4) (n, vs, ())
noncomputable def gWd : Env := Is.add 215 (ao nuF)
theorem BY : gWd.Good := dM.add L8
theorem aaB (op nm : ak) (ins : List (ak)) (out : ak) (ag : bn) (vs : b5) (a b h w kh kw : Int) : aC gWd f214 5 [] [BX (op, nm, ins, out, ag, ()) vs, .d (.slice aa) [a, b, h, w], .d (.slice aa) [kh, kw]] [] ah = bif decide (ag.length <= 9223372036854775807 /\ (al ag kz [1, 1]).length <= 2147483648) then bif cJ 2 1 100 (al ag kz [1, 1]) then bif decide (ag.length <= 9223372036854775807 /\ (al ag dq [0, 0, 0, 0]).length <= 2147483648) then bif cJ 4 0 100 (al ag dq [0, 0, 0, 0]) then bif decide (ag.length <= 9223372036854775807 /\ (al ag kA [1, 1]).length <= 2147483648) then bif cJ 2 1 100 (al ag kA [1, 1]) then (idx (al ag dq [0, 0, 0, 0]) 0).bind fun v6 => ((al ag dq [0, 0, 0, 0])[0]?).bind fun v7 => (idx (al ag dq [0, 0, 0, 0]) 2).bind fun v8 => ((al ag dq [0, 0, 0, 0])[2]?).bind fun v9 => (idx (al ag kA [1, 1]) 0).bind fun v10 => ((al ag kA [1, 1])[0]?).bind fun v11 => bif !decide (i64.wrap (i64.wrap (i64.wrap (i64.wrap (h + v7) + v9) - i64.wrap (v11 * i64.wrap (kh - 1))) - 1) >= 0) then aV else (idx (al ag kz [1, 1]) 0).bind fun v13 => ((al ag kz [1, 1])[0]?).bind fun C4 => (if C4 = 0 then none else some (i64.wrap ((i64.wrap (i64.wrap (i64.wrap (i64.wrap (h + v7) + v9) - i64.wrap (v11 * i64.wrap (kh - 1))) - 1)).tdiv C4))).bind fun v15 => (idx (al ag dq [0, 0, 0, 0]) 1).bind fun v16 => ((al ag dq [0, 0, 0, 0])[1]?).bind fun va => (idx (al ag dq [0, 0, 0, 0]) 3).bind fun v18 => ((al ag dq [0, 0, 0, 0])[3]?).bind fun v19 => (idx (al ag kA [1, 1]) 1).bind fun v20 => ((al ag kA [1, 1])[1]?).bind fun v21 => bif !decide (i64.wrap (i64.wrap (i64.wrap (i64.wrap (w + va) + v19) - i64.wrap (v21 * i64.wrap (kw - 1))) - 1) >= 0) then aV else (idx (al ag kz [1, 1]) 1).bind fun v23 => ((al ag kz [1, 1])[1]?).bind fun v24 => (if v24 = 0 then none else some (i64.wrap ((i64.wrap (i64.wrap (i64.wrap (i64.wrap (w + va) + v19) - i64.wrap (v21 * i64.wrap (kw - 1))) - 1)).tdiv v24))).bind fun v25 => az [I (i64.wrap (v15 + 1)), I (i64.wrap (v25 + 1))] else aV else none else aV else none else aV else none := by kernel_rfl
theorem aaC (op nm : ak) (ins : List (ak)) (out : ak) (ag : bn) (vs : b5) (a b h w kh kw : Int) : aC gWd f214 5 [] [BX (op, nm, ins, out, ag, ()) vs, .d (.slice aa) [a, b, h, w], .os 0 0] [(0, .arr 3 aa 0 false [kh, kw])] ah = bif decide (ag.length <= 9223372036854775807 /\ (al ag kz [1, 1]).length <= 2147483648) then bif cJ 2 1 100 (al ag kz [1, 1]) then bif decide (ag.length <= 9223372036854775807 /\ (al ag dq [0, 0, 0, 0]).length <= 2147483648) then bif cJ 4 0 100 (al ag dq [0, 0, 0, 0]) then bif decide (ag.length <= 9223372036854775807 /\ (al ag kA [1, 1]).length <= 2147483648) then bif cJ 2 1 100 (al ag kA [1, 1]) then (idx (al ag dq [0, 0, 0, 0]) 0).bind fun v6 => ((al ag dq [0, 0, 0, 0])[0]?).bind fun v7 => (idx (al ag dq [0, 0, 0, 0]) 2).bind fun v8 => ((al ag dq [0, 0, 0, 0])[2]?).bind fun v9 => (idx (al ag kA [1, 1]) 0).bind fun v10 => ((al ag kA [1, 1])[0]?).bind fun v11 => bif !decide (i64.wrap (i64.wrap (i64.wrap (i64.wrap (h + v7) + v9) - i64.wrap (v11 * i64.wrap (kh - 1))) - 1) >= 0) then some (aq.panic 131 4, [(0, aj.arr 3 (aa) 0 false [kh, kw])]) else (idx (al ag kz [1, 1]) 0).bind fun v13 => ((al ag kz [1, 1])[0]?).bind fun C4 => (if C4 = 0 then none else some (i64.wrap ((i64.wrap (i64.wrap (i64.wrap (i64.wrap (h + v7) + v9) - i64.wrap (v11 * i64.wrap (kh - 1))) - 1)).tdiv C4))).bind fun v15 => (idx (al ag dq [0, 0, 0, 0]) 1).bind fun v16 => ((al ag dq [0, 0, 0, 0])[1]?).bind fun va => (idx (al ag dq [0, 0, 0, 0]) 3).bind fun v18 => ((al ag dq [0, 0, 0, 0])[3]?).bind fun v19 => (idx (al ag kA [1, 1]) 1).bind fun v20 => ((al ag kA [1, 1])[1]?).bind fun v21 => bif !decide (i64.wrap (i64.wrap (i64.wrap (i64.wrap (w + va) + v19) - i64.wrap (v21 * i64.wrap (kw - 1))) - 1) >= 0) then some (aq.panic 131 4, [(0, aj.arr 3 (aa) 0 false [kh, kw])]) else (idx (al ag kz [1, 1]) 1).bind fun v23 => ((al ag kz [1, 1])[1]?).bind fun v24 => (if v24 = 0 then none else some (i64.wrap ((i64.wrap (i64.wrap (i64.wrap (i64.wrap (w + va) + v19) - i64.wrap (v21 * i64.wrap (kw - 1))) - 1)).tdiv v24))).bind fun v25 => some (aq.ret [I (i64.wrap (v15 + 1)), I (i64.wrap (v25 + 1))], [(0, aj.arr 3 (aa) 0 false [kh, kw])]) else some (aq.panic 131 4, [(0, aj.arr 3 (aa) 0 false [kh, kw])]) else none else some (aq.panic 131 4, [(0, aj.arr 3 (aa) 0 false [kh, kw])]) else none else some (aq.panic 131 4, [(0, aj.arr 3 (aa) 0 false [kh, kw])]) else none := by kernel_rfl
noncomputable def GK : Code := bd f49
noncomputable def Uc : Code := cL (cL (cR (cL (cR GK))))
noncomputable def iO : Cfg := ⟨19, 5, 0, [(2, [0, 1, 7, 8])], true⟩
theorem aaN (a : (Y1).den) : aC g16 f206 3 [] [.d (Y1) a] [] ah = az [B (a.1 == QN)] := by kernel_rfl
def fM (a : (Y1).den) : Bool := a.1 == jC
def aaO : List AV -> LHp -> Option (aq × LHp)
 | [.d Y1 a], [] => some (.ret [B (fM a)], [])
 | _, _ => none
theorem Ud : bg 206 (fnE aaO) := by
 refine gL tg bO func206 call206 (depth := 3) (live := []) (by decide +kernel) rfl fun args hs p h => ?_
 unfold aaO at h
 split at h
 ·cases h
  exact aaN _
 ·cases h
noncomputable def GL : Env := g17.add 206 (fnE aaO)
theorem NN : GL.Good := oK.add Ud
def NO (bs : bn) (i : Int) : LSt := ⟨aw 5 [(0, .d (.slice (Y1)) bs), (1, .fn (.func 206) [] []), (7, I (Int.ofNat bs.length)), (8, I i)], [], 0⟩
theorem aaP (bs : bn) : aC GL f49 5 [(2, [0, 1, 7, 8])] [.d (.slice (Y1)) bs, .fn (.func 206) [] []] [] ah = (hlp GL iO) Uc _ (NO bs 0) (aQ 0 (aX GL iO [2] (hlp GL iO) (cR (cR GK)) (aZ prog 0 f49.results.toList ah))) := (bq [2] iO rfl).trans (by obtain ⟨hl, h⟩ := bc GL iO; rw [h]; kernel_rfl)
theorem aaQ (bs : bn) (i : Int) (n : Nat) {R : Type} (k : AEx -> LSt -> Option R) : lp GL iO Uc (n + 1) (NO bs i) k = bif decide (i < Int.ofNat bs.length) then (idx bs i).bind fun v1 => bif fM v1 then k AEx.ret { fr := aw 5 [(0, AV.d Y1.slice bs), (1, AV.fn (Fn.func 206) [] []), (4, I i), (5, I i), (7, I (Int.ofNat bs.length)), (8, I i), (9, B true), (10, I i), (11, AV.fn (Fn.func 206) [] []), (12, AV.d Y1.slice bs), (13, I i), (14, AV.ip Y1 v1), (15, AV.d Y1 v1), (16, B true), (17, I i)], hp := [], nx := 0 } else lp GL iO Uc n (NO bs (i64.wrap (i + 1))) k else k (AEx.exit 0) { fr := aw 5 [(0, AV.d Y1.slice bs), (1, AV.fn (Fn.func 206) [] []), (7, I (Int.ofNat bs.length)), (8, I i), (9, B false)], hp := [], nx := 0 } := by kernel_rfl
theorem Ue {bs : bn} (hl : bs.length <= maxLen) : aC GL f49 5 [(2, [0, 1, 7, 8])] [.d (.slice (Y1)) bs, .fn (.func 206) [] []] [] ah = some (.ret [I (bk fM bs)], []) := by
 rw [aaP]
 have hs := fun (i : Int) (n : Nat) => aaQ bs i n (aQ 0 (aX GL iO [2] (hlp GL iO) (cR (cR GK)) (aZ prog 0 f49.results.toList ah)))
 have h := fx (T := fun n s => lp GL iO Uc n s (aQ 0 (aX GL iO [2] (hlp GL iO) (cR (cR GK)) (aZ prog 0 f49.results.toList ah)))) (xs := bs) (st := fun i => NO bs i) hl hs
 unfold NO at h
 refine h.trans ?_
 unfold bk
 cases hq : bs.findIdx? fM with
 | none => show _ = _; kernel_rfl
 | some i =>
  obtain ⟨hi, _⟩ := List.findIdx?_eq_some_iff_getElem.1 hq
  simp only [List.getElem?_eq_getElem hi, aB]
  show _ = _
  kernel_rfl
def aaR : List AV -> LHp -> Tq
 | [.d (.slice Y1) bs, .fn (.func 206) [] []], [] => .br (decide (bs.length <= maxLen)) (.leaf (.ret [I (bk fM bs)]) []) .no
 | _, _ => .no
theorem Uf : bg 49 (ao aaR) := by
 refine bW NN bO func49 call49 (depth := 5) (live := [(2, [0, 1, 7, 8])]) (by decide +kernel) rfl fun args hs p h => ?_
 unfold aaR at h
 split at h
 ·obtain ⟨hl, h⟩ := Tq.br_no h
  cases h
  have hl := aU hl
  exact Ue hl
 ·cases h
noncomputable def gCn : Env := g50.add 49 (ao aaR)
theorem NP : gCn.Good := Bn.add Uf
theorem aaS (op nm : ak) (ins : List (ak)) (out : ak) (ag : bn) (vs : b5) : aC gCn f145 4 [] [fD (op, nm, ins, out, ag, ()) vs] [] ah = bif decide (ag.length <= 9223372036854775807) then (idx ag (bk fM ag)).bind fun v1 => az [AV.d Y0 v1.2.2.2.2.2.1] else none := by kernel_rfl
def Ug : List AV -> LHp -> Tq
 | [.d Y4 ((_, _, _, _, ag, _), _, _)], [] => .br (decide (ag.length <= maxLen)) (.opt (ag.find? fM) fun a => .leaf (.ret [.d (Y0) a.2.2.2.2.2.1]) []) .no
 | _, _ => .no
theorem GM : bg 145 (ao Ug) := by
 have h1 := bD (d := 4) (l := []) NP func145 call145
 refine aO fun args hs ae aH h' => ?_
 unfold Ug at h'
 split at h'
 ·rename_i op nm ins out ag _ vs _
  obtain ⟨hb, h2⟩ := Tq.br_no h'
  refine h1.okC ((aaS op nm ins out ag vs).trans ?_)
  have e2 : idx ag (bk (fun b => fM b) ag) = ag.find? fM := td _ _
  rw [aD (show ag.length <= 9223372036854775807 from aU hb), ai]
  refine Eq.trans ?_ h2
  show (idx ag (bk fM ag)).bind _ = (ag.find? fM).bind _
  rw [e2]
  rfl
 ·cases h'
theorem eQ {xs : af} (h : ay xs = 0) : (∀ x ∈ xs, 1 <= x) /\ xs.length <= 6 /\ cH xs <= 65536 /\ aJ xs = cH xs := by
 unfold ay at h
 unfold aJ
 cases h1 : decide (bk (fun d => decide (d < 1)) xs >= 0) with
 | true => rw [h1] at h; exact absurd (show (4 : Int) = 0 from h) (by decide)
 | false =>
  rw [h1] at h
  cases h2 : decide (Int.ofNat xs.length > 6) with
  | true => rw [h2] at h; exact absurd (show (6 : Int) = 0 from h) (by decide)
  | false =>
   rw [h2] at h
   cases h3 : qL xs with
   | true => rw [h3] at h; exact absurd (show (6 : Int) = 0 from h) (by decide)
   | false =>
    refine ⟨fun x hx => ?_, ?_, ?_, rfl⟩
    ·rw [oC, List.any_eq_false] at h1
     have := h1 x hx
     simp only [decide_eq_true_eq] at this
     omega
    ·have := nz h2
     have e : Int.ofNat xs.length = (xs.length : Int) := rfl
     omega
    ·have := nz h3
     omega
theorem abc {t : Int} {xd dt : af} (h : jw t xd dt = 0) : bS t 0 = true /\ ay xd = 0 /\ (dt.length : Int) = aJ xd /\ ∀ x ∈ dt, bS t x = true := by
 unfold jw at h
 cases h1 : bS t 0 with
 | false => rw [h1] at h; exact absurd (show (5 : Int) = 0 from h) (by decide)
 | true =>
  rw [h1] at h
  cases h2 : ay xd != 0 with
  | true =>
   rw [h2] at h
   have h' : ay xd = 0 := h
   rw [h'] at h2
   exact absurd h2 (by decide)
  | false =>
   rw [h2] at h
   cases h3 : Int.ofNat dt.length != aJ xd with
   | true => rw [h3] at h; exact absurd (show (4 : Int) = 0 from h) (by decide)
   | false =>
    rw [h3] at h
    cases h4 : dt.any (fun x => !bS t x) with
    | true => rw [h4] at h; exact absurd (show (4 : Int) = 0 from h) (by decide)
    | false =>
     refine ⟨rfl, by simpa using h2, by simpa using h3, fun x hx => ?_⟩
     rw [List.any_eq_false] at h4
     simpa using h4 x hx
structure akW (a b c d : Int) : Prop where
 a1 : 1 <= a
 b1 : 1 <= b
 c1 : 1 <= c
 d1 : 1 <= d
 ab : 1 <= a * b /\ a * b <= 65536
 cd : 1 <= c * d /\ c * d <= 65536
 all : a * b * (c * d) <= 65536
 c2 : c <= 65536
 d2 : d <= 65536
end
end Go.Proofs.XRT
