import Derived.Test.YtbijfcooljoogaaGreatDoorWG
import Derived.Test.YtbijfcooljoogaaGreatDoorProg
import Derived.Shelf.RegionOpenPlain
import Derived.WalkKit
import Derived.Lib.Walk
import Derived.Lib.SliceRun
set_option maxRecDepth 100000
set_option maxHeartbeats 4000000
namespace Go.Proofs.XGT
open Go.Vm Go Go.RowKit Go.Lib
abbrev Y0 : Ty := .pair (.int .i64) (.pair (.slice (.int .i64)) (.pair (.slice (.int .i64)) .unit))
abbrev Y1 : Ty := .pair .str (.pair (.int .i64) (.pair (.int .i64) (.pair (.int .i64) (.pair .str (.pair Y0 (.pair (.slice (.int .i64)) .unit))))))
abbrev Y2 : Ty := .pair .str (.pair .str (.pair (.slice .str) (.pair .str (.pair (.slice Y1) .unit))))
abbrev Y3 : Ty := .pair .str (.pair (.int .i64) (.pair (.slice (.int .i64)) .unit))
abbrev Y4 : Ty := .pair (.int .i64) (.pair (.int .i64) (.pair (.int .i64) (.pair (.int .i64) (.pair (.arr 2 (.int .i64)) (.pair (.arr 2 (.int .i64)) (.pair (.int .i64) (.pair (.int .i64) (.pair (.int .i64) (.pair (.int .i64) .unit)))))))))
abbrev Y5 : Ty := .pair (.int .i64) (.pair (.int .i64) .unit)
abbrev Y6 : Ty := .pair (.int .i64) (.pair (.int .i64) (.pair (.slice (.int .i64)) .unit))
abbrev Y7 : Ty := .pair Y2 (.pair (.slice Y3) .unit)
abbrev Y8 : Ty := .pair (.int .i64) (.pair (.int .i64) (.pair .str .unit))
abbrev Y9 : Ty := .pair (.int .u8) (.pair (.int .u8) .unit)
theorem ty2 : TyGood Tryz.prog 2 (.int .i64) := ⟨⟨_, _, Tryz.type2, rfl, by decide, rfl, rfl⟩, ⟨_, Tryz.underlying2, rfl⟩⟩
theorem ty3 : TyGood Tryz.prog 3 (.int .i64) := ⟨⟨_, _, Tryz.type3, rfl, by decide, rfl, rfl⟩, ⟨_, Tryz.underlying3, rfl⟩⟩
theorem ty9 : TyGood Tryz.prog 9 .str := ⟨⟨_, _, Tryz.type9, rfl, by decide, rfl, rfl⟩, ⟨_, Tryz.underlying9, rfl⟩⟩
theorem ty22 : TyGood Tryz.prog 22 (.slice (.int .i64)) := ⟨⟨_, _, Tryz.type22, rfl, by decide, rfl, rfl⟩, ⟨_, Tryz.underlying22, rfl⟩⟩
theorem ty23 : TyGood Tryz.prog 23 (.slice (.int .i64)) := ⟨⟨_, _, Tryz.type23, rfl, by decide, rfl, rfl⟩, ⟨_, Tryz.underlying23, rfl⟩⟩
theorem ty25 : TyGood Tryz.prog 25 Y0 := ⟨⟨_, _, Tryz.type25, rfl, by decide, rfl, rfl⟩, ⟨_, Tryz.underlying25, rfl⟩⟩
theorem ty29 : TyGood Tryz.prog 29 (.int .i64) := ⟨⟨_, _, Tryz.type29, rfl, by decide, rfl, rfl⟩, ⟨_, Tryz.underlying29, rfl⟩⟩
theorem ty35 : TyGood Tryz.prog 35 Y2 := ⟨⟨_, _, Tryz.type35, rfl, by decide, rfl, rfl⟩, ⟨_, Tryz.underlying35, rfl⟩⟩
theorem ty37 : TyGood Tryz.prog 37 Y1 := ⟨⟨_, _, Tryz.type37, rfl, by decide, rfl, rfl⟩, ⟨_, Tryz.underlying37, rfl⟩⟩
theorem ty49 : TyGood Tryz.prog 49 Y3 := ⟨⟨_, _, Tryz.type49, rfl, by decide, rfl, rfl⟩, ⟨_, Tryz.underlying49, rfl⟩⟩
theorem ty55 : TyGood Tryz.prog 55 (.arr 2 (.int .i64)) := ⟨⟨_, _, Tryz.type55, rfl, by decide, rfl, rfl⟩, ⟨_, Tryz.underlying55, rfl⟩⟩
theorem ty57 : TyGood Tryz.prog 57 Y4 := ⟨⟨_, _, Tryz.type57, rfl, by decide, rfl, rfl⟩, ⟨_, Tryz.underlying57, rfl⟩⟩
theorem ty68 : TyGood Tryz.prog 68 Y0 := ⟨⟨_, _, Tryz.type68, rfl, by decide, rfl, rfl⟩, ⟨_, Tryz.underlying68, rfl⟩⟩
theorem ty91 : TyGood Tryz.prog 91 Y5 := ⟨⟨_, _, Tryz.type91, rfl, by decide, rfl, rfl⟩, ⟨_, Tryz.underlying91, rfl⟩⟩
theorem ty108 : TyGood Tryz.prog 108 Y6 := ⟨⟨_, _, Tryz.type108, rfl, by decide, rfl, rfl⟩, ⟨_, Tryz.underlying108, rfl⟩⟩
theorem ty129 : TyGood Tryz.prog 129 Y7 := ⟨⟨_, _, Tryz.type129, rfl, by decide, rfl, rfl⟩, ⟨_, Tryz.underlying129, rfl⟩⟩
theorem ty154 : TyGood Tryz.prog 154 Y8 := ⟨⟨_, _, Tryz.type154, rfl, by decide, rfl, rfl⟩, ⟨_, Tryz.underlying154, rfl⟩⟩
theorem ty196 : TyGood Tryz.prog 196 (.arr 10 .str) := ⟨⟨_, _, Tryz.type196, rfl, by decide, rfl, rfl⟩, ⟨_, Tryz.underlying196, rfl⟩⟩
theorem ty223 : TyGood Tryz.prog 223 (.int .u64) := ⟨⟨_, _, Tryz.type223, rfl, by decide, rfl, rfl⟩, ⟨_, Tryz.underlying223, rfl⟩⟩
theorem ty242 : TyGood Tryz.prog 242 Y9 := ⟨⟨_, _, Tryz.type242, rfl, by decide, rfl, rfl⟩, ⟨_, Tryz.underlying242, rfl⟩⟩
def tys : List (Nat × Ty) := [(2, (.int .i64)), (3, (.int .i64)), (9, .str), (22, (.slice (.int .i64))), (23, (.slice (.int .i64))), (25, Y0), (29, (.int .i64)), (35, Y2), (37, Y1), (49, Y3), (55, (.arr 2 (.int .i64))), (57, Y4), (68, Y0), (91, Y5), (108, Y6), (129, Y7), (154, Y8), (196, (.arr 10 .str)), (223, (.int .u64)), (242, Y9)]
theorem tys_ok : AllGood Tryz.prog tys := ⟨ty2, ty3, ty9, ty22, ty23, ty25, ty29, ty35, ty37, ty49, ty55, ty57, ty68, ty91, ty108, ty129, ty154, ty196, ty223, ty242, trivial⟩
def ones : List (List UInt8) := [[73, 100, 101, 110, 116, 105, 116, 121], [78, 101, 103], [65, 98, 115], [78, 111, 116], [82, 101, 108, 117], [83, 113, 114, 116], [70, 108, 111, 111, 114], [69, 120, 112], [83, 105, 103, 109, 111, 105, 100], [84, 97, 110, 104]]
def gam : List (Nat × AV) := [(1, .ip (.arr 10 .str) ones)]
noncomputable def e0 : Env := ⟨Tryz.prog, gam, tys, [], [], none⟩
theorem e0_good : e0.Good := ⟨⟨allGood tys_ok⟩, gam_free (by decide), (fun _ h => nomatch h), (fun _ h => nomatch h), (fun _ h => nomatch h)⟩
theorem hmix : Tryz.prog.follows .mixedOrders = true := rfl
/-- mandrel/mandrellaw13.small -/
noncomputable def x15 : FnE := execFnC e0 Tryz.f15 5 [(2, [0, 3])]
theorem x15_ok : FnE.OK Tryz.prog (Env.gam e0) 15 x15 := execFnC_ok e0_good hmix Tryz.func15 Tryz.call15 (by decide +kernel) rfl
noncomputable def e1 : Env := e0.add 15 x15
theorem e1_good : e1.Good := Env.Good.add e0_good x15_ok
/-- mandrel/num.Check -/
noncomputable def x34 : FnE := execFnC e1 Tryz.f34 6 []
theorem x34_ok : FnE.OK Tryz.prog (Env.gam e0) 34 x34 := execFnC_ok e1_good hmix Tryz.func34 Tryz.call34 (by decide +kernel) rfl
noncomputable def e2 : Env := e1.add 34 x34
theorem e2_good : e2.Good := Env.Good.add e1_good x34_ok
/-- mandrel/pb.Check$1 -/
noncomputable def x88 : FnE := execFnC e2 Tryz.f88 4 []
theorem x88_ok : FnE.OK Tryz.prog (Env.gam e0) 88 x88 := execFnC_ok e2_good hmix Tryz.func88 Tryz.call88 (by decide +kernel) rfl
noncomputable def e3 : Env := e2.add 88 x88
theorem e3_good : e3.Good := Env.Good.add e2_good x88_ok
/-- mandrel/shape.Count$1 -/
noncomputable def x98 : FnE := execFnC e3 Tryz.f98 3 []
theorem x98_ok : FnE.OK Tryz.prog (Env.gam e0) 98 x98 := execFnC_ok e3_good hmix Tryz.func98 Tryz.call98 (by decide +kernel) rfl
noncomputable def e4 : Env := e3.add 98 x98
theorem e4_good : e4.Good := Env.Good.add e3_good x98_ok
/-- mandrel/view.fine$1 -/
noncomputable def x106 : FnE := execFnC e4 Tryz.f106 4 []
theorem x106_ok : FnE.OK Tryz.prog (Env.gam e0) 106 x106 := execFnC_ok e4_good hmix Tryz.func106 Tryz.call106 (by decide +kernel) rfl
noncomputable def e5 : Env := e4.add 106 x106
theorem e5_good : e5.Good := Env.Good.add e4_good x106_ok
/-- mandrel/infer.rule -/
noncomputable def x92 : FnE := execFnC e5 Tryz.f92 3 []
theorem x92_ok : FnE.OK Tryz.prog (Env.gam e0) 92 x92 := execFnC_ok e5_good hmix Tryz.func92 Tryz.call92 (by decide +kernel) rfl
noncomputable def e6 : Env := e5.add 92 x92
theorem e6_good : e6.Good := Env.Good.add e5_good x92_ok
/-- (mandrel/infer.maker).window$1 -/
noncomputable def x184 : FnE := execFnC e6 Tryz.f184 6 []
theorem x184_ok : FnE.OK Tryz.prog (Env.gam e0) 184 x184 := execFnC_ok e6_good hmix Tryz.func184 Tryz.call184 (by decide +kernel) rfl
noncomputable def e7 : Env := e6.add 184 x184
theorem e7_good : e7.Good := Env.Good.add e6_good x184_ok
/-- slices.IndexFunc[[]int,int] -/
noncomputable def x128 : FnE := execFnC e7 Tryz.f128 5 [(2, [0, 1, 7, 8])]
theorem x128_ok : FnE.OK Tryz.prog (Env.gam e0) 128 x128 := execFnC_ok e7_good hmix Tryz.func128 Tryz.call128 (by decide +kernel) rfl
noncomputable def e8 : Env := e7.add 128 x128
theorem e8_good : e8.Good := Env.Good.add e7_good x128_ok
/-- slices.ContainsFunc[[]int,int] -/
noncomputable def x97 : FnE := execFnC e8 Tryz.f97 4 []
theorem x97_ok : FnE.OK Tryz.prog (Env.gam e0) 97 x97 := execFnC_ok e8_good hmix Tryz.func97 Tryz.call97 (by decide +kernel) rfl
noncomputable def e9 : Env := e8.add 97 x97
theorem e9_good : e9.Good := Env.Good.add e8_good x97_ok
/-- mandrel/shape.Count -/
noncomputable def x57 : FnE := execFnC e9 Tryz.f57 5 [(7, [4, 12, 13, 14])]
theorem x57_ok : FnE.OK Tryz.prog (Env.gam e0) 57 x57 := execFnC_ok e9_good hmix Tryz.func57 Tryz.call57 (by decide +kernel) rfl
noncomputable def e10 : Env := e9.add 57 x57
theorem e10_good : e10.Good := Env.Good.add e9_good x57_ok
/-- mandrel/pb.typed -/
noncomputable def x86 : FnE := execFnC e10 Tryz.f86 3 []
theorem x86_ok : FnE.OK Tryz.prog (Env.gam e0) 86 x86 := execFnC_ok e10_good hmix Tryz.func86 Tryz.call86 (by decide +kernel) rfl
noncomputable def e11 : Env := e10.add 86 x86
theorem e11_good : e11.Good := Env.Good.add e10_good x86_ok
/-- slices.IndexFunc[[]int64,int64] -/
noncomputable def x112 : FnE := execFnC e11 Tryz.f112 5 [(2, [0, 1, 7, 8])]
theorem x112_ok : FnE.OK Tryz.prog (Env.gam e0) 112 x112 := execFnC_ok e11_good hmix Tryz.func112 Tryz.call112 (by decide +kernel) rfl
noncomputable def e12 : Env := e11.add 112 x112
theorem e12_good : e12.Good := Env.Good.add e11_good x112_ok
/-- slices.ContainsFunc[[]int64,int64] -/
noncomputable def x87 : FnE := execFnC e12 Tryz.f87 4 []
theorem x87_ok : FnE.OK Tryz.prog (Env.gam e0) 87 x87 := execFnC_ok e12_good hmix Tryz.func87 Tryz.call87 (by decide +kernel) rfl
noncomputable def e13 : Env := e12.add 87 x87
theorem e13_good : e13.Good := Env.Good.add e12_good x87_ok
/-- mandrel/pb.Check -/
noncomputable def x54 : FnE := execFnC e13 Tryz.f54 5 []
theorem x54_ok : FnE.OK Tryz.prog (Env.gam e0) 54 x54 := execFnC_ok e13_good hmix Tryz.func54 Tryz.call54 (by decide +kernel) rfl
noncomputable def e14 : Env := e13.add 54 x54
theorem e14_good : e14.Good := Env.Good.add e13_good x54_ok
/-- mandrel/infer.Out$1 -/
noncomputable def x89 : FnE := execFnC e14 Tryz.f89 5 []
theorem x89_ok : FnE.OK Tryz.prog (Env.gam e0) 89 x89 := execFnC_ok e14_good hmix Tryz.func89 Tryz.call89 (by decide +kernel) rfl
noncomputable def e15 : Env := e14.add 89 x89
theorem e15_good : e15.Good := Env.Good.add e14_good x89_ok
/-- mandrel/infer.good -/
noncomputable def x90 : FnE := execFnC e15 Tryz.f90 3 []
theorem x90_ok : FnE.OK Tryz.prog (Env.gam e0) 90 x90 := execFnC_ok e15_good hmix Tryz.func90 Tryz.call90 (by decide +kernel) rfl
noncomputable def e16 : Env := e15.add 90 x90
theorem e16_good : e16.Good := Env.Good.add e15_good x90_ok
/-- mandrel/move.Do$1 -/
noncomputable def x53 : FnE := execFnC e16 Tryz.f53 3 []
theorem x53_ok : FnE.OK Tryz.prog (Env.gam e0) 53 x53 := execFnC_ok e16_good hmix Tryz.func53 Tryz.call53 (by decide +kernel) rfl
noncomputable def e17 : Env := e16.add 53 x53
theorem e17_good : e17.Good := Env.Good.add e16_good x53_ok
/-- mandrel/schema.named$1 -/
noncomputable def x129 : FnE := execFnC e17 Tryz.f129 4 []
theorem x129_ok : FnE.OK Tryz.prog (Env.gam e0) 129 x129 := execFnC_ok e17_good hmix Tryz.func129 Tryz.call129 (by decide +kernel) rfl
noncomputable def e18 : Env := e17.add 129 x129
theorem e18_good : e18.Good := Env.Good.add e17_good x129_ok
/-- mandrel/schema.attrs$2 -/
noncomputable def x146 : FnE := execFnC e18 Tryz.f146 4 []
theorem x146_ok : FnE.OK Tryz.prog (Env.gam e0) 146 x146 := execFnC_ok e18_good hmix Tryz.func146 Tryz.call146 (by decide +kernel) rfl
noncomputable def e19 : Env := e18.add 146 x146
theorem e19_good : e19.Good := Env.Good.add e18_good x146_ok
/-- (mandrel/infer.maker).constant$1 -/
noncomputable def x151 : FnE := execFnC e19 Tryz.f151 3 []
theorem x151_ok : FnE.OK Tryz.prog (Env.gam e0) 151 x151 := execFnC_ok e19_good hmix Tryz.func151 Tryz.call151 (by decide +kernel) rfl
noncomputable def e20 : Env := e19.add 151 x151
theorem e20_good : e20.Good := Env.Good.add e19_good x151_ok
/-- slices.IndexFunc[[]mandrel/api.Attr,mandrel/api.Attr] -/
noncomputable def x52 : FnE := execFnC e20 Tryz.f52 5 [(2, [0, 1, 7, 8])]
theorem x52_ok : FnE.OK Tryz.prog (Env.gam e0) 52 x52 := execFnC_ok e20_good hmix Tryz.func52 Tryz.call52 (by decide +kernel) rfl
noncomputable def e21 : Env := e20.add 52 x52
theorem e21_good : e21.Good := Env.Good.add e20_good x52_ok
/-- mandrel/schema.named -/
noncomputable def x100 : FnE := execFnC e21 Tryz.f100 3 []
theorem x100_ok : FnE.OK Tryz.prog (Env.gam e0) 100 x100 := execFnC_ok e21_good hmix Tryz.func100 Tryz.call100 (by decide +kernel) rfl
noncomputable def e22 : Env := e21.add 100 x100
theorem e22_good : e22.Good := Env.Good.add e21_good x100_ok
/-- mandrel/schema.find -/
noncomputable def x61 : FnE := execFnC e22 Tryz.f61 5 []
theorem x61_ok : FnE.OK Tryz.prog (Env.gam e0) 61 x61 := execFnC_ok e22_good hmix Tryz.func61 Tryz.call61 (by decide +kernel) rfl
noncomputable def e23 : Env := e22.add 61 x61
theorem e23_good : e23.Good := Env.Good.add e22_good x61_ok
/-- mandrel/schema.ofOne -/
noncomputable def x138 : FnE := execFnC e23 Tryz.f138 4 [(2, [0, 5, 6])]
theorem x138_ok : FnE.OK Tryz.prog (Env.gam e0) 138 x138 := execFnC_ok e23_good hmix Tryz.func138 Tryz.call138 (by decide +kernel) rfl
noncomputable def e24 : Env := e23.add 138 x138
theorem e24_good : e24.Good := Env.Good.add e23_good x138_ok
/-- mandrel/schema.ruleOf -/
noncomputable def x113 : FnE := execFnC e24 Tryz.f113 7 []
theorem x113_ok : FnE.OK Tryz.prog (Env.gam e0) 113 x113 := execFnC_ok e24_good hmix Tryz.func113 Tryz.call113 (by decide +kernel) rfl
noncomputable def e25 : Env := e24.add 113 x113
theorem e25_good : e25.Good := Env.Good.add e24_good x113_ok
/-- slices.Index[[]string,string] -/
noncomputable def x139 : FnE := execFnC e25 Tryz.f139 5 [(2, [0, 1, 7, 8])]
theorem x139_ok : FnE.OK Tryz.prog (Env.gam e0) 139 x139 := execFnC_ok e25_good hmix Tryz.func139 Tryz.call139 (by decide +kernel) rfl
noncomputable def e26 : Env := e25.add 139 x139
theorem e26_good : e26.Good := Env.Good.add e25_good x139_ok
/-- slices.Contains[[]string,string] -/
noncomputable def x114 : FnE := execFnC e26 Tryz.f114 4 []
theorem x114_ok : FnE.OK Tryz.prog (Env.gam e0) 114 x114 := execFnC_ok e26_good hmix Tryz.func114 Tryz.call114 (by decide +kernel) rfl
noncomputable def e27 : Env := e26.add 114 x114
theorem e27_good : e27.Good := Env.Good.add e26_good x114_ok
/-- internal/stringslite.HasPrefix -/
noncomputable def x174 : FnE := execFnC e27 Tryz.f174 5 []
theorem x174_ok : FnE.OK Tryz.prog (Env.gam e0) 174 x174 := execFnC_ok e27_good hmix Tryz.func174 Tryz.call174 (by decide +kernel) rfl
noncomputable def e28 : Env := e27.add 174 x174
theorem e28_good : e28.Good := Env.Good.add e27_good x174_ok
/-- strings.HasPrefix -/
noncomputable def x143 : FnE := execFnC e28 Tryz.f143 4 []
theorem x143_ok : FnE.OK Tryz.prog (Env.gam e0) 143 x143 := execFnC_ok e28_good hmix Tryz.func143 Tryz.call143 (by decide +kernel) rfl
noncomputable def e29 : Env := e28.add 143 x143
theorem e29_good : e29.Good := Env.Good.add e28_good x143_ok
/-- mandrel/schema.attrs$1 -/
noncomputable def x142 : FnE := execFnC e29 Tryz.f142 4 []
theorem x142_ok : FnE.OK Tryz.prog (Env.gam e0) 142 x142 := execFnC_ok e29_good hmix Tryz.func142 Tryz.call142 (by decide +kernel) rfl
noncomputable def e30 : Env := e29.add 142 x142
theorem e30_good : e30.Good := Env.Good.add e29_good x142_ok
/-- unicode/utf8.RuneCountInString -/
noncomputable def x219 : FnE := execFnC e30 Tryz.f219 4 [(2, [2, 4])]
theorem x219_ok : FnE.OK Tryz.prog (Env.gam e0) 219 x219 := execFnC_ok e30_good hmix Tryz.func219 Tryz.call219 (by decide +kernel) rfl
noncomputable def e31 : Env := e30.add 219 x219
theorem e31_good : e31.Good := Env.Good.add e30_good x219_ok
/-- unicode/utf8.decodeRuneInStringSlow -/
noncomputable def x231 : FnE := execFnC e31 Tryz.f231 7 []
theorem x231_ok : FnE.OK Tryz.prog (Env.gam e0) 231 x231 := execFnC_ok e31_good hmix Tryz.func231 Tryz.call231 (by decide +kernel) rfl
noncomputable def e32 : Env := e31.add 231 x231
theorem e32_good : e32.Good := Env.Good.add e31_good x231_ok
/-- unicode/utf8.DecodeRuneInString -/
noncomputable def x220 : FnE := execFnC e32 Tryz.f220 5 []
theorem x220_ok : FnE.OK Tryz.prog (Env.gam e0) 220 x220 := execFnC_ok e32_good hmix Tryz.func220 Tryz.call220 (by decide +kernel) rfl
noncomputable def e33 : Env := e32.add 220 x220
theorem e33_good : e33.Good := Env.Good.add e32_good x220_ok
/-- strings.explode -/
noncomputable def x203 : FnE := execFnC e33 Tryz.f203 6 [(6, [0, 1, 6, 7])]
theorem x203_ok : FnE.OK Tryz.prog (Env.gam e0) 203 x203 := execFnC_ok e33_good hmix Tryz.func203 Tryz.call203 (by decide +kernel) rfl
noncomputable def e34 : Env := e33.add 203 x203
theorem e34_good : e34.Good := Env.Good.add e33_good x203_ok
noncomputable def e35 : Env := e34.addX 232 xIndexByte
theorem e35_good : e35.Good := Env.Good.addX e34_good (xIndexByte_ok Tryz.func232 rfl (by decide +kernel) (by kernel_rfl) (by kernel_rfl))
/-- internal/stringslite.IndexByte -/
noncomputable def x222 : FnE := execFnC e35 Tryz.f222 4 []
theorem x222_ok : FnE.OK Tryz.prog (Env.gam e0) 222 x222 := execFnC_ok e35_good hmix Tryz.func222 Tryz.call222 (by decide +kernel) rfl
noncomputable def e36 : Env := e35.add 222 x222
theorem e36_good : e36.Good := Env.Good.add e35_good x222_ok
/-- internal/bytealg.Cutover -/
noncomputable def x224 : FnE := execFnC e36 Tryz.f224 3 []
theorem x224_ok : FnE.OK Tryz.prog (Env.gam e0) 224 x224 := execFnC_ok e36_good hmix Tryz.func224 Tryz.call224 (by decide +kernel) rfl
noncomputable def e37 : Env := e36.add 224 x224
theorem e37_good : e37.Good := Env.Good.add e36_good x224_ok
/-- internal/bytealg.hashStr[string] -/
noncomputable def x233 : FnE := execFnC e37 Tryz.f233 6 [(3, [0, 4, 5]), (8, [4, 6, 7, 8])]
theorem x233_ok : FnE.OK Tryz.prog (Env.gam e0) 233 x233 := execFnC_ok e37_good hmix Tryz.func233 Tryz.call233 (by decide +kernel) rfl
noncomputable def e38 : Env := e37.add 233 x233
theorem e38_good : e38.Good := Env.Good.add e37_good x233_ok
/-- internal/bytealg.IndexRabinKarp[string] -/
noncomputable def x225 : FnE := execFnC e38 Tryz.f225 7 [(5, [0, 1, 5, 6, 7, 8, 9]), (11, [0, 1, 5, 6, 7, 8, 10])]
theorem x225_ok : FnE.OK Tryz.prog (Env.gam e0) 225 x225 := execFnC_ok e38_good hmix Tryz.func225 Tryz.call225 (by decide +kernel) rfl
noncomputable def e39 : Env := e38.add 225 x225
theorem e39_good : e39.Good := Env.Good.add e38_good x225_ok
/-- internal/stringslite.Index -/
noncomputable def x206 : FnE := execFnC e39 Tryz.f206 8 [(15, [0, 1, 5, 6, 7, 8, 9, 10])]
theorem x206_ok : FnE.OK Tryz.prog (Env.gam e0) 206 x206 := execFnC_ok e39_good hmix Tryz.func206 Tryz.call206 (by decide +kernel) rfl
noncomputable def e40 : Env := e39.add 206 x206
theorem e40_good : e40.Good := Env.Good.add e39_good x206_ok
/-- strings.Index -/
noncomputable def x205 : FnE := execFnC e40 Tryz.f205 4 []
theorem x205_ok : FnE.OK Tryz.prog (Env.gam e0) 205 x205 := execFnC_ok e40_good hmix Tryz.func205 Tryz.call205 (by decide +kernel) rfl
noncomputable def e41 : Env := e40.add 205 x205
theorem e41_good : e41.Good := Env.Good.add e40_good x205_ok
noncomputable def e42 : Env := e41.addX 221 xCount
theorem e42_good : e42.Good := Env.Good.addX e41_good (xCount_ok Tryz.func221 rfl (by decide +kernel) (by kernel_rfl) (by kernel_rfl))
/-- strings.Count -/
noncomputable def x204 : FnE := execFnC e42 Tryz.f204 6 [(6, [0, 1, 5])]
theorem x204_ok : FnE.OK Tryz.prog (Env.gam e0) 204 x204 := execFnC_ok e42_good hmix Tryz.func204 Tryz.call204 (by decide +kernel) rfl
noncomputable def e43 : Env := e42.add 204 x204
theorem e43_good : e43.Good := Env.Good.add e42_good x204_ok
/-- strings.genSplit -/
noncomputable def x173 : FnE := execFnC e43 Tryz.f173 7 [(11, [0, 1, 2, 3, 9, 10])]
theorem x173_ok : FnE.OK Tryz.prog (Env.gam e0) 173 x173 := execFnC_ok e43_good hmix Tryz.func173 Tryz.call173 (by decide +kernel) rfl
noncomputable def e44 : Env := e43.add 173 x173
theorem e44_good : e44.Good := Env.Good.add e43_good x173_ok
/-- strings.Split -/
noncomputable def x140 : FnE := execFnC e44 Tryz.f140 4 []
theorem x140_ok : FnE.OK Tryz.prog (Env.gam e0) 140 x140 := execFnC_ok e44_good hmix Tryz.func140 Tryz.call140 (by decide +kernel) rfl
noncomputable def e45 : Env := e44.add 140 x140
theorem e45_good : e45.Good := Env.Good.add e44_good x140_ok
/-- mandrel/schema.Then$1 -/
noncomputable def x150 : FnE := execFnC e45 Tryz.f150 3 []
theorem x150_ok : FnE.OK Tryz.prog (Env.gam e0) 150 x150 := execFnC_ok e45_good hmix Tryz.func150 Tryz.call150 (by decide +kernel) rfl
noncomputable def e46 : Env := e45.add 150 x150
theorem e46_good : e46.Good := Env.Good.add e45_good x150_ok
/-- slices.IndexFunc[[]string,string] -/
noncomputable def x141 : FnE := execFnC e46 Tryz.f141 5 [(2, [0, 1, 7, 8])]
theorem x141_ok : FnE.OK Tryz.prog (Env.gam e0) 141 x141 := execFnC_ok e46_good hmix Tryz.func141 Tryz.call141 (by decide +kernel) rfl
noncomputable def e47 : Env := e46.add 141 x141
theorem e47_good : e47.Good := Env.Good.add e46_good x141_ok
/-- mandrel/schema.kindOf -/
noncomputable def x144 : FnE := execFnC e47 Tryz.f144 4 []
theorem x144_ok : FnE.OK Tryz.prog (Env.gam e0) 144 x144 := execFnC_ok e47_good hmix Tryz.func144 Tryz.call144 (by decide +kernel) rfl
noncomputable def e48 : Env := e47.add 144 x144
theorem e48_good : e48.Good := Env.Good.add e47_good x144_ok
/-- slices.ContainsFunc[[]mandrel/api.Attr,mandrel/api.Attr] -/
noncomputable def x145 : FnE := execFnC e48 Tryz.f145 4 []
theorem x145_ok : FnE.OK Tryz.prog (Env.gam e0) 145 x145 := execFnC_ok e48_good hmix Tryz.func145 Tryz.call145 (by decide +kernel) rfl
noncomputable def e49 : Env := e48.add 145 x145
theorem e49_good : e49.Good := Env.Good.add e48_good x145_ok
/-- internal/stringslite.Cut -/
noncomputable def x175 : FnE := execFnC e49 Tryz.f175 5 []
theorem x175_ok : FnE.OK Tryz.prog (Env.gam e0) 175 x175 := execFnC_ok e49_good hmix Tryz.func175 Tryz.call175 (by decide +kernel) rfl
noncomputable def e50 : Env := e49.add 175 x175
theorem e50_good : e50.Good := Env.Good.add e49_good x175_ok
/-- strings.Cut -/
noncomputable def x147 : FnE := execFnC e50 Tryz.f147 4 []
theorem x147_ok : FnE.OK Tryz.prog (Env.gam e0) 147 x147 := execFnC_ok e50_good hmix Tryz.func147 Tryz.call147 (by decide +kernel) rfl
noncomputable def e51 : Env := e50.add 147 x147
theorem e51_good : e51.Good := Env.Good.add e50_good x147_ok
/-- internal/stringslite.HasSuffix -/
noncomputable def x176 : FnE := execFnC e51 Tryz.f176 5 []
theorem x176_ok : FnE.OK Tryz.prog (Env.gam e0) 176 x176 := execFnC_ok e51_good hmix Tryz.func176 Tryz.call176 (by decide +kernel) rfl
noncomputable def e52 : Env := e51.add 176 x176
theorem e52_good : e52.Good := Env.Good.add e51_good x176_ok
/-- strings.HasSuffix -/
noncomputable def x148 : FnE := execFnC e52 Tryz.f148 4 []
theorem x148_ok : FnE.OK Tryz.prog (Env.gam e0) 148 x148 := execFnC_ok e52_good hmix Tryz.func148 Tryz.call148 (by decide +kernel) rfl
noncomputable def e53 : Env := e52.add 148 x148
theorem e53_good : e53.Good := Env.Good.add e52_good x148_ok
/-- mandrel/schema.attrs -/
noncomputable def x115 : FnE := execFnC e53 Tryz.f115 7 [(3, [2, 5, 20, 21, 22]), (14, [2, 63, 64, 65])]
theorem x115_ok : FnE.OK Tryz.prog (Env.gam e0) 115 x115 := execFnC_ok e53_good hmix Tryz.func115 Tryz.call115 (by decide +kernel) rfl
noncomputable def e54 : Env := e53.add 115 x115
theorem e54_good : e54.Good := Env.Good.add e53_good x115_ok
/-- slices.ContainsFunc[[]string,string] -/
noncomputable def x149 : FnE := execFnC e54 Tryz.f149 4 []
theorem x149_ok : FnE.OK Tryz.prog (Env.gam e0) 149 x149 := execFnC_ok e54_good hmix Tryz.func149 Tryz.call149 (by decide +kernel) rfl
noncomputable def e55 : Env := e54.add 149 x149
theorem e55_good : e55.Good := Env.Good.add e54_good x149_ok
/-- mandrel/schema.Then -/
noncomputable def x116 : FnE := execFnC e55 Tryz.f116 5 []
theorem x116_ok : FnE.OK Tryz.prog (Env.gam e0) 116 x116 := execFnC_ok e55_good hmix Tryz.func116 Tryz.call116 (by decide +kernel) rfl
noncomputable def e56 : Env := e55.add 116 x116
theorem e56_good : e56.Good := Env.Good.add e55_good x116_ok
/-- mandrel/schema.Check -/
noncomputable def x91 : FnE := execFnC e56 Tryz.f91 7 []
theorem x91_ok : FnE.OK Tryz.prog (Env.gam e0) 91 x91 := execFnC_ok e56_good hmix Tryz.func91 Tryz.call91 (by decide +kernel) rfl
noncomputable def e57 : Env := e56.add 91 x91
theorem e57_good : e57.Good := Env.Good.add e56_good x91_ok
/-- mandrel/num.whole -/
noncomputable def x35 : FnE := execFnC e57 Tryz.f35 4 []
theorem x35_ok : FnE.OK Tryz.prog (Env.gam e0) 35 x35 := execFnC_ok e57_good hmix Tryz.func35 Tryz.call35 (by decide +kernel) rfl
noncomputable def e58 : Env := e57.add 35 x35
theorem e58_good : e58.Good := Env.Good.add e57_good x35_ok
/-- mandrel/num.cut -/
noncomputable def x64 : FnE := execFnC e58 Tryz.f64 4 []
theorem x64_ok : FnE.OK Tryz.prog (Env.gam e0) 64 x64 := execFnC_ok e58_good hmix Tryz.func64 Tryz.call64 (by decide +kernel) rfl
noncomputable def e59 : Env := e58.add 64 x64
theorem e59_good : e59.Good := Env.Good.add e58_good x64_ok
/-- mandrel/num.flag -/
noncomputable def x65 : FnE := execFnC e59 Tryz.f65 3 []
theorem x65_ok : FnE.OK Tryz.prog (Env.gam e0) 65 x65 := execFnC_ok e59_good hmix Tryz.func65 Tryz.call65 (by decide +kernel) rfl
noncomputable def e60 : Env := e59.add 65 x65
theorem e60_good : e60.Good := Env.Good.add e59_good x65_ok
/-- mandrel/num.wholes -/
noncomputable def x36 : FnE := execFnC e60 Tryz.f36 7 []
theorem x36_ok : FnE.OK Tryz.prog (Env.gam e0) 36 x36 := execFnC_ok e60_good hmix Tryz.func36 Tryz.call36 (by decide +kernel) rfl
noncomputable def e61 : Env := e60.add 36 x36
theorem e61_good : e61.Good := Env.Good.add e60_good x36_ok
noncomputable def e62 : Env := e61.addX 102 (xFrombits .f32 .u32)
theorem e62_good : e62.Good := Env.Good.addX e61_good (xFrombits_ok (row := Extern.MathFloatBits.float32frombits) (fun _ => rfl) Tryz.func102 rfl (by decide +kernel) (by kernel_rfl) (by kernel_rfl))
/-- mandrel/num.number -/
noncomputable def x66 : FnE := execFnC e62 Tryz.f66 3 []
theorem x66_ok : FnE.OK Tryz.prog (Env.gam e0) 66 x66 := execFnC_ok e62_good hmix Tryz.func66 Tryz.call66 (by decide +kernel) rfl
noncomputable def e63 : Env := e62.add 66 x66
theorem e63_good : e63.Good := Env.Good.add e62_good x66_ok
noncomputable def e64 : Env := e63.addX 103 (xBits .f32 .u32)
theorem e64_good : e64.Good := Env.Good.addX e63_good (xBits_ok (row := Extern.MathFloatBits.float32bits) (fun _ => rfl) Tryz.func103 rfl (by decide +kernel) (by kernel_rfl) (by kernel_rfl))
/-- mandrel/num.bitsOf -/
noncomputable def x67 : FnE := execFnC e64 Tryz.f67 4 []
theorem x67_ok : FnE.OK Tryz.prog (Env.gam e0) 67 x67 := execFnC_ok e64_good hmix Tryz.func67 Tryz.call67 (by decide +kernel) rfl
noncomputable def e65 : Env := e64.add 67 x67
theorem e65_good : e65.Good := Env.Good.add e64_good x67_ok
/-- mandrel/num.floats -/
noncomputable def x37 : FnE := execFnC e65 Tryz.f37 7 []
theorem x37_ok : FnE.OK Tryz.prog (Env.gam e0) 37 x37 := execFnC_ok e65_good hmix Tryz.func37 Tryz.call37 (by decide +kernel) rfl
noncomputable def e66 : Env := e65.add 37 x37
theorem e66_good : e66.Good := Env.Good.add e65_good x37_ok
/-- mandrel/num.Binary -/
noncomputable def x19 : FnE := execFnC e66 Tryz.f19 7 []
theorem x19_ok : FnE.OK Tryz.prog (Env.gam e0) 19 x19 := execFnC_ok e66_good hmix Tryz.func19 Tryz.call19 (by decide +kernel) rfl
noncomputable def e67 : Env := e66.add 19 x19
theorem e67_good : e67.Good := Env.Good.add e66_good x19_ok
/-- mandrel/schema.Int -/
noncomputable def x56 : FnE := execFnC e67 Tryz.f56 5 []
theorem x56_ok : FnE.OK Tryz.prog (Env.gam e0) 56 x56 := execFnC_ok e67_good hmix Tryz.func56 Tryz.call56 (by decide +kernel) rfl
noncomputable def e68 : Env := e67.add 56 x56
theorem e68_good : e68.Good := Env.Good.add e67_good x56_ok
/-- (mandrel/infer.maker).constant -/
noncomputable def x117 : FnE := execFnC e68 Tryz.f117 4 []
theorem x117_ok : FnE.OK Tryz.prog (Env.gam e0) 117 x117 := execFnC_ok e68_good hmix Tryz.func117 Tryz.call117 (by decide +kernel) rfl
noncomputable def e69 : Env := e68.add 117 x117
theorem e69_good : e69.Good := Env.Good.add e68_good x117_ok
/-- math.Sqrt -/
noncomputable def x177 : FnE := execFnC e69 Tryz.f177 3 []
theorem x177_ok : FnE.OK Tryz.prog (Env.gam e0) 177 x177 := execFnC_ok e69_good hmix Tryz.func177 Tryz.call177 (by decide +kernel) rfl
noncomputable def e70 : Env := e69.add 177 x177
theorem e70_good : e70.Good := Env.Good.add e69_good x177_ok
/-- math.IsNaN -/
noncomputable def x226 : FnE := execFnC e70 Tryz.f226 3 []
theorem x226_ok : FnE.OK Tryz.prog (Env.gam e0) 226 x226 := execFnC_ok e70_good hmix Tryz.func226 Tryz.call226 (by decide +kernel) rfl
noncomputable def e71 : Env := e70.add 226 x226
theorem e71_good : e71.Good := Env.Good.add e70_good x226_ok
noncomputable def e72 : Env := e71.addX 210 (xFrombits .f64 .u64)
theorem e72_good : e72.Good := Env.Good.addX e71_good (xFrombits_ok (row := Extern.MathFloatBits.float64frombits) (fun _ => rfl) Tryz.func210 rfl (by decide +kernel) (by kernel_rfl) (by kernel_rfl))
noncomputable def e73 : Env := e72.addX 237 (xBits .f64 .u64)
theorem e73_good : e73.Good := Env.Good.addX e72_good (xBits_ok (row := Extern.MathFloatBits.float64bits) (fun _ => rfl) Tryz.func237 rfl (by decide +kernel) (by kernel_rfl) (by kernel_rfl))
/-- math.Abs -/
noncomputable def x234 : FnE := execFnC e73 Tryz.f234 3 []
theorem x234_ok : FnE.OK Tryz.prog (Env.gam e0) 234 x234 := execFnC_ok e73_good hmix Tryz.func234 Tryz.call234 (by decide +kernel) rfl
noncomputable def e74 : Env := e73.add 234 x234
theorem e74_good : e74.Good := Env.Good.add e73_good x234_ok
/-- math.IsInf -/
noncomputable def x227 : FnE := execFnC e74 Tryz.f227 4 []
theorem x227_ok : FnE.OK Tryz.prog (Env.gam e0) 227 x227 := execFnC_ok e74_good hmix Tryz.func227 Tryz.call227 (by decide +kernel) rfl
noncomputable def e75 : Env := e74.add 227 x227
theorem e75_good : e75.Good := Env.Good.add e74_good x227_ok
/-- math.Copysign -/
noncomputable def x236 : FnE := execFnC e75 Tryz.f236 4 []
theorem x236_ok : FnE.OK Tryz.prog (Env.gam e0) 236 x236 := execFnC_ok e75_good hmix Tryz.func236 Tryz.call236 (by decide +kernel) rfl
noncomputable def e76 : Env := e75.add 236 x236
theorem e76_good : e76.Good := Env.Good.add e75_good x236_ok
/-- math.trunc -/
noncomputable def x239 : FnE := execFnC e76 Tryz.f239 5 []
theorem x239_ok : FnE.OK Tryz.prog (Env.gam e0) 239 x239 := execFnC_ok e76_good hmix Tryz.func239 Tryz.call239 (by decide +kernel) rfl
noncomputable def e77 : Env := e76.add 239 x239
theorem e77_good : e77.Good := Env.Good.add e76_good x239_ok
/-- math.Trunc -/
noncomputable def x235 : FnE := execFnC e77 Tryz.f235 3 []
theorem x235_ok : FnE.OK Tryz.prog (Env.gam e0) 235 x235 := execFnC_ok e77_good hmix Tryz.func235 Tryz.call235 (by decide +kernel) rfl
noncomputable def e78 : Env := e77.add 235 x235
theorem e78_good : e78.Good := Env.Good.add e77_good x235_ok
/-- math.Modf -/
noncomputable def x228 : FnE := execFnC e78 Tryz.f228 4 []
theorem x228_ok : FnE.OK Tryz.prog (Env.gam e0) 228 x228 := execFnC_ok e78_good hmix Tryz.func228 Tryz.call228 (by decide +kernel) rfl
noncomputable def e79 : Env := e78.add 228 x228
theorem e79_good : e79.Good := Env.Good.add e78_good x228_ok
/-- math.floor -/
noncomputable def x209 : FnE := execFnC e79 Tryz.f209 6 []
theorem x209_ok : FnE.OK Tryz.prog (Env.gam e0) 209 x209 := execFnC_ok e79_good hmix Tryz.func209 Tryz.call209 (by decide +kernel) rfl
noncomputable def e80 : Env := e79.add 209 x209
theorem e80_good : e80.Good := Env.Good.add e79_good x209_ok
/-- math.Floor -/
noncomputable def x178 : FnE := execFnC e80 Tryz.f178 3 []
theorem x178_ok : FnE.OK Tryz.prog (Env.gam e0) 178 x178 := execFnC_ok e80_good hmix Tryz.func178 Tryz.call178 (by decide +kernel) rfl
noncomputable def e81 : Env := e80.add 178 x178
theorem e81_good : e81.Good := Env.Good.add e80_good x178_ok
/-- mandrel/num.exp -/
noncomputable def x179 : FnE := execFnC e81 Tryz.f179 6 [(12, [4, 5, 6, 7])]
theorem x179_ok : FnE.OK Tryz.prog (Env.gam e0) 179 x179 := execFnC_ok e81_good hmix Tryz.func179 Tryz.call179 (by decide +kernel) rfl
noncomputable def e82 : Env := e81.add 179 x179
theorem e82_good : e82.Good := Env.Good.add e81_good x179_ok
/-- mandrel/num.sigmoid -/
noncomputable def x180 : FnE := execFnC e82 Tryz.f180 4 []
theorem x180_ok : FnE.OK Tryz.prog (Env.gam e0) 180 x180 := execFnC_ok e82_good hmix Tryz.func180 Tryz.call180 (by decide +kernel) rfl
noncomputable def e83 : Env := e82.add 180 x180
theorem e83_good : e83.Good := Env.Good.add e82_good x180_ok
/-- mandrel/num.tanh -/
noncomputable def x181 : FnE := execFnC e83 Tryz.f181 6 []
theorem x181_ok : FnE.OK Tryz.prog (Env.gam e0) 181 x181 := execFnC_ok e83_good hmix Tryz.func181 Tryz.call181 (by decide +kernel) rfl
noncomputable def e84 : Env := e83.add 181 x181
theorem e84_good : e84.Good := Env.Good.add e83_good x181_ok
/-- mandrel/num.ofFloat -/
noncomputable def x152 : FnE := execFnC e84 Tryz.f152 6 []
theorem x152_ok : FnE.OK Tryz.prog (Env.gam e0) 152 x152 := execFnC_ok e84_good hmix Tryz.func152 Tryz.call152 (by decide +kernel) rfl
noncomputable def e85 : Env := e84.add 152 x152
theorem e85_good : e85.Good := Env.Good.add e84_good x152_ok
/-- mandrel/num.Unary -/
noncomputable def x118 : FnE := execFnC e85 Tryz.f118 7 []
theorem x118_ok : FnE.OK Tryz.prog (Env.gam e0) 118 x118 := execFnC_ok e85_good hmix Tryz.func118 Tryz.call118 (by decide +kernel) rfl
noncomputable def e86 : Env := e85.add 118 x118
theorem e86_good : e86.Good := Env.Good.add e85_good x118_ok
/-- (mandrel/infer.maker).alike$1 -/
noncomputable def x154 : FnE := execFnC e86 Tryz.f154 4 []
theorem x154_ok : FnE.OK Tryz.prog (Env.gam e0) 154 x154 := execFnC_ok e86_good hmix Tryz.func154 Tryz.call154 (by decide +kernel) rfl
noncomputable def e87 : Env := e86.add 154 x154
theorem e87_good : e87.Good := Env.Good.add e86_good x154_ok
/-- slices.IndexFunc[[]mandrel/api.Value,mandrel/api.Value] -/
noncomputable def x182 : FnE := execFnC e87 Tryz.f182 5 [(2, [0, 1, 7, 8])]
theorem x182_ok : FnE.OK Tryz.prog (Env.gam e0) 182 x182 := execFnC_ok e87_good hmix Tryz.func182 Tryz.call182 (by decide +kernel) rfl
noncomputable def e88 : Env := e87.add 182 x182
theorem e88_good : e88.Good := Env.Good.add e87_good x182_ok
/-- slices.ContainsFunc[[]mandrel/api.Value,mandrel/api.Value] -/
noncomputable def x153 : FnE := execFnC e88 Tryz.f153 4 []
theorem x153_ok : FnE.OK Tryz.prog (Env.gam e0) 153 x153 := execFnC_ok e88_good hmix Tryz.func153 Tryz.call153 (by decide +kernel) rfl
noncomputable def e89 : Env := e88.add 153 x153
theorem e89_good : e89.Good := Env.Good.add e88_good x153_ok
/-- (mandrel/infer.maker).alike -/
noncomputable def x119 : FnE := execFnC e89 Tryz.f119 4 []
theorem x119_ok : FnE.OK Tryz.prog (Env.gam e0) 119 x119 := execFnC_ok e89_good hmix Tryz.func119 Tryz.call119 (by decide +kernel) rfl
noncomputable def e90 : Env := e89.add 119 x119
theorem e90_good : e90.Good := Env.Good.add e89_good x119_ok
/-- (mandrel/infer.maker).typ -/
noncomputable def x93 : FnE := execFnC e90 Tryz.f93 8 []
theorem x93_ok : FnE.OK Tryz.prog (Env.gam e0) 93 x93 := execFnC_ok e90_good hmix Tryz.func93 Tryz.call93 (by decide +kernel) rfl
noncomputable def e91 : Env := e90.add 93 x93
theorem e91_good : e91.Good := Env.Good.add e90_good x93_ok
/-- slices.Equal[[]int,int] -/
noncomputable def x77 : FnE := execFnC e91 Tryz.f77 5 [(4, [0, 1, 12, 13])]
theorem x77_ok : FnE.OK Tryz.prog (Env.gam e0) 77 x77 := execFnC_ok e91_good hmix Tryz.func77 Tryz.call77 (by decide +kernel) rfl
noncomputable def e92 : Env := e91.add 77 x77
theorem e92_good : e92.Good := Env.Good.add e91_good x77_ok
/-- slices.Clone[[]int,int] -/
theorem cn96 (w : World) (c : Nat) : Calls Tryz.prog 96 #[.slice none 0 c] w fun e w' => e = .returned (.slice none 0 0) ∧ w' = w := by
  have q : ∀ (w : World) (a : Option Addr) (n c n' c' : Nat), (binOp .eql 22 (.slice a n c) (.slice none n' c')).run Tryz.prog w = .ok (.bool a.isNone) w := fun w a n c n' c' => Go.Lib.run_eql_slice_nil w _ _ a n c n' c' Tryz.underlying22
  go_enter Tryz.func96, Tryz.ntmps96
  go_wp2
  go_ret
  exact ⟨rfl, rfl⟩
theorem ce96 (w : World) (a : Addr) (c : Nat) : Calls Tryz.prog 96 #[.slice (some a) 0 c] w fun e w' => (∃ b, e = .returned (.slice b 0 0)) ∧ ∃ o, w' = w.alloc o := by
  have q : ∀ (w : World) (a : Option Addr) (n c n' c' : Nat), (binOp .eql 22 (.slice a n c) (.slice none n' c')).run Tryz.prog w = .ok (.bool a.isNone) w := fun w a n c n' c' => Go.Lib.run_eql_slice_nil w _ _ a n c n' c' Tryz.underlying22
  go_enter Tryz.func96, Tryz.ntmps96
  go_wp2
  go_ret
  exact ⟨⟨_, rfl⟩, ⟨_, rfl⟩⟩
noncomputable def b96 : FnE := execFnC e92 Tryz.f96 4 []
noncomputable def x96 : FnE := cloneE b96
theorem x96_ok : FnE.OK Tryz.prog (Env.gam e0) 96 x96 := cloneE_ok (execFnC_ok e92_good hmix Tryz.func96 Tryz.call96 (by decide +kernel) rfl) Tryz.call96 cn96 ce96
noncomputable def e93 : Env := e92.add 96 x96
theorem e93_good : e93.Good := Env.Good.add e92_good x96_ok
/-- mandrel/shape.Broadcast -/
noncomputable def x76 : FnE := execFnC e93 Tryz.f76 7 [(2, [0, 1, 18, 19, 20]), (13, [1, 10, 11, 48, 49])]
theorem x76_ok : FnE.OK Tryz.prog (Env.gam e0) 76 x76 := execFnC_ok e93_good hmix Tryz.func76 Tryz.call76 (by decide +kernel) rfl
noncomputable def e94 : Env := e93.add 76 x76
theorem e94_good : e94.Good := Env.Good.add e93_good x76_ok
/-- mandrel/infer.spread -/
noncomputable def x120 : FnE := execFnC e94 Tryz.f120 5 []
theorem x120_ok : FnE.OK Tryz.prog (Env.gam e0) 120 x120 := execFnC_ok e94_good hmix Tryz.func120 Tryz.call120 (by decide +kernel) rfl
noncomputable def e95 : Env := e94.add 120 x120
theorem e95_good : e95.Good := Env.Good.add e94_good x120_ok
/-- mandrel/infer.axis -/
noncomputable def x121 : FnE := execFnC e95 Tryz.f121 5 []
theorem x121_ok : FnE.OK Tryz.prog (Env.gam e0) 121 x121 := execFnC_ok e95_good hmix Tryz.func121 Tryz.call121 (by decide +kernel) rfl
noncomputable def e96 : Env := e95.add 121 x121
theorem e96_good : e96.Good := Env.Good.add e95_good x121_ok
/-- slices.Clone[[]int64,int64] -/
theorem cn43 (w : World) (c : Nat) : Calls Tryz.prog 43 #[.slice none 0 c] w fun e w' => e = .returned (.slice none 0 0) ∧ w' = w := by
  have q : ∀ (w : World) (a : Option Addr) (n c n' c' : Nat), (binOp .eql 23 (.slice a n c) (.slice none n' c')).run Tryz.prog w = .ok (.bool a.isNone) w := fun w a n c n' c' => Go.Lib.run_eql_slice_nil w _ _ a n c n' c' Tryz.underlying23
  go_enter Tryz.func43, Tryz.ntmps43
  go_wp2
  go_ret
  exact ⟨rfl, rfl⟩
theorem ce43 (w : World) (a : Addr) (c : Nat) : Calls Tryz.prog 43 #[.slice (some a) 0 c] w fun e w' => (∃ b, e = .returned (.slice b 0 0)) ∧ ∃ o, w' = w.alloc o := by
  have q : ∀ (w : World) (a : Option Addr) (n c n' c' : Nat), (binOp .eql 23 (.slice a n c) (.slice none n' c')).run Tryz.prog w = .ok (.bool a.isNone) w := fun w a n c n' c' => Go.Lib.run_eql_slice_nil w _ _ a n c n' c' Tryz.underlying23
  go_enter Tryz.func43, Tryz.ntmps43
  go_wp2
  go_ret
  exact ⟨⟨_, rfl⟩, ⟨_, rfl⟩⟩
noncomputable def b43 : FnE := execFnC e96 Tryz.f43 4 []
noncomputable def x43 : FnE := cloneE b43
theorem x43_ok : FnE.OK Tryz.prog (Env.gam e0) 43 x43 := cloneE_ok (execFnC_ok e96_good hmix Tryz.func43 Tryz.call43 (by decide +kernel) rfl) Tryz.call43 cn43 ce43
noncomputable def e97 : Env := e96.add 43 x43
theorem e97_good : e97.Good := Env.Good.add e96_good x43_ok
/-- mandrel/schema.Ints -/
noncomputable def x30 : FnE := execFnC e97 Tryz.f30 5 []
theorem x30_ok : FnE.OK Tryz.prog (Env.gam e0) 30 x30 := execFnC_ok e97_good hmix Tryz.func30 Tryz.call30 (by decide +kernel) rfl
noncomputable def e98 : Env := e97.add 30 x30
theorem e98_good : e98.Good := Env.Good.add e97_good x30_ok
/-- mandrel/infer.upTo -/
noncomputable def x155 : FnE := execFnC e98 Tryz.f155 4 [(3, [3, 5, 6])]
theorem x155_ok : FnE.OK Tryz.prog (Env.gam e0) 155 x155 := execFnC_ok e98_good hmix Tryz.func155 Tryz.call155 (by decide +kernel) rfl
noncomputable def e99 : Env := e98.add 155 x155
theorem e99_good : e99.Good := Env.Good.add e98_good x155_ok
/-- slices.Index[[]int,int] -/
noncomputable def x183 : FnE := execFnC e99 Tryz.f183 5 [(2, [0, 1, 7, 8])]
theorem x183_ok : FnE.OK Tryz.prog (Env.gam e0) 183 x183 := execFnC_ok e99_good hmix Tryz.func183 Tryz.call183 (by decide +kernel) rfl
noncomputable def e100 : Env := e99.add 183 x183
theorem e100_good : e100.Good := Env.Good.add e99_good x183_ok
/-- slices.Contains[[]int,int] -/
noncomputable def x157 : FnE := execFnC e100 Tryz.f157 4 []
theorem x157_ok : FnE.OK Tryz.prog (Env.gam e0) 157 x157 := execFnC_ok e100_good hmix Tryz.func157 Tryz.call157 (by decide +kernel) rfl
noncomputable def e101 : Env := e100.add 157 x157
theorem e101_good : e101.Good := Env.Good.add e100_good x157_ok
/-- mandrel/infer.axes -/
noncomputable def x156 : FnE := execFnC e101 Tryz.f156 5 [(3, [1, 5, 9, 10, 11])]
theorem x156_ok : FnE.OK Tryz.prog (Env.gam e0) 156 x156 := execFnC_ok e101_good hmix Tryz.func156 Tryz.call156 (by decide +kernel) rfl
noncomputable def e102 : Env := e101.add 156 x156
theorem e102_good : e102.Good := Env.Good.add e101_good x156_ok
/-- (mandrel/infer.maker).reduced -/
noncomputable def x122 : FnE := execFnC e102 Tryz.f122 6 [(9, [6, 7, 8, 39, 40, 41])]
theorem x122_ok : FnE.OK Tryz.prog (Env.gam e0) 122 x122 := execFnC_ok e102_good hmix Tryz.func122 Tryz.call122 (by decide +kernel) rfl
noncomputable def e103 : Env := e102.add 122 x122
theorem e103_good : e103.Good := Env.Good.add e102_good x122_ok
/-- mandrel/infer.product -/
noncomputable def x123 : FnE := execFnC e103 Tryz.f123 6 []
theorem x123_ok : FnE.OK Tryz.prog (Env.gam e0) 123 x123 := execFnC_ok e103_good hmix Tryz.func123 Tryz.call123 (by decide +kernel) rfl
noncomputable def e104 : Env := e103.add 123 x123
theorem e104_good : e104.Good := Env.Good.add e103_good x123_ok
/-- (mandrel/infer.maker).turned -/
noncomputable def x158 : FnE := execFnC e104 Tryz.f158 6 []
theorem x158_ok : FnE.OK Tryz.prog (Env.gam e0) 158 x158 := execFnC_ok e104_good hmix Tryz.func158 Tryz.call158 (by decide +kernel) rfl
noncomputable def e105 : Env := e104.add 158 x158
theorem e105_good : e105.Good := Env.Good.add e104_good x158_ok
/-- (mandrel/infer.maker).gemm -/
noncomputable def x124 : FnE := execFnC e105 Tryz.f124 6 []
theorem x124_ok : FnE.OK Tryz.prog (Env.gam e0) 124 x124 := execFnC_ok e105_good hmix Tryz.func124 Tryz.call124 (by decide +kernel) rfl
noncomputable def e106 : Env := e105.add 124 x124
theorem e106_good : e106.Good := Env.Good.add e105_good x124_ok
/-- mandrel/infer.numbers -/
noncomputable def x160 : FnE := execFnC e106 Tryz.f160 6 [(4, [3, 4, 5, 14, 21, 22, 23])]
theorem x160_ok : FnE.OK Tryz.prog (Env.gam e0) 160 x160 := execFnC_ok e106_good hmix Tryz.func160 Tryz.call160 (by decide +kernel) rfl
noncomputable def e107 : Env := e106.add 160 x160
theorem e107_good : e107.Good := Env.Good.add e106_good x160_ok
/-- (mandrel/infer.maker).window -/
noncomputable def x159 : FnE := execFnC e107 Tryz.f159 5 []
theorem x159_ok : FnE.OK Tryz.prog (Env.gam e0) 159 x159 := execFnC_ok e107_good hmix Tryz.func159 Tryz.call159 (by decide +kernel) rfl
noncomputable def e108 : Env := e107.add 159 x159
theorem e108_good : e108.Good := Env.Good.add e107_good x159_ok
/-- (mandrel/infer.maker).conv -/
noncomputable def x125 : FnE := execFnC e108 Tryz.f125 7 []
theorem x125_ok : FnE.OK Tryz.prog (Env.gam e0) 125 x125 := execFnC_ok e108_good hmix Tryz.func125 Tryz.call125 (by decide +kernel) rfl
noncomputable def e109 : Env := e108.add 125 x125
theorem e109_good : e109.Good := Env.Good.add e108_good x125_ok
/-- (mandrel/infer.maker).pool -/
noncomputable def x126 : FnE := execFnC e109 Tryz.f126 6 [(5, [1, 5, 6, 7, 26, 27, 28])]
theorem x126_ok : FnE.OK Tryz.prog (Env.gam e0) 126 x126 := execFnC_ok e109_good hmix Tryz.func126 Tryz.call126 (by decide +kernel) rfl
noncomputable def e110 : Env := e109.add 126 x126
theorem e110_good : e110.Good := Env.Good.add e109_good x126_ok
/-- mandrel/infer.count -/
noncomputable def x185 : FnE := execFnC e110 Tryz.f185 4 []
theorem x185_ok : FnE.OK Tryz.prog (Env.gam e0) 185 x185 := execFnC_ok e110_good hmix Tryz.func185 Tryz.call185 (by decide +kernel) rfl
noncomputable def e111 : Env := e110.add 185 x185
theorem e111_good : e111.Good := Env.Good.add e110_good x185_ok
/-- (mandrel/infer.maker).reshape -/
noncomputable def x161 : FnE := execFnC e111 Tryz.f161 7 [(4, [1, 5, 6, 7, 13, 14, 15])]
theorem x161_ok : FnE.OK Tryz.prog (Env.gam e0) 161 x161 := execFnC_ok e111_good hmix Tryz.func161 Tryz.call161 (by decide +kernel) rfl
noncomputable def e112 : Env := e111.add 161 x161
theorem e112_good : e112.Good := Env.Good.add e111_good x161_ok
/-- slices.Reverse[[]int64,int64] -/
noncomputable def x186 : FnE := execFnC e112 Tryz.f186 5 [(1, [0, 2, 3])]
theorem x186_ok : FnE.OK Tryz.prog (Env.gam e0) 186 x186 := execFnC_ok e112_good hmix Tryz.func186 Tryz.call186 (by decide +kernel) rfl
noncomputable def e113 : Env := e112.add 186 x186
theorem e113_good : e113.Good := Env.Good.add e112_good x186_ok
/-- (mandrel/infer.maker).transpose -/
noncomputable def x162 : FnE := execFnC e113 Tryz.f162 6 [(6, [1, 6, 7, 24, 25, 26])]
theorem x162_ok : FnE.OK Tryz.prog (Env.gam e0) 162 x162 := execFnC_ok e113_good hmix Tryz.func162 Tryz.call162 (by decide +kernel) rfl
noncomputable def e114 : Env := e113.add 162 x162
theorem e114_good : e114.Good := Env.Good.add e113_good x162_ok
/-- (mandrel/infer.maker).concat -/
noncomputable def x163 : FnE := execFnC e114 Tryz.f163 6 [(4, [1, 5, 6, 21, 22, 23]), (8, [1, 5, 6, 21, 22, 23, 35, 36, 37])]
theorem x163_ok : FnE.OK Tryz.prog (Env.gam e0) 163 x163 := execFnC_ok e114_good hmix Tryz.func163 Tryz.call163 (by decide +kernel) rfl
noncomputable def e115 : Env := e114.add 163 x163
theorem e115_good : e115.Good := Env.Good.add e114_good x163_ok
/-- mandrel/infer.bound -/
noncomputable def x187 : FnE := execFnC e115 Tryz.f187 4 []
theorem x187_ok : FnE.OK Tryz.prog (Env.gam e0) 187 x187 := execFnC_ok e115_good hmix Tryz.func187 Tryz.call187 (by decide +kernel) rfl
noncomputable def e116 : Env := e115.add 187 x187
theorem e116_good : e116.Good := Env.Good.add e115_good x187_ok
/-- (mandrel/infer.maker).slice -/
noncomputable def x164 : FnE := execFnC e116 Tryz.f164 7 [(6, [1, 5, 6, 8, 41, 42, 43])]
theorem x164_ok : FnE.OK Tryz.prog (Env.gam e0) 164 x164 := execFnC_ok e116_good hmix Tryz.func164 Tryz.call164 (by decide +kernel) rfl
noncomputable def e117 : Env := e116.add 164 x164
theorem e117_good : e117.Good := Env.Good.add e116_good x164_ok
/-- slices.Grow[[]int,int] -/
noncomputable def x188 : FnE := execFnC e117 Tryz.f188 5 []
theorem x188_ok : FnE.OK Tryz.prog (Env.gam e0) 188 x188 := execFnC_ok e117_good hmix Tryz.func188 Tryz.call188 (by decide +kernel) rfl
noncomputable def e118 : Env := e117.add 188 x188
theorem e118_good : e118.Good := Env.Good.add e117_good x188_ok
/-- slices.Concat[[]int,int] -/
noncomputable def x165 : FnE := execFnC e118 Tryz.f165 6 [(3, [0, 3, 9, 10, 11]), (11, [6, 25, 26, 27])]
theorem x165_ok : FnE.OK Tryz.prog (Env.gam e0) 165 x165 := execFnC_ok e118_good hmix Tryz.func165 Tryz.call165 (by decide +kernel) rfl
noncomputable def e119 : Env := e118.add 165 x165
theorem e119_good : e119.Good := Env.Good.add e118_good x165_ok
/-- (mandrel/infer.maker).pad -/
noncomputable def x166 : FnE := execFnC e119 Tryz.f166 6 [(4, [1, 5, 6, 17, 18])]
theorem x166_ok : FnE.OK Tryz.prog (Env.gam e0) 166 x166 := execFnC_ok e119_good hmix Tryz.func166 Tryz.call166 (by decide +kernel) rfl
noncomputable def e120 : Env := e119.add 166 x166
theorem e120_good : e120.Good := Env.Good.add e119_good x166_ok
/-- cmp.isNaN[int] -/
noncomputable def x218 : FnE := execFnC e120 Tryz.f218 3 []
theorem x218_ok : FnE.OK Tryz.prog (Env.gam e0) 218 x218 := execFnC_ok e120_good hmix Tryz.func218 Tryz.call218 (by decide +kernel) rfl
noncomputable def e121 : Env := e120.add 218 x218
theorem e121_good : e121.Good := Env.Good.add e120_good x218_ok
/-- cmp.Less[int] -/
noncomputable def x198 : FnE := execFnC e121 Tryz.f198 5 []
theorem x198_ok : FnE.OK Tryz.prog (Env.gam e0) 198 x198 := execFnC_ok e121_good hmix Tryz.func198 Tryz.call198 (by decide +kernel) rfl
noncomputable def e122 : Env := e121.add 198 x198
theorem e122_good : e122.Good := Env.Good.add e121_good x198_ok
/-- slices.insertionSortOrdered[int] -/
noncomputable def x192 : FnE := execFnC e122 Tryz.f192 6 [(1, [0, 1, 2, 6]), (4, [0, 1, 2, 6, 7])]
theorem x192_ok : FnE.OK Tryz.prog (Env.gam e0) 192 x192 := execFnC_ok e122_good hmix Tryz.func192 Tryz.call192 (by decide +kernel) rfl
noncomputable def e123 : Env := e122.add 192 x192
theorem e123_good : e123.Good := Env.Good.add e122_good x192_ok
/-- slices.siftDownOrdered[int] -/
noncomputable def x213 : FnE := execFnC e123 Tryz.f213 7 [(1, [0, 2, 3, 8])]
theorem x213_ok : FnE.OK Tryz.prog (Env.gam e0) 213 x213 := execFnC_ok e123_good hmix Tryz.func213 Tryz.call213 (by decide +kernel) rfl
noncomputable def e124 : Env := e123.add 213 x213
theorem e124_good : e124.Good := Env.Good.add e123_good x213_ok
/-- slices.heapSortOrdered[int] -/
noncomputable def x193 : FnE := execFnC e124 Tryz.f193 6 [(4, [0, 6, 7, 8, 9]), (8, [0, 6, 7, 10])]
theorem x193_ok : FnE.OK Tryz.prog (Env.gam e0) 193 x193 := execFnC_ok e124_good hmix Tryz.func193 Tryz.call193 (by decide +kernel) rfl
noncomputable def e125 : Env := e124.add 193 x193
theorem e125_good : e125.Good := Env.Good.add e124_good x193_ok
/-- math/bits.Len32 -/
noncomputable def x201 : FnE := execFnC e125 Tryz.f201 5 []
theorem x201_ok : FnE.OK Tryz.prog (Env.gam e0) 201 x201 := execFnC_ok e125_good hmix Tryz.func201 Tryz.call201 (by decide +kernel) rfl
noncomputable def e126 : Env := e125.add 201 x201
theorem e126_good : e126.Good := Env.Good.add e125_good x201_ok
/-- math/bits.Len64 -/
noncomputable def x202 : FnE := execFnC e126 Tryz.f202 5 []
theorem x202_ok : FnE.OK Tryz.prog (Env.gam e0) 202 x202 := execFnC_ok e126_good hmix Tryz.func202 Tryz.call202 (by decide +kernel) rfl
noncomputable def e127 : Env := e126.add 202 x202
theorem e127_good : e127.Good := Env.Good.add e126_good x202_ok
/-- math/bits.Len -/
noncomputable def x172 : FnE := execFnC e127 Tryz.f172 4 []
theorem x172_ok : FnE.OK Tryz.prog (Env.gam e0) 172 x172 := execFnC_ok e127_good hmix Tryz.func172 Tryz.call172 (by decide +kernel) rfl
noncomputable def e128 : Env := e127.add 172 x172
theorem e128_good : e128.Good := Env.Good.add e127_good x172_ok
/-- slices.nextPowerOfTwo -/
noncomputable def x214 : FnE := execFnC e128 Tryz.f214 3 []
theorem x214_ok : FnE.OK Tryz.prog (Env.gam e0) 214 x214 := execFnC_ok e128_good hmix Tryz.func214 Tryz.call214 (by decide +kernel) rfl
noncomputable def e129 : Env := e128.add 214 x214
theorem e129_good : e129.Good := Env.Good.add e128_good x214_ok
/-- (*slices.xorshift).Next -/
noncomputable def x215 : FnE := execFnC e129 Tryz.f215 6 []
theorem x215_ok : FnE.OK Tryz.prog (Env.gam e0) 215 x215 := execFnC_ok e129_good hmix Tryz.func215 Tryz.call215 (by decide +kernel) rfl
noncomputable def e130 : Env := e129.add 215 x215
theorem e130_good : e130.Good := Env.Good.add e129_good x215_ok
/-- slices.breakPatternsOrdered[int] -/
noncomputable def x194 : FnE := execFnC e130 Tryz.f194 7 [(5, [0, 1, 6, 7, 8, 9])]
theorem x194_ok : FnE.OK Tryz.prog (Env.gam e0) 194 x194 := execFnC_ok e130_good hmix Tryz.func194 Tryz.call194 (by decide +kernel) rfl
noncomputable def e131 : Env := e130.add 194 x194
theorem e131_good : e131.Good := Env.Good.add e130_good x194_ok
/-- slices.order2Ordered[int] -/
noncomputable def x230 : FnE := execFnC e131 Tryz.f230 5 []
theorem x230_ok : FnE.OK Tryz.prog (Env.gam e0) 230 x230 := execFnC_ok e131_good hmix Tryz.func230 Tryz.call230 (by decide +kernel) rfl
noncomputable def e132 : Env := e131.add 230 x230
theorem e132_good : e132.Good := Env.Good.add e131_good x230_ok
/-- slices.medianOrdered[int] -/
noncomputable def x217 : FnE := execFnC e132 Tryz.f217 6 []
theorem x217_ok : FnE.OK Tryz.prog (Env.gam e0) 217 x217 := execFnC_ok e132_good hmix Tryz.func217 Tryz.call217 (by decide +kernel) rfl
noncomputable def e133 : Env := e132.add 217 x217
theorem e133_good : e133.Good := Env.Good.add e132_good x217_ok
/-- slices.medianAdjacentOrdered[int] -/
noncomputable def x216 : FnE := execFnC e133 Tryz.f216 4 []
theorem x216_ok : FnE.OK Tryz.prog (Env.gam e0) 216 x216 := execFnC_ok e133_good hmix Tryz.func216 Tryz.call216 (by decide +kernel) rfl
noncomputable def e134 : Env := e133.add 216 x216
theorem e134_good : e134.Good := Env.Good.add e133_good x216_ok
/-- slices.choosePivotOrdered[int] -/
noncomputable def x195 : FnE := execFnC e134 Tryz.f195 6 []
theorem x195_ok : FnE.OK Tryz.prog (Env.gam e0) 195 x195 := execFnC_ok e134_good hmix Tryz.func195 Tryz.call195 (by decide +kernel) rfl
noncomputable def e135 : Env := e134.add 195 x195
theorem e135_good : e135.Good := Env.Good.add e134_good x195_ok
/-- slices.reverseRangeOrdered[int] -/
noncomputable def x196 : FnE := execFnC e135 Tryz.f196 6 [(2, [0, 6, 7])]
theorem x196_ok : FnE.OK Tryz.prog (Env.gam e0) 196 x196 := execFnC_ok e135_good hmix Tryz.func196 Tryz.call196 (by decide +kernel) rfl
noncomputable def e136 : Env := e135.add 196 x196
theorem e136_good : e136.Good := Env.Good.add e135_good x196_ok
/-- slices.partialInsertionSortOrdered[int] -/
noncomputable def x197 : FnE := execFnC e136 Tryz.f197 8 [(3, [0, 1, 2, 7, 8]), (5, [0, 1, 2, 7, 8]), (14, [0, 1, 2, 7, 8, 9]), (20, [0, 1, 2, 7, 8, 10])]
theorem x197_ok : FnE.OK Tryz.prog (Env.gam e0) 197 x197 := execFnC_ok e136_good hmix Tryz.func197 Tryz.call197 (by decide +kernel) rfl
noncomputable def e137 : Env := e136.add 197 x197
theorem e137_good : e137.Good := Env.Good.add e136_good x197_ok
/-- slices.partitionEqualOrdered[int] -/
noncomputable def x199 : FnE := execFnC e137 Tryz.f199 7 [(3, [0, 1, 9, 10]), (3, [0, 1, 9, 10]), (5, [0, 1, 9, 10])]
theorem x199_ok : FnE.OK Tryz.prog (Env.gam e0) 199 x199 := execFnC_ok e137_good hmix Tryz.func199 Tryz.call199 (by decide +kernel) rfl
noncomputable def e138 : Env := e137.add 199 x199
theorem e138_good : e138.Good := Env.Good.add e137_good x199_ok
/-- slices.partitionOrdered[int] -/
noncomputable def x200 : FnE := execFnC e138 Tryz.f200 8 [(3, [0, 1, 10, 11]), (5, [0, 1, 10, 11]), (13, [0, 1, 10, 11]), (13, [0, 1, 10, 11]), (15, [0, 1, 10, 11])]
theorem x200_ok : FnE.OK Tryz.prog (Env.gam e0) 200 x200 := execFnC_ok e138_good hmix Tryz.func200 Tryz.call200 (by decide +kernel) rfl
noncomputable def e139 : Env := e138.add 200 x200
theorem e139_good : e139.Good := Env.Good.add e138_good x200_ok
/-- slices.pdqsortOrdered[int] -/
noncomputable def x171 : FnE := execFnC e139 Tryz.f171 8 [(2, [0, 1, 2, 3, 8, 9])]
theorem x171_ok : FnE.OK Tryz.prog (Env.gam e0) 171 x171 := execFnC_ok e139_good hmix Tryz.func171 Tryz.call171 (by decide +kernel) rfl
noncomputable def e140 : Env := e139.add 171 x171
theorem e140_good : e140.Good := Env.Good.add e139_good x171_ok
/-- slices.Sort[[]int,int] -/
noncomputable def x134 : FnE := execFnC e140 Tryz.f134 4 []
theorem x134_ok : FnE.OK Tryz.prog (Env.gam e0) 134 x134 := execFnC_ok e140_good hmix Tryz.func134 Tryz.call134 (by decide +kernel) rfl
noncomputable def e141 : Env := e140.add 134 x134
theorem e141_good : e141.Good := Env.Good.add e140_good x134_ok
/-- slices.Reverse[[]int,int] -/
noncomputable def x189 : FnE := execFnC e141 Tryz.f189 5 [(1, [0, 2, 3])]
theorem x189_ok : FnE.OK Tryz.prog (Env.gam e0) 189 x189 := execFnC_ok e141_good hmix Tryz.func189 Tryz.call189 (by decide +kernel) rfl
noncomputable def e142 : Env := e141.add 189 x189
theorem e142_good : e142.Good := Env.Good.add e141_good x189_ok
/-- slices.Delete[[]int,int] -/
noncomputable def x190 : FnE := execFnC e142 Tryz.f190 6 []
theorem x190_ok : FnE.OK Tryz.prog (Env.gam e0) 190 x190 := execFnC_ok e142_good hmix Tryz.func190 Tryz.call190 (by decide +kernel) rfl
noncomputable def e143 : Env := e142.add 190 x190
theorem e143_good : e143.Good := Env.Good.add e142_good x190_ok
/-- (mandrel/infer.maker).squeeze -/
noncomputable def x167 : FnE := execFnC e143 Tryz.f167 6 [(6, [6, 21, 22, 23])]
theorem x167_ok : FnE.OK Tryz.prog (Env.gam e0) 167 x167 := execFnC_ok e143_good hmix Tryz.func167 Tryz.call167 (by decide +kernel) rfl
noncomputable def e144 : Env := e143.add 167 x167
theorem e144_good : e144.Good := Env.Good.add e143_good x167_ok
/-- slices.rotateLeft[int] -/
noncomputable def x229 : FnE := execFnC e144 Tryz.f229 4 []
theorem x229_ok : FnE.OK Tryz.prog (Env.gam e0) 229 x229 := execFnC_ok e144_good hmix Tryz.func229 Tryz.call229 (by decide +kernel) rfl
noncomputable def e145 : Env := e144.add 229 x229
theorem e145_good : e145.Good := Env.Good.add e144_good x229_ok
/-- slices.rotateRight[int] -/
noncomputable def x212 : FnE := execFnC e145 Tryz.f212 4 []
theorem x212_ok : FnE.OK Tryz.prog (Env.gam e0) 212 x212 := execFnC_ok e145_good hmix Tryz.func212 Tryz.call212 (by decide +kernel) rfl
noncomputable def e146 : Env := e145.add 212 x212
theorem e146_good : e146.Good := Env.Good.add e145_good x212_ok
/-- slices.Insert[[]int,int] -/
noncomputable def x191 : FnE := execFnC e146 Tryz.f191 7 []
theorem x191_ok : FnE.OK Tryz.prog (Env.gam e0) 191 x191 := execFnC_ok e146_good hmix Tryz.func191 Tryz.call191 (by decide +kernel) rfl
noncomputable def e147 : Env := e146.add 191 x191
theorem e147_good : e147.Good := Env.Good.add e146_good x191_ok
/-- (mandrel/infer.maker).unsqueeze -/
noncomputable def x168 : FnE := execFnC e147 Tryz.f168 6 [(6, [7, 24, 25, 26])]
theorem x168_ok : FnE.OK Tryz.prog (Env.gam e0) 168 x168 := execFnC_ok e147_good hmix Tryz.func168 Tryz.call168 (by decide +kernel) rfl
noncomputable def e148 : Env := e147.add 168 x168
theorem e148_good : e148.Good := Env.Good.add e147_good x168_ok
/-- (mandrel/infer.maker).flatten -/
noncomputable def x169 : FnE := execFnC e148 Tryz.f169 6 []
theorem x169_ok : FnE.OK Tryz.prog (Env.gam e0) 169 x169 := execFnC_ok e148_good hmix Tryz.func169 Tryz.call169 (by decide +kernel) rfl
noncomputable def e149 : Env := e148.add 169 x169
theorem e149_good : e149.Good := Env.Good.add e148_good x169_ok
/-- (mandrel/infer.maker).moved -/
noncomputable def x127 : FnE := execFnC e149 Tryz.f127 7 []
theorem x127_ok : FnE.OK Tryz.prog (Env.gam e0) 127 x127 := execFnC_ok e149_good hmix Tryz.func127 Tryz.call127 (by decide +kernel) rfl
noncomputable def e150 : Env := e149.add 127 x127
theorem e150_good : e150.Good := Env.Good.add e149_good x127_ok
/-- (mandrel/infer.maker).dims -/
noncomputable def x94 : FnE := execFnC e150 Tryz.f94 8 [(56, [3, 132, 133, 134])]
theorem x94_ok : FnE.OK Tryz.prog (Env.gam e0) 94 x94 := execFnC_ok e150_good hmix Tryz.func94 Tryz.call94 (by decide +kernel) rfl
noncomputable def e151 : Env := e150.add 94 x94
theorem e151_good : e151.Good := Env.Good.add e150_good x94_ok
/-- (mandrel/infer.maker).then -/
noncomputable def x95 : FnE := execFnC e151 Tryz.f95 6 [(3, [1, 16, 17, 18])]
theorem x95_ok : FnE.OK Tryz.prog (Env.gam e0) 95 x95 := execFnC_ok e151_good hmix Tryz.func95 Tryz.call95 (by decide +kernel) rfl
noncomputable def e152 : Env := e151.add 95 x95
theorem e152_good : e152.Good := Env.Good.add e151_good x95_ok
/-- mandrel/infer.Out -/
noncomputable def d55 : DefC := ⟨89, Tryz.f89, 5, [], 5, 2, 15, [.tmp 4, .tmp 5]⟩
noncomputable def x55 : FnE := execFnDC e152 Tryz.f55 7 [(5, [1, 2, 4, 5, 26, 27, 28])] d55
theorem x55_ok : FnE.OK Tryz.prog (Env.gam e0) 55 x55 := execFnDC_ok e152_good (execFnD_ok (D := d55) e152_good hmix Tryz.func55 Tryz.call55 rfl rfl (by decide +kernel) rfl Tryz.func89 Tryz.call89 rfl rfl (by decide +kernel))
noncomputable def e153 : Env := e152.add 55 x55
theorem e153_good : e153.Good := Env.Good.add e152_good x55_ok
/-- mandrel/conv.begin -/
noncomputable def x28 : FnE := execFnC e153 Tryz.f28 6 [(3, [2, 4, 6, 9, 10, 11])]
theorem x28_ok : FnE.OK Tryz.prog (Env.gam e0) 28 x28 := execFnC_ok e153_good hmix Tryz.func28 Tryz.call28 (by decide +kernel) rfl
noncomputable def e154 : Env := e153.add 28 x28
theorem e154_good : e154.Good := Env.Good.add e153_good x28_ok
/-- mandrel/conv.pair -/
noncomputable def x63 : FnE := execFnC e154 Tryz.f63 5 []
theorem x63_ok : FnE.OK Tryz.prog (Env.gam e0) 63 x63 := execFnC_ok e154_good hmix Tryz.func63 Tryz.call63 (by decide +kernel) rfl
noncomputable def e155 : Env := e154.add 63 x63
theorem e155_good : e155.Good := Env.Good.add e154_good x63_ok
/-- mandrel/conv.look -/
noncomputable def x32 : FnE := execFnC e155 Tryz.f32 6 []
theorem x32_ok : FnE.OK Tryz.prog (Env.gam e0) 32 x32 := execFnC_ok e155_good hmix Tryz.func32 Tryz.call32 (by decide +kernel) rfl
noncomputable def e156 : Env := e155.add 32 x32
theorem e156_good : e156.Good := Env.Good.add e155_good x32_ok
/-- mandrel/shape.Strides -/
noncomputable def x85 : FnE := execFnC e156 Tryz.f85 6 [(7, [0, 6, 7, 22, 23])]
theorem x85_ok : FnE.OK Tryz.prog (Env.gam e0) 85 x85 := execFnC_ok e156_good hmix Tryz.func85 Tryz.call85 (by decide +kernel) rfl
noncomputable def e157 : Env := e156.add 85 x85
theorem e157_good : e157.Good := Env.Good.add e156_good x85_ok
/-- mandrel/shape.Coords -/
noncomputable def x58 : FnE := execFnC e157 Tryz.f58 6 [(9, [1, 10, 36, 37, 38])]
theorem x58_ok : FnE.OK Tryz.prog (Env.gam e0) 58 x58 := execFnC_ok e157_good hmix Tryz.func58 Tryz.call58 (by decide +kernel) rfl
noncomputable def e158 : Env := e157.add 58 x58
theorem e158_good : e158.Good := Env.Good.add e157_good x58_ok
/-- mandrel/conv.two -/
noncomputable def x60 : FnE := execFnC e158 Tryz.f60 5 []
theorem x60_ok : FnE.OK Tryz.prog (Env.gam e0) 60 x60 := execFnC_ok e158_good hmix Tryz.func60 Tryz.call60 (by decide +kernel) rfl
noncomputable def e159 : Env := e158.add 60 x60
theorem e159_good : e159.Good := Env.Good.add e158_good x60_ok
noncomputable def e160 : Env := e159.withRound (roundC e159 [])
theorem e160_good : e160.Good := Env.Good.withRound e159_good (roundC_ok e159_good hmix [])
/-- (mandrel/conv.window).places$1 -/
noncomputable def x99 : FnE := execFnC e160 Tryz.f99 7 [(1, [0, 1, 2, 3, 12, 13])]
theorem x99_ok : FnE.OK Tryz.prog (Env.gam e0) 99 x99 := execFnC_ok e160_good hmix Tryz.func99 Tryz.call99 (by decide +kernel) rfl
noncomputable def e161 : Env := e160.add 99 x99
theorem e161_good : e161.Good := Env.Good.add e160_good x99_ok
/-- (mandrel/conv.window).places -/
noncomputable def x59 : FnE := execFnC e161 Tryz.f59 4 []
theorem x59_ok : FnE.OK Tryz.prog (Env.gam e0) 59 x59 := execFnC_ok e161_good hmix Tryz.func59 Tryz.call59 (by decide +kernel) rfl
noncomputable def e162 : Env := e161.add 59 x59
theorem e162_good : e162.Good := Env.Good.add e161_good x59_ok
/-- mandrel/conv.conv -/
noncomputable def x29 : FnE := execFnC e162 Tryz.f29 8 [(9, [1, 2, 7, 8, 9, 11, 12, 13, 16, 69, 70]), (15, [1, 2, 7, 8, 9, 11, 12, 13, 16, 17, 18, 20, 21, 69, 70, 82, 83]), (20, [0, 1, 2, 3, 9, 21, 23, 24, 25, 65, 77, 91, 100, 108, 117, 131, 132, 133, 134, 135, 136, 137, 138, 139, 140, 141, 142, 143, 144])]
theorem x29_ok : FnE.OK Tryz.prog (Env.gam e0) 29 x29 := execFnC_ok e162_good hmix Tryz.func29 Tryz.call29 (by decide +kernel) rfl
noncomputable def e163 : Env := e162.add 29 x29
theorem e163_good : e163.Good := Env.Good.add e162_good x29_ok
/-- mandrel/num.toWhole -/
noncomputable def x130 : FnE := execFnC e163 Tryz.f130 5 []
theorem x130_ok : FnE.OK Tryz.prog (Env.gam e0) 130 x130 := execFnC_ok e163_good hmix Tryz.func130 Tryz.call130 (by decide +kernel) rfl
noncomputable def e164 : Env := e163.add 130 x130
theorem e164_good : e164.Good := Env.Good.add e163_good x130_ok
/-- mandrel/num.Cast -/
noncomputable def x101 : FnE := execFnC e164 Tryz.f101 6 []
theorem x101_ok : FnE.OK Tryz.prog (Env.gam e0) 101 x101 := execFnC_ok e164_good hmix Tryz.func101 Tryz.call101 (by decide +kernel) rfl
noncomputable def e165 : Env := e164.add 101 x101
theorem e165_good : e165.Good := Env.Good.add e164_good x101_ok
/-- mandrel/conv.together -/
noncomputable def x62 : FnE := execFnC e165 Tryz.f62 6 [(3, [0, 1, 2, 3, 4, 7, 8, 9, 14, 15, 16, 17, 18, 20, 21, 22, 23, 24, 26, 27, 28, 29, 30, 32, 33, 34])]
theorem x62_ok : FnE.OK Tryz.prog (Env.gam e0) 62 x62 := execFnC_ok e165_good hmix Tryz.func62 Tryz.call62 (by decide +kernel) rfl
noncomputable def e166 : Env := e165.add 62 x62
theorem e166_good : e166.Good := Env.Good.add e165_good x62_ok
/-- mandrel/conv.pool -/
noncomputable def x31 : FnE := execFnC e166 Tryz.f31 6 [(3, [3, 4, 5, 6, 9, 15, 16]), (7, [3, 4, 5, 6, 9, 11, 15, 16, 31, 32]), (10, [3, 4, 5, 6, 9, 11, 12, 15, 16, 31, 32, 37, 38])]
theorem x31_ok : FnE.OK Tryz.prog (Env.gam e0) 31 x31 := execFnC_ok e166_good hmix Tryz.func31 Tryz.call31 (by decide +kernel) rfl
noncomputable def e167 : Env := e166.add 31 x31
theorem e167_good : e167.Good := Env.Good.add e166_good x31_ok
/-- mandrel/conv.Do -/
noncomputable def x17 : FnE := execFnC e167 Tryz.f17 7 []
theorem x17_ok : FnE.OK Tryz.prog (Env.gam e0) 17 x17 := execFnC_ok e167_good hmix Tryz.func17 Tryz.call17 (by decide +kernel) rfl
noncomputable def e168 : Env := e167.add 17 x17
theorem e168_good : e168.Good := Env.Good.add e167_good x17_ok
/-- mandrel/mandrellaw13.live -/
noncomputable def x16 : FnE := execFnC e168 Tryz.f16 7 []
theorem x16_ok : FnE.OK Tryz.prog (Env.gam e0) 16 x16 := execFnC_ok e168_good hmix Tryz.func16 Tryz.call16 (by decide +kernel) rfl
noncomputable def e169 : Env := e168.add 16 x16
theorem e169_good : e169.Good := Env.Good.add e168_good x16_ok
/-- mandrel/mandrelref03.Same -/
noncomputable def x33 : FnE := execFnC e169 Tryz.f33 5 [(4, [0, 1, 5])]
theorem x33_ok : FnE.OK Tryz.prog (Env.gam e0) 33 x33 := execFnC_ok e169_good hmix Tryz.func33 Tryz.call33 (by decide +kernel) rfl
noncomputable def e170 : Env := e169.add 33 x33
theorem e170_good : e170.Good := Env.Good.add e169_good x33_ok
/-- mandrel/mandrelref05.SameTensor -/
noncomputable def x18 : FnE := execFnC e170 Tryz.f18 6 [(4, [2, 3, 5])]
theorem x18_ok : FnE.OK Tryz.prog (Env.gam e0) 18 x18 := execFnC_ok e170_good hmix Tryz.func18 Tryz.call18 (by decide +kernel) rfl
noncomputable def e171 : Env := e170.add 18 x18
theorem e171_good : e171.Good := Env.Good.add e170_good x18_ok
/-- mandrel/mandrellaw13.ConvGlobal -/
noncomputable def x3 : FnE := execFnC e171 Tryz.f3 7 []
theorem x3_ok : FnE.OK Tryz.prog (Env.gam e0) 3 x3 := execFnC_ok e171_good hmix Tryz.func3 Tryz.call3 (by decide +kernel) rfl
noncomputable def e172 : Env := e171.add 3 x3
theorem e172_good : e172.Good := Env.Good.add e171_good x3_ok
/-- mandrel/mandrellaw13.ConvOne -/
noncomputable def x4 : FnE := execFnC e172 Tryz.f4 6 []
theorem x4_ok : FnE.OK Tryz.prog (Env.gam e0) 4 x4 := execFnC_ok e172_good hmix Tryz.func4 Tryz.call4 (by decide +kernel) rfl
noncomputable def e173 : Env := e172.add 4 x4
theorem e173_good : e173.Good := Env.Good.add e172_good x4_ok
/-- mandrel/mandrellaw13.ConvMost -/
noncomputable def x5 : FnE := execFnC e173 Tryz.f5 8 [(4, [1, 2, 3, 7]), (13, [3, 9, 11]), (16, [3, 9, 11, 12])]
theorem x5_ok : FnE.OK Tryz.prog (Env.gam e0) 5 x5 := execFnC_ok e173_good hmix Tryz.func5 Tryz.call5 (by decide +kernel) rfl
noncomputable def e174 : Env := e173.add 5 x5
theorem e174_good : e174.Good := Env.Good.add e173_good x5_ok
/-- mandrel/mandrellaw12.small -/
noncomputable def x20 : FnE := execFnC e174 Tryz.f20 5 [(2, [0, 3])]
theorem x20_ok : FnE.OK Tryz.prog (Env.gam e0) 20 x20 := execFnC_ok e174_good hmix Tryz.func20 Tryz.call20 (by decide +kernel) rfl
noncomputable def e175 : Env := e174.add 20 x20
theorem e175_good : e175.Good := Env.Good.add e174_good x20_ok
/-- mandrel/linear.begin -/
noncomputable def x39 : FnE := execFnC e175 Tryz.f39 6 [(3, [2, 4, 6, 9, 10, 11])]
theorem x39_ok : FnE.OK Tryz.prog (Env.gam e0) 39 x39 := execFnC_ok e175_good hmix Tryz.func39 Tryz.call39 (by decide +kernel) rfl
noncomputable def e176 : Env := e175.add 39 x39
theorem e176_good : e176.Good := Env.Good.add e175_good x39_ok
/-- mandrel/view.fine -/
noncomputable def x75 : FnE := execFnC e176 Tryz.f75 6 []
theorem x75_ok : FnE.OK Tryz.prog (Env.gam e0) 75 x75 := execFnC_ok e176_good hmix Tryz.func75 Tryz.call75 (by decide +kernel) rfl
noncomputable def e177 : Env := e176.add 75 x75
theorem e177_good : e177.Good := Env.Good.add e176_good x75_ok
/-- mandrel/view.Spread -/
noncomputable def x44 : FnE := execFnC e177 Tryz.f44 7 [(10, [2, 4, 6, 8, 38, 39, 40])]
theorem x44_ok : FnE.OK Tryz.prog (Env.gam e0) 44 x44 := execFnC_ok e177_good hmix Tryz.func44 Tryz.call44 (by decide +kernel) rfl
noncomputable def e178 : Env := e177.add 44 x44
theorem e178_good : e178.Good := Env.Good.add e177_good x44_ok
/-- mandrel/view.Whole -/
noncomputable def x78 : FnE := execFnC e178 Tryz.f78 5 []
theorem x78_ok : FnE.OK Tryz.prog (Env.gam e0) 78 x78 := execFnC_ok e178_good hmix Tryz.func78 Tryz.call78 (by decide +kernel) rfl
noncomputable def e179 : Env := e178.add 78 x78
theorem e179_good : e179.Good := Env.Good.add e178_good x78_ok
noncomputable def e180 : Env := e179.withRound (roundC e179 [])
theorem e180_good : e180.Good := Env.Good.withRound e179_good (roundC_ok e179_good hmix [])
/-- mandrel/view.places$1 -/
noncomputable def x132 : FnE := execFnC e180 Tryz.f132 6 [(2, [0, 1, 3, 4]), (4, [0, 1, 3, 4, 5])]
theorem x132_ok : FnE.OK Tryz.prog (Env.gam e0) 132 x132 := execFnC_ok e180_good hmix Tryz.func132 Tryz.call132 (by decide +kernel) rfl
noncomputable def e181 : Env := e180.add 132 x132
theorem e181_good : e181.Good := Env.Good.add e180_good x132_ok
/-- mandrel/view.places -/
noncomputable def x107 : FnE := execFnC e181 Tryz.f107 3 []
theorem x107_ok : FnE.OK Tryz.prog (Env.gam e0) 107 x107 := execFnC_ok e181_good hmix Tryz.func107 Tryz.call107 (by decide +kernel) rfl
noncomputable def e182 : Env := e181.add 107 x107
theorem e182_good : e182.Good := Env.Good.add e181_good x107_ok
/-- mandrel/view.Read -/
noncomputable def x79 : FnE := execFnC e182 Tryz.f79 5 [(5, [0, 1, 2, 3, 4, 5, 6, 14, 15, 16, 17, 18, 19, 20, 21, 22, 23, 24])]
theorem x79_ok : FnE.OK Tryz.prog (Env.gam e0) 79 x79 := execFnC_ok e182_good hmix Tryz.func79 Tryz.call79 (by decide +kernel) rfl
noncomputable def e183 : Env := e182.add 79 x79
theorem e183_good : e183.Good := Env.Good.add e182_good x79_ok
/-- mandrel/linear.matrices -/
noncomputable def x68 : FnE := execFnC e183 Tryz.f68 7 [(7, [2, 6, 7, 8, 10, 56, 57]), (14, [2, 6, 7, 14, 71, 72, 73])]
theorem x68_ok : FnE.OK Tryz.prog (Env.gam e0) 68 x68 := execFnC_ok e183_good hmix Tryz.func68 Tryz.call68 (by decide +kernel) rfl
noncomputable def e184 : Env := e183.add 68 x68
theorem e184_good : e184.Good := Env.Good.add e183_good x68_ok
/-- slices.Grow[[]int64,int64] -/
noncomputable def x104 : FnE := execFnC e184 Tryz.f104 5 []
theorem x104_ok : FnE.OK Tryz.prog (Env.gam e0) 104 x104 := execFnC_ok e184_good hmix Tryz.func104 Tryz.call104 (by decide +kernel) rfl
noncomputable def e185 : Env := e184.add 104 x104
theorem e185_good : e185.Good := Env.Good.add e184_good x104_ok
/-- slices.Concat[[]int64,int64] -/
noncomputable def x69 : FnE := execFnC e185 Tryz.f69 6 [(3, [0, 3, 9, 10, 11]), (11, [6, 25, 26, 27])]
theorem x69_ok : FnE.OK Tryz.prog (Env.gam e0) 69 x69 := execFnC_ok e185_good hmix Tryz.func69 Tryz.call69 (by decide +kernel) rfl
noncomputable def e186 : Env := e185.add 69 x69
theorem e186_good : e186.Good := Env.Good.add e185_good x69_ok
/-- mandrel/linear.two -/
noncomputable def x73 : FnE := execFnC e186 Tryz.f73 5 []
theorem x73_ok : FnE.OK Tryz.prog (Env.gam e0) 73 x73 := execFnC_ok e186_good hmix Tryz.func73 Tryz.call73 (by decide +kernel) rfl
noncomputable def e187 : Env := e186.add 73 x73
theorem e187_good : e187.Good := Env.Good.add e186_good x73_ok
/-- (mandrel/linear.matrix).row -/
noncomputable def x131 : FnE := execFnC e187 Tryz.f131 4 []
theorem x131_ok : FnE.OK Tryz.prog (Env.gam e0) 131 x131 := execFnC_ok e187_good hmix Tryz.func131 Tryz.call131 (by decide +kernel) rfl
noncomputable def e188 : Env := e187.add 131 x131
theorem e188_good : e188.Good := Env.Good.add e187_good x131_ok
/-- (mandrel/linear.matrix).block -/
noncomputable def x105 : FnE := execFnC e188 Tryz.f105 7 [(2, [3, 4, 5, 6, 7, 10]), (6, [3, 4, 5, 6, 7, 10, 11, 12, 33, 34]), (10, [3, 4, 5, 6, 7, 10, 11, 12, 13, 14, 15, 33, 34])]
theorem x105_ok : FnE.OK Tryz.prog (Env.gam e0) 105 x105 := execFnC_ok e188_good hmix Tryz.func105 Tryz.call105 (by decide +kernel) rfl
noncomputable def e189 : Env := e188.add 105 x105
theorem e189_good : e189.Good := Env.Good.add e188_good x105_ok
/-- mandrel/linear.product -/
noncomputable def x70 : FnE := execFnC e189 Tryz.f70 6 [(3, [2, 3, 5, 6]), (6, [2, 3, 5, 6, 7])]
theorem x70_ok : FnE.OK Tryz.prog (Env.gam e0) 70 x70 := execFnC_ok e189_good hmix Tryz.func70 Tryz.call70 (by decide +kernel) rfl
noncomputable def e190 : Env := e189.add 70 x70
theorem e190_good : e190.Good := Env.Good.add e189_good x70_ok
/-- mandrel/linear.matmul -/
noncomputable def x40 : FnE := execFnC e190 Tryz.f40 6 [(6, [8, 9, 10, 32, 33])]
theorem x40_ok : FnE.OK Tryz.prog (Env.gam e0) 40 x40 := execFnC_ok e190_good hmix Tryz.func40 Tryz.call40 (by decide +kernel) rfl
noncomputable def e191 : Env := e190.add 40 x40
theorem e191_good : e191.Good := Env.Good.add e190_good x40_ok
/-- slices.AppendSeq[[]int,int] -/
noncomputable def x170 : FnE := execFnC e191 Tryz.f170 4 [(2, [0, 1, 2, 8, 9, 10, 11])]
theorem x170_ok : FnE.OK Tryz.prog (Env.gam e0) 170 x170 := execFnC_ok e191_good hmix Tryz.func170 Tryz.call170 (by decide +kernel) rfl
noncomputable def e192 : Env := e191.add 170 x170
theorem e192_good : e192.Good := Env.Good.add e191_good x170_ok
/-- slices.Collect[int] -/
noncomputable def x133 : FnE := execFnC e192 Tryz.f133 3 []
theorem x133_ok : FnE.OK Tryz.prog (Env.gam e0) 133 x133 := execFnC_ok e192_good hmix Tryz.func133 Tryz.call133 (by decide +kernel) rfl
noncomputable def e193 : Env := e192.add 133 x133
theorem e193_good : e193.Good := Env.Good.add e192_good x133_ok
/-- slices.Sorted[int] -/
noncomputable def x108 : FnE := execFnC e193 Tryz.f108 4 []
theorem x108_ok : FnE.OK Tryz.prog (Env.gam e0) 108 x108 := execFnC_ok e193_good hmix Tryz.func108 Tryz.call108 (by decide +kernel) rfl
noncomputable def e194 : Env := e193.add 108 x108
theorem e194_good : e194.Good := Env.Good.add e193_good x108_ok
noncomputable def e195 : Env := e194.withRound (roundC e194 [])
theorem e195_good : e195.Good := Env.Good.withRound e194_good (roundC_ok e194_good hmix [])
/-- slices.Values[[]int,int]$1 -/
noncomputable def x135 : FnE := execFnC e195 Tryz.f135 5 [(1, [0, 5, 6, 7])]
theorem x135_ok : FnE.OK Tryz.prog (Env.gam e0) 135 x135 := execFnC_ok e195_good hmix Tryz.func135 Tryz.call135 (by decide +kernel) rfl
noncomputable def e196 : Env := e195.add 135 x135
theorem e196_good : e196.Good := Env.Good.add e195_good x135_ok
/-- slices.Values[[]int,int] -/
noncomputable def x109 : FnE := execFnC e196 Tryz.f109 3 []
theorem x109_ok : FnE.OK Tryz.prog (Env.gam e0) 109 x109 := execFnC_ok e196_good hmix Tryz.func109 Tryz.call109 (by decide +kernel) rfl
noncomputable def e197 : Env := e196.add 109 x109
theorem e197_good : e197.Good := Env.Good.add e196_good x109_ok
/-- mandrel/view.own -/
noncomputable def x110 : FnE := execFnC e197 Tryz.f110 4 []
theorem x110_ok : FnE.OK Tryz.prog (Env.gam e0) 110 x110 := execFnC_ok e197_good hmix Tryz.func110 Tryz.call110 (by decide +kernel) rfl
noncomputable def e198 : Env := e197.add 110 x110
theorem e198_good : e198.Good := Env.Good.add e197_good x110_ok
/-- mandrel/view.Transpose -/
noncomputable def x80 : FnE := execFnC e198 Tryz.f80 7 [(4, [1, 2, 4, 17, 18, 19]), (13, [2, 4, 8, 38, 39, 40])]
theorem x80_ok : FnE.OK Tryz.prog (Env.gam e0) 80 x80 := execFnC_ok e198_good hmix Tryz.func80 Tryz.call80 (by decide +kernel) rfl
noncomputable def e199 : Env := e198.add 80 x80
theorem e199_good : e199.Good := Env.Good.add e198_good x80_ok
/-- mandrel/linear.turned -/
noncomputable def x71 : FnE := execFnC e199 Tryz.f71 6 []
theorem x71_ok : FnE.OK Tryz.prog (Env.gam e0) 71 x71 := execFnC_ok e199_good hmix Tryz.func71 Tryz.call71 (by decide +kernel) rfl
noncomputable def e200 : Env := e199.add 71 x71
theorem e200_good : e200.Good := Env.Good.add e199_good x71_ok
/-- mandrel/schema.Bits -/
noncomputable def x72 : FnE := execFnC e200 Tryz.f72 5 []
theorem x72_ok : FnE.OK Tryz.prog (Env.gam e0) 72 x72 := execFnC_ok e200_good hmix Tryz.func72 Tryz.call72 (by decide +kernel) rfl
noncomputable def e201 : Env := e200.add 72 x72
theorem e201_good : e201.Good := Env.Good.add e200_good x72_ok
/-- mandrel/linear.spread -/
noncomputable def x74 : FnE := execFnC e201 Tryz.f74 5 []
theorem x74_ok : FnE.OK Tryz.prog (Env.gam e0) 74 x74 := execFnC_ok e201_good hmix Tryz.func74 Tryz.call74 (by decide +kernel) rfl
noncomputable def e202 : Env := e201.add 74 x74
theorem e202_good : e202.Good := Env.Good.add e201_good x74_ok
/-- mandrel/linear.gemm -/
noncomputable def x41 : FnE := execFnC e202 Tryz.f41 7 [(6, [1, 2, 9, 10, 11, 37, 38]), (12, [9, 11, 58, 59, 60])]
theorem x41_ok : FnE.OK Tryz.prog (Env.gam e0) 41 x41 := execFnC_ok e202_good hmix Tryz.func41 Tryz.call41 (by decide +kernel) rfl
noncomputable def e203 : Env := e202.add 41 x41
theorem e203_good : e203.Good := Env.Good.add e202_good x41_ok
/-- mandrel/linear.Do -/
noncomputable def x23 : FnE := execFnC e203 Tryz.f23 6 []
theorem x23_ok : FnE.OK Tryz.prog (Env.gam e0) 23 x23 := execFnC_ok e203_good hmix Tryz.func23 Tryz.call23 (by decide +kernel) rfl
noncomputable def e204 : Env := e203.add 23 x23
theorem e204_good : e204.Good := Env.Good.add e203_good x23_ok
/-- mandrel/mandrellaw12.live -/
noncomputable def x21 : FnE := execFnC e204 Tryz.f21 5 []
theorem x21_ok : FnE.OK Tryz.prog (Env.gam e0) 21 x21 := execFnC_ok e204_good hmix Tryz.func21 Tryz.call21 (by decide +kernel) rfl
noncomputable def e205 : Env := e204.add 21 x21
theorem e205_good : e205.Good := Env.Good.add e204_good x21_ok
/-- mandrel/mandrelref03.Copy -/
noncomputable def x38 : FnE := execFnC e205 Tryz.f38 3 []
theorem x38_ok : FnE.OK Tryz.prog (Env.gam e0) 38 x38 := execFnC_ok e205_good hmix Tryz.func38 Tryz.call38 (by decide +kernel) rfl
noncomputable def e206 : Env := e205.add 38 x38
theorem e206_good : e206.Good := Env.Good.add e205_good x38_ok
/-- mandrel/mandrelref05.CopyTensor -/
noncomputable def x22 : FnE := execFnC e206 Tryz.f22 5 []
theorem x22_ok : FnE.OK Tryz.prog (Env.gam e0) 22 x22 := execFnC_ok e206_good hmix Tryz.func22 Tryz.call22 (by decide +kernel) rfl
noncomputable def e207 : Env := e206.add 22 x22
theorem e207_good : e207.Good := Env.Good.add e206_good x22_ok
/-- mandrel/mandrellaw12.LinearOne -/
noncomputable def x6 : FnE := execFnC e207 Tryz.f6 7 [(6, [1, 3, 4, 5]), (14, [1, 3, 4, 6, 7])]
theorem x6_ok : FnE.OK Tryz.prog (Env.gam e0) 6 x6 := execFnC_ok e207_good hmix Tryz.func6 Tryz.call6 (by decide +kernel) rfl
noncomputable def e208 : Env := e207.add 6 x6
theorem e208_good : e208.Good := Env.Good.add e207_good x6_ok
/-- mandrel/mandrellaw12.LinearRows -/
noncomputable def x7 : FnE := execFnC e208 Tryz.f7 8 []
theorem x7_ok : FnE.OK Tryz.prog (Env.gam e0) 7 x7 := execFnC_ok e208_good hmix Tryz.func7 Tryz.call7 (by decide +kernel) rfl
noncomputable def e209 : Env := e208.add 7 x7
theorem e209_good : e209.Good := Env.Good.add e208_good x7_ok
/-- mandrel/mandrellaw12.LinearGemm -/
noncomputable def x8 : FnE := execFnC e209 Tryz.f8 6 []
theorem x8_ok : FnE.OK Tryz.prog (Env.gam e0) 8 x8 := execFnC_ok e209_good hmix Tryz.func8 Tryz.call8 (by decide +kernel) rfl
noncomputable def e210 : Env := e209.add 8 x8
theorem e210_good : e210.Good := Env.Good.add e209_good x8_ok
/-- mandrel/mandrellaw12.LinearBatch -/
noncomputable def x9 : FnE := execFnC e210 Tryz.f9 8 []
theorem x9_ok : FnE.OK Tryz.prog (Env.gam e0) 9 x9 := execFnC_ok e210_good hmix Tryz.func9 Tryz.call9 (by decide +kernel) rfl
noncomputable def e211 : Env := e210.add 9 x9
theorem e211_good : e211.Good := Env.Good.add e210_good x9_ok
/-- mandrel/mandrellaw10.small -/
noncomputable def x24 : FnE := execFnC e211 Tryz.f24 5 [(2, [0, 3])]
theorem x24_ok : FnE.OK Tryz.prog (Env.gam e0) 24 x24 := execFnC_ok e211_good hmix Tryz.func24 Tryz.call24 (by decide +kernel) rfl
noncomputable def e212 : Env := e211.add 24 x24
theorem e212_good : e212.Good := Env.Good.add e211_good x24_ok
/-- mandrel/move.begin -/
noncomputable def x42 : FnE := execFnC e212 Tryz.f42 6 [(3, [2, 4, 6, 9, 10, 11])]
theorem x42_ok : FnE.OK Tryz.prog (Env.gam e0) 42 x42 := execFnC_ok e212_good hmix Tryz.func42 Tryz.call42 (by decide +kernel) rfl
noncomputable def e213 : Env := e212.add 42 x42
theorem e213_good : e213.Good := Env.Good.add e212_good x42_ok
/-- mandrel/move.whole -/
noncomputable def x45 : FnE := execFnC e213 Tryz.f45 4 []
theorem x45_ok : FnE.OK Tryz.prog (Env.gam e0) 45 x45 := execFnC_ok e213_good hmix Tryz.func45 Tryz.call45 (by decide +kernel) rfl
noncomputable def e214 : Env := e213.add 45 x45
theorem e214_good : e214.Good := Env.Good.add e213_good x45_ok
/-- mandrel/move.read -/
noncomputable def x46 : FnE := execFnC e214 Tryz.f46 4 []
theorem x46_ok : FnE.OK Tryz.prog (Env.gam e0) 46 x46 := execFnC_ok e214_good hmix Tryz.func46 Tryz.call46 (by decide +kernel) rfl
noncomputable def e215 : Env := e214.add 46 x46
theorem e215_good : e215.Good := Env.Good.add e214_good x46_ok
/-- mandrel/move.transpose -/
noncomputable def x47 : FnE := execFnC e215 Tryz.f47 6 [(3, [2, 3, 5, 14, 15]), (9, [3, 7, 25, 26, 27])]
theorem x47_ok : FnE.OK Tryz.prog (Env.gam e0) 47 x47 := execFnC_ok e215_good hmix Tryz.func47 Tryz.call47 (by decide +kernel) rfl
noncomputable def e216 : Env := e215.add 47 x47
theorem e216_good : e216.Good := Env.Good.add e215_good x47_ok
/-- mandrel/move.axis -/
noncomputable def x81 : FnE := execFnC e216 Tryz.f81 4 []
theorem x81_ok : FnE.OK Tryz.prog (Env.gam e0) 81 x81 := execFnC_ok e216_good hmix Tryz.func81 Tryz.call81 (by decide +kernel) rfl
noncomputable def e217 : Env := e216.add 81 x81
theorem e217_good : e217.Good := Env.Good.add e216_good x81_ok
/-- mandrel/view.Slice -/
noncomputable def x82 : FnE := execFnC e217 Tryz.f82 7 []
theorem x82_ok : FnE.OK Tryz.prog (Env.gam e0) 82 x82 := execFnC_ok e217_good hmix Tryz.func82 Tryz.call82 (by decide +kernel) rfl
noncomputable def e218 : Env := e217.add 82 x82
theorem e218_good : e218.Good := Env.Good.add e217_good x82_ok
/-- mandrel/move.slice -/
noncomputable def x48 : FnE := execFnC e218 Tryz.f48 7 [(4, [2, 3, 4, 7, 8, 19, 20]), (10, [2, 4, 7, 10, 32, 33, 34])]
theorem x48_ok : FnE.OK Tryz.prog (Env.gam e0) 48 x48 := execFnC_ok e218_good hmix Tryz.func48 Tryz.call48 (by decide +kernel) rfl
noncomputable def e219 : Env := e218.add 48 x48
theorem e219_good : e219.Good := Env.Good.add e218_good x48_ok
/-- mandrel/move.blocks -/
noncomputable def x83 : FnE := execFnC e219 Tryz.f83 5 []
theorem x83_ok : FnE.OK Tryz.prog (Env.gam e0) 83 x83 := execFnC_ok e219_good hmix Tryz.func83 Tryz.call83 (by decide +kernel) rfl
noncomputable def e220 : Env := e219.add 83 x83
theorem e220_good : e220.Good := Env.Good.add e219_good x83_ok
/-- mandrel/move.concat -/
noncomputable def x49 : FnE := execFnC e220 Tryz.f49 7 [(6, [7, 8, 9, 10, 11, 32, 33, 34]), (10, [7, 8, 9, 10, 11, 13, 15, 32, 33, 34, 45, 46])]
theorem x49_ok : FnE.OK Tryz.prog (Env.gam e0) 49 x49 := execFnC_ok e220_good hmix Tryz.func49 Tryz.call49 (by decide +kernel) rfl
noncomputable def e221 : Env := e220.add 49 x49
theorem e221_good : e221.Good := Env.Good.add e220_good x49_ok
/-- mandrel/move.gather -/
noncomputable def x50 : FnE := execFnC e221 Tryz.f50 7 [(8, [1, 6, 9, 10, 11, 12, 41, 42]), (11, [1, 6, 9, 10, 11, 12, 13, 41, 42, 48, 49, 50])]
theorem x50_ok : FnE.OK Tryz.prog (Env.gam e0) 50 x50 := execFnC_ok e221_good hmix Tryz.func50 Tryz.call50 (by decide +kernel) rfl
noncomputable def e222 : Env := e221.add 50 x50
theorem e222_good : e222.Good := Env.Good.add e221_good x50_ok
/-- math/bits.Mul32 -/
noncomputable def x136 : FnE := execFnC e222 Tryz.f136 5 []
theorem x136_ok : FnE.OK Tryz.prog (Env.gam e0) 136 x136 := execFnC_ok e222_good hmix Tryz.func136 Tryz.call136 (by decide +kernel) rfl
noncomputable def e223 : Env := e222.add 136 x136
theorem e223_good : e223.Good := Env.Good.add e222_good x136_ok
/-- math/bits.Mul64 -/
noncomputable def x137 : FnE := execFnC e223 Tryz.f137 6 []
theorem x137_ok : FnE.OK Tryz.prog (Env.gam e0) 137 x137 := execFnC_ok e223_good hmix Tryz.func137 Tryz.call137 (by decide +kernel) rfl
noncomputable def e224 : Env := e223.add 137 x137
theorem e224_good : e224.Good := Env.Good.add e223_good x137_ok
/-- math/bits.Mul -/
noncomputable def x111 : FnE := execFnC e224 Tryz.f111 5 []
theorem x111_ok : FnE.OK Tryz.prog (Env.gam e0) 111 x111 := execFnC_ok e224_good hmix Tryz.func111 Tryz.call111 (by decide +kernel) rfl
noncomputable def e225 : Env := e224.add 111 x111
theorem e225_good : e225.Good := Env.Good.add e224_good x111_ok
/-- slices.Repeat[[]int64,int64] -/
noncomputable def x84 : FnE := execFnC e225 Tryz.f84 6 [(8, [7, 8])]
theorem x84_ok : FnE.OK Tryz.prog (Env.gam e0) 84 x84 := execFnC_ok e225_good hmix Tryz.func84 Tryz.call84 (by decide +kernel) rfl
noncomputable def e226 : Env := e225.add 84 x84
theorem e226_good : e226.Good := Env.Good.add e225_good x84_ok
/-- mandrel/move.pad -/
noncomputable def x51 : FnE := execFnC e226 Tryz.f51 7 [(6, [4, 7, 10, 11, 37, 38, 39]), (11, [4, 7, 10, 11, 14, 15, 16, 37, 38, 39, 52, 53])]
theorem x51_ok : FnE.OK Tryz.prog (Env.gam e0) 51 x51 := execFnC_ok e226_good hmix Tryz.func51 Tryz.call51 (by decide +kernel) rfl
noncomputable def e227 : Env := e226.add 51 x51
theorem e227_good : e227.Good := Env.Good.add e226_good x51_ok
/-- mandrel/move.Do -/
noncomputable def x27 : FnE := execFnC e227 Tryz.f27 7 []
theorem x27_ok : FnE.OK Tryz.prog (Env.gam e0) 27 x27 := execFnC_ok e227_good hmix Tryz.func27 Tryz.call27 (by decide +kernel) rfl
noncomputable def e228 : Env := e227.add 27 x27
theorem e228_good : e228.Good := Env.Good.add e227_good x27_ok
/-- mandrel/mandrellaw10.live -/
noncomputable def x25 : FnE := execFnC e228 Tryz.f25 6 []
theorem x25_ok : FnE.OK Tryz.prog (Env.gam e0) 25 x25 := execFnC_ok e228_good hmix Tryz.func25 Tryz.call25 (by decide +kernel) rfl
noncomputable def e229 : Env := e228.add 25 x25
theorem e229_good : e229.Good := Env.Good.add e228_good x25_ok
/-- mandrel/mandrellaw10.ints -/
noncomputable def x26 : FnE := execFnC e229 Tryz.f26 4 []
theorem x26_ok : FnE.OK Tryz.prog (Env.gam e0) 26 x26 := execFnC_ok e229_good hmix Tryz.func26 Tryz.call26 (by decide +kernel) rfl
noncomputable def e230 : Env := e229.add 26 x26
theorem e230_good : e230.Good := Env.Good.add e229_good x26_ok
/-- mandrel/mandrellaw10.MoveBack -/
noncomputable def x10 : FnE := execFnC e230 Tryz.f10 7 [(9, [1, 2, 5, 6, 8, 9])]
theorem x10_ok : FnE.OK Tryz.prog (Env.gam e0) 10 x10 := execFnC_ok e230_good hmix Tryz.func10 Tryz.call10 (by decide +kernel) rfl
noncomputable def e231 : Env := e230.add 10 x10
theorem e231_good : e231.Good := Env.Good.add e230_good x10_ok
/-- mandrel/mandrellaw10.MoveJoined -/
noncomputable def x11 : FnE := execFnC e231 Tryz.f11 7 []
theorem x11_ok : FnE.OK Tryz.prog (Env.gam e0) 11 x11 := execFnC_ok e231_good hmix Tryz.func11 Tryz.call11 (by decide +kernel) rfl
noncomputable def e232 : Env := e231.add 11 x11
theorem e232_good : e232.Good := Env.Good.add e231_good x11_ok
/-- mandrel/mandrellaw10.MoveCut -/
noncomputable def x12 : FnE := execFnC e232 Tryz.f12 7 [(9, [1, 2, 5, 7, 8, 9])]
theorem x12_ok : FnE.OK Tryz.prog (Env.gam e0) 12 x12 := execFnC_ok e232_good hmix Tryz.func12 Tryz.call12 (by decide +kernel) rfl
noncomputable def e233 : Env := e232.add 12 x12
theorem e233_good : e233.Good := Env.Good.add e232_good x12_ok
/-- mandrel/mandrellaw10.MoveAll -/
noncomputable def x13 : FnE := execFnC e233 Tryz.f13 7 [(11, [1, 2, 6, 7, 8])]
theorem x13_ok : FnE.OK Tryz.prog (Env.gam e0) 13 x13 := execFnC_ok e233_good hmix Tryz.func13 Tryz.call13 (by decide +kernel) rfl
noncomputable def e234 : Env := e233.add 13 x13
theorem e234_good : e234.Good := Env.Good.add e233_good x13_ok
/-- mandrel/mandrellaw12.LinearTurned -/
noncomputable def x14 : FnE := execFnC e234 Tryz.f14 7 []
theorem x14_ok : FnE.OK Tryz.prog (Env.gam e0) 14 x14 := execFnC_ok e234_good hmix Tryz.func14 Tryz.call14 (by decide +kernel) rfl
noncomputable def e235 : Env := e234.add 14 x14
theorem e235_good : e235.Good := Env.Good.add e234_good x14_ok
end Go.Proofs.XGT
