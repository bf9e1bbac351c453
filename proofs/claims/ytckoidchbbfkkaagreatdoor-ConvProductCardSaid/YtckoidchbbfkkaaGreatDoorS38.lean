/- Functions that many laws reach, by what they answer: num.Check, shape.Count, pb.Check. -/
import Derived.Test.YtckoidchbbfkkaaGreatDoorS37
import Derived.Lib.SliceRun
import Derived.Lib.Walk
import Derived.Shelf.RegionOpenPlain
import Derived.Test.YtckoidchbbfkkaaGreatDoorProg
import Derived.WalkKit
set_option maxRecDepth 100000
set_option maxHeartbeats 4000000
namespace Go.Proofs.XPT
open Go.Vm Go Go.RowKit Go.Lib
abbrev Y0 : Ty := .pair (.int .i64) (.pair (.slice (.int .i64)) (.pair (.slice (.int .i64)) .unit))
abbrev Y1 : Ty := .pair .str (.pair (.int .i64) (.pair (.int .i64) (.pair (.int .i64) (.pair .str (.pair Y0 (.pair (.slice (.int .i64)) .unit))))))
abbrev Y2 : Ty := .pair .str (.pair .str (.pair (.slice .str) (.pair .str (.pair (.slice Y1) .unit))))
abbrev Y3 : Ty := .pair .str (.pair (.int .i64) (.pair (.slice (.int .i64)) .unit))
abbrev Y4 : Ty := .pair (.int .i64) (.pair (.int .i64) (.pair (.int .i64) (.pair (.int .i64) (.pair (.arr 2 (.int .i64)) (.pair (.arr 2 (.int .i64)) (.pair (.int .i64) (.pair (.int .i64) (.pair (.int .i64) (.pair (.int .i64) .unit)))))))))
abbrev Y5 : Ty := .pair (.int .i64) (.pair (.int .i64) .unit)
abbrev Y6 : Ty := .pair (.int .i64) (.pair (.int .i64) (.pair (.slice (.int .i64)) .unit))
abbrev Y7 : Ty := .pair Y2 (.pair (.slice Y3) .unit)
abbrev Y8 : Ty := .pair (.int .i64) (.pair (.int .i64) (.pair .str .unit))
abbrev Y9 : Ty := .pair (.int .u8) (.pair (.int .u8) .unit)
theorem ty2 : TyGood Tryz.prog 2 (.int .i64) := ⟨⟨_, _, Tryz.type2, rfl, by decide, rfl, rfl⟩, ⟨_, Tryz.underlying2, rfl⟩⟩
theorem ty3 : TyGood Tryz.prog 3 (.int .i64) := ⟨⟨_, _, Tryz.type3, rfl, by decide, rfl, rfl⟩, ⟨_, Tryz.underlying3, rfl⟩⟩
theorem ty9 : TyGood Tryz.prog 9 .str := ⟨⟨_, _, Tryz.type9, rfl, by decide, rfl, rfl⟩, ⟨_, Tryz.underlying9, rfl⟩⟩
theorem ty22 : TyGood Tryz.prog 22 (.slice (.int .i64)) := ⟨⟨_, _, Tryz.type22, rfl, by decide, rfl, rfl⟩, ⟨_, Tryz.underlying22, rfl⟩⟩
theorem ty23 : TyGood Tryz.prog 23 (.slice (.int .i64)) := ⟨⟨_, _, Tryz.type23, rfl, by decide, rfl, rfl⟩, ⟨_, Tryz.underlying23, rfl⟩⟩
theorem ty25 : TyGood Tryz.prog 25 Y0 := ⟨⟨_, _, Tryz.type25, rfl, by decide, rfl, rfl⟩, ⟨_, Tryz.underlying25, rfl⟩⟩
theorem ty29 : TyGood Tryz.prog 29 (.int .i64) := ⟨⟨_, _, Tryz.type29, rfl, by decide, rfl, rfl⟩, ⟨_, Tryz.underlying29, rfl⟩⟩
theorem ty35 : TyGood Tryz.prog 35 Y2 := ⟨⟨_, _, Tryz.type35, rfl, by decide, rfl, rfl⟩, ⟨_, Tryz.underlying35, rfl⟩⟩
theorem ty38 : TyGood Tryz.prog 38 Y1 := ⟨⟨_, _, Tryz.type38, rfl, by decide, rfl, rfl⟩, ⟨_, Tryz.underlying38, rfl⟩⟩
theorem ty40 : TyGood Tryz.prog 40 Y3 := ⟨⟨_, _, Tryz.type40, rfl, by decide, rfl, rfl⟩, ⟨_, Tryz.underlying40, rfl⟩⟩
theorem ty46 : TyGood Tryz.prog 46 (.arr 2 (.int .i64)) := ⟨⟨_, _, Tryz.type46, rfl, by decide, rfl, rfl⟩, ⟨_, Tryz.underlying46, rfl⟩⟩
theorem ty48 : TyGood Tryz.prog 48 Y4 := ⟨⟨_, _, Tryz.type48, rfl, by decide, rfl, rfl⟩, ⟨_, Tryz.underlying48, rfl⟩⟩
theorem ty52 : TyGood Tryz.prog 52 Y0 := ⟨⟨_, _, Tryz.type52, rfl, by decide, rfl, rfl⟩, ⟨_, Tryz.underlying52, rfl⟩⟩
theorem ty76 : TyGood Tryz.prog 76 Y5 := ⟨⟨_, _, Tryz.type76, rfl, by decide, rfl, rfl⟩, ⟨_, Tryz.underlying76, rfl⟩⟩
theorem ty98 : TyGood Tryz.prog 98 Y6 := ⟨⟨_, _, Tryz.type98, rfl, by decide, rfl, rfl⟩, ⟨_, Tryz.underlying98, rfl⟩⟩
theorem ty111 : TyGood Tryz.prog 111 Y7 := ⟨⟨_, _, Tryz.type111, rfl, by decide, rfl, rfl⟩, ⟨_, Tryz.underlying111, rfl⟩⟩
theorem ty137 : TyGood Tryz.prog 137 Y8 := ⟨⟨_, _, Tryz.type137, rfl, by decide, rfl, rfl⟩, ⟨_, Tryz.underlying137, rfl⟩⟩
theorem ty189 : TyGood Tryz.prog 189 (.arr 10 .str) := ⟨⟨_, _, Tryz.type189, rfl, by decide, rfl, rfl⟩, ⟨_, Tryz.underlying189, rfl⟩⟩
theorem ty216 : TyGood Tryz.prog 216 (.int .u64) := ⟨⟨_, _, Tryz.type216, rfl, by decide, rfl, rfl⟩, ⟨_, Tryz.underlying216, rfl⟩⟩
theorem ty235 : TyGood Tryz.prog 235 Y9 := ⟨⟨_, _, Tryz.type235, rfl, by decide, rfl, rfl⟩, ⟨_, Tryz.underlying235, rfl⟩⟩
def tys : List (Nat × Ty) := [(2, (.int .i64)), (3, (.int .i64)), (9, .str), (22, (.slice (.int .i64))), (23, (.slice (.int .i64))), (25, Y0), (29, (.int .i64)), (35, Y2), (38, Y1), (40, Y3), (46, (.arr 2 (.int .i64))), (48, Y4), (52, Y0), (76, Y5), (98, Y6), (111, Y7), (137, Y8), (189, (.arr 10 .str)), (216, (.int .u64)), (235, Y9)]
theorem tys_ok : AllGood Tryz.prog tys := ⟨ty2, ty3, ty9, ty22, ty23, ty25, ty29, ty35, ty38, ty40, ty46, ty48, ty52, ty76, ty98, ty111, ty137, ty189, ty216, ty235, trivial⟩
def ones : List (List UInt8) := [[73, 100, 101, 110, 116, 105, 116, 121], [78, 101, 103], [65, 98, 115], [78, 111, 116], [82, 101, 108, 117], [83, 113, 114, 116], [70, 108, 111, 111, 114], [69, 120, 112], [83, 105, 103, 109, 111, 105, 100], [84, 97, 110, 104]]
def gam : List (Nat × AV) := [(0, .ip (.arr 10 .str) ones)]
noncomputable def e0 : Env := ⟨Tryz.prog, gam, tys, [], [], none⟩
theorem e0_good : e0.Good := ⟨⟨allGood tys_ok⟩, gam_free (by decide), (fun _ h => nomatch h), (fun _ h => nomatch h), (fun _ h => nomatch h)⟩
theorem hmix : Tryz.prog.follows .mixedOrders = true := rfl
/-- mandrel/mandrellaw13.small -/
noncomputable def x4 : FnE := execFnC e0 Tryz.f4 5 [(2, [0, 3])]
theorem x4_ok : FnE.OK Tryz.prog (Env.gam e0) 4 x4 := execFnC_ok e0_good hmix Tryz.func4 Tryz.call4 (by decide +kernel) rfl
noncomputable def e1 : Env := e0.add 4 x4
theorem e1_good : e1.Good := Env.Good.add e0_good x4_ok
/-- mandrel/num.Check -/
noncomputable def x60 : FnE := execFnC e1 Tryz.f60 6 []
theorem x60_ok : FnE.OK Tryz.prog (Env.gam e0) 60 x60 := execFnC_ok e1_good hmix Tryz.func60 Tryz.call60 (by decide +kernel) rfl
noncomputable def e2 : Env := e1.add 60 x60
theorem e2_good : e2.Good := Env.Good.add e1_good x60_ok
/-- mandrel/pb.Check$1 -/
noncomputable def x59 : FnE := execFnC e2 Tryz.f59 4 []
theorem x59_ok : FnE.OK Tryz.prog (Env.gam e0) 59 x59 := execFnC_ok e2_good hmix Tryz.func59 Tryz.call59 (by decide +kernel) rfl
noncomputable def e3 : Env := e2.add 59 x59
theorem e3_good : e3.Good := Env.Good.add e2_good x59_ok
/-- mandrel/shape.Count$1 -/
noncomputable def x70 : FnE := execFnC e3 Tryz.f70 3 []
theorem x70_ok : FnE.OK Tryz.prog (Env.gam e0) 70 x70 := execFnC_ok e3_good hmix Tryz.func70 Tryz.call70 (by decide +kernel) rfl
noncomputable def e4 : Env := e3.add 70 x70
theorem e4_good : e4.Good := Env.Good.add e3_good x70_ok
/-- mandrel/view.fine$1 -/
noncomputable def x75 : FnE := execFnC e4 Tryz.f75 4 []
theorem x75_ok : FnE.OK Tryz.prog (Env.gam e0) 75 x75 := execFnC_ok e4_good hmix Tryz.func75 Tryz.call75 (by decide +kernel) rfl
noncomputable def e5 : Env := e4.add 75 x75
theorem e5_good : e5.Good := Env.Good.add e4_good x75_ok
/-- mandrel/infer.rule -/
noncomputable def x64 : FnE := execFnC e5 Tryz.f64 3 []
theorem x64_ok : FnE.OK Tryz.prog (Env.gam e0) 64 x64 := execFnC_ok e5_good hmix Tryz.func64 Tryz.call64 (by decide +kernel) rfl
noncomputable def e6 : Env := e5.add 64 x64
theorem e6_good : e6.Good := Env.Good.add e5_good x64_ok
/-- (mandrel/infer.maker).window$1 -/
noncomputable def x164 : FnE := execFnC e6 Tryz.f164 6 []
theorem x164_ok : FnE.OK Tryz.prog (Env.gam e0) 164 x164 := execFnC_ok e6_good hmix Tryz.func164 Tryz.call164 (by decide +kernel) rfl
noncomputable def e7 : Env := e6.add 164 x164
theorem e7_good : e7.Good := Env.Good.add e6_good x164_ok
/-- slices.IndexFunc[[]int,int] -/
noncomputable def x99 : FnE := execFnC e7 Tryz.f99 5 [(2, [0, 1, 7, 8])]
theorem x99_ok : FnE.OK Tryz.prog (Env.gam e0) 99 x99 := execFnC_ok e7_good hmix Tryz.func99 Tryz.call99 (by decide +kernel) rfl
noncomputable def e8 : Env := e7.add 99 x99
theorem e8_good : e8.Good := Env.Good.add e7_good x99_ok
/-- slices.ContainsFunc[[]int,int] -/
noncomputable def x69 : FnE := execFnC e8 Tryz.f69 4 []
theorem x69_ok : FnE.OK Tryz.prog (Env.gam e0) 69 x69 := execFnC_ok e8_good hmix Tryz.func69 Tryz.call69 (by decide +kernel) rfl
noncomputable def e9 : Env := e8.add 69 x69
theorem e9_good : e9.Good := Env.Good.add e8_good x69_ok
/-- mandrel/shape.Count -/
noncomputable def x32 : FnE := execFnC e9 Tryz.f32 5 [(7, [4, 12, 13, 14])]
theorem x32_ok : FnE.OK Tryz.prog (Env.gam e0) 32 x32 := execFnC_ok e9_good hmix Tryz.func32 Tryz.call32 (by decide +kernel) rfl
noncomputable def e10 : Env := e9.add 32 x32
theorem e10_good : e10.Good := Env.Good.add e9_good x32_ok
/-- mandrel/pb.typed -/
noncomputable def x57 : FnE := execFnC e10 Tryz.f57 3 []
theorem x57_ok : FnE.OK Tryz.prog (Env.gam e0) 57 x57 := execFnC_ok e10_good hmix Tryz.func57 Tryz.call57 (by decide +kernel) rfl
noncomputable def e11 : Env := e10.add 57 x57
theorem e11_good : e11.Good := Env.Good.add e10_good x57_ok
/-- slices.IndexFunc[[]int64,int64] -/
noncomputable def x83 : FnE := execFnC e11 Tryz.f83 5 [(2, [0, 1, 7, 8])]
theorem x83_ok : FnE.OK Tryz.prog (Env.gam e0) 83 x83 := execFnC_ok e11_good hmix Tryz.func83 Tryz.call83 (by decide +kernel) rfl
noncomputable def e12 : Env := e11.add 83 x83
theorem e12_good : e12.Good := Env.Good.add e11_good x83_ok
/-- slices.ContainsFunc[[]int64,int64] -/
noncomputable def x58 : FnE := execFnC e12 Tryz.f58 4 []
theorem x58_ok : FnE.OK Tryz.prog (Env.gam e0) 58 x58 := execFnC_ok e12_good hmix Tryz.func58 Tryz.call58 (by decide +kernel) rfl
noncomputable def e13 : Env := e12.add 58 x58
theorem e13_good : e13.Good := Env.Good.add e12_good x58_ok
/-- mandrel/pb.Check -/
noncomputable def x29 : FnE := execFnC e13 Tryz.f29 5 []
theorem x29_ok : FnE.OK Tryz.prog (Env.gam e0) 29 x29 := execFnC_ok e13_good hmix Tryz.func29 Tryz.call29 (by decide +kernel) rfl
noncomputable def e14 : Env := e13.add 29 x29
theorem e14_good : e14.Good := Env.Good.add e13_good x29_ok
/-- mandrel/infer.Out$1 -/
noncomputable def x61 : FnE := execFnC e14 Tryz.f61 5 []
theorem x61_ok : FnE.OK Tryz.prog (Env.gam e0) 61 x61 := execFnC_ok e14_good hmix Tryz.func61 Tryz.call61 (by decide +kernel) rfl
noncomputable def e15 : Env := e14.add 61 x61
theorem e15_good : e15.Good := Env.Good.add e14_good x61_ok
/-- mandrel/infer.good -/
noncomputable def x62 : FnE := execFnC e15 Tryz.f62 3 []
theorem x62_ok : FnE.OK Tryz.prog (Env.gam e0) 62 x62 := execFnC_ok e15_good hmix Tryz.func62 Tryz.call62 (by decide +kernel) rfl
noncomputable def e16 : Env := e15.add 62 x62
theorem e16_good : e16.Good := Env.Good.add e15_good x62_ok
/-- mandrel/move.Do$1 -/
noncomputable def x25 : FnE := execFnC e16 Tryz.f25 3 []
theorem x25_ok : FnE.OK Tryz.prog (Env.gam e0) 25 x25 := execFnC_ok e16_good hmix Tryz.func25 Tryz.call25 (by decide +kernel) rfl
noncomputable def e17 : Env := e16.add 25 x25
theorem e17_good : e17.Good := Env.Good.add e16_good x25_ok
/-- mandrel/schema.named$1 -/
noncomputable def x103 : FnE := execFnC e17 Tryz.f103 4 []
theorem x103_ok : FnE.OK Tryz.prog (Env.gam e0) 103 x103 := execFnC_ok e17_good hmix Tryz.func103 Tryz.call103 (by decide +kernel) rfl
noncomputable def e18 : Env := e17.add 103 x103
theorem e18_good : e18.Good := Env.Good.add e17_good x103_ok
/-- mandrel/schema.attrs$2 -/
noncomputable def x124 : FnE := execFnC e18 Tryz.f124 4 []
theorem x124_ok : FnE.OK Tryz.prog (Env.gam e0) 124 x124 := execFnC_ok e18_good hmix Tryz.func124 Tryz.call124 (by decide +kernel) rfl
noncomputable def e19 : Env := e18.add 124 x124
theorem e19_good : e19.Good := Env.Good.add e18_good x124_ok
/-- (mandrel/infer.maker).constant$1 -/
noncomputable def x129 : FnE := execFnC e19 Tryz.f129 3 []
theorem x129_ok : FnE.OK Tryz.prog (Env.gam e0) 129 x129 := execFnC_ok e19_good hmix Tryz.func129 Tryz.call129 (by decide +kernel) rfl
noncomputable def e20 : Env := e19.add 129 x129
theorem e20_good : e20.Good := Env.Good.add e19_good x129_ok
/-- slices.IndexFunc[[]mandrel/api.Attr,mandrel/api.Attr] -/
noncomputable def x24 : FnE := execFnC e20 Tryz.f24 5 [(2, [0, 1, 7, 8])]
theorem x24_ok : FnE.OK Tryz.prog (Env.gam e0) 24 x24 := execFnC_ok e20_good hmix Tryz.func24 Tryz.call24 (by decide +kernel) rfl
noncomputable def e21 : Env := e20.add 24 x24
theorem e21_good : e21.Good := Env.Good.add e20_good x24_ok
/-- mandrel/schema.named -/
noncomputable def x73 : FnE := execFnC e21 Tryz.f73 3 []
theorem x73_ok : FnE.OK Tryz.prog (Env.gam e0) 73 x73 := execFnC_ok e21_good hmix Tryz.func73 Tryz.call73 (by decide +kernel) rfl
noncomputable def e22 : Env := e21.add 73 x73
theorem e22_good : e22.Good := Env.Good.add e21_good x73_ok
/-- mandrel/schema.find -/
noncomputable def x36 : FnE := execFnC e22 Tryz.f36 5 []
theorem x36_ok : FnE.OK Tryz.prog (Env.gam e0) 36 x36 := execFnC_ok e22_good hmix Tryz.func36 Tryz.call36 (by decide +kernel) rfl
noncomputable def e23 : Env := e22.add 36 x36
theorem e23_good : e23.Good := Env.Good.add e22_good x36_ok
/-- mandrel/schema.ofOne -/
noncomputable def x116 : FnE := execFnC e23 Tryz.f116 4 [(2, [0, 5, 6])]
theorem x116_ok : FnE.OK Tryz.prog (Env.gam e0) 116 x116 := execFnC_ok e23_good hmix Tryz.func116 Tryz.call116 (by decide +kernel) rfl
noncomputable def e24 : Env := e23.add 116 x116
theorem e24_good : e24.Good := Env.Good.add e23_good x116_ok
/-- mandrel/schema.ruleOf -/
noncomputable def x84 : FnE := execFnC e24 Tryz.f84 7 []
theorem x84_ok : FnE.OK Tryz.prog (Env.gam e0) 84 x84 := execFnC_ok e24_good hmix Tryz.func84 Tryz.call84 (by decide +kernel) rfl
noncomputable def e25 : Env := e24.add 84 x84
theorem e25_good : e25.Good := Env.Good.add e24_good x84_ok
/-- slices.Index[[]string,string] -/
noncomputable def x117 : FnE := execFnC e25 Tryz.f117 5 [(2, [0, 1, 7, 8])]
theorem x117_ok : FnE.OK Tryz.prog (Env.gam e0) 117 x117 := execFnC_ok e25_good hmix Tryz.func117 Tryz.call117 (by decide +kernel) rfl
noncomputable def e26 : Env := e25.add 117 x117
theorem e26_good : e26.Good := Env.Good.add e25_good x117_ok
/-- slices.Contains[[]string,string] -/
noncomputable def x85 : FnE := execFnC e26 Tryz.f85 4 []
theorem x85_ok : FnE.OK Tryz.prog (Env.gam e0) 85 x85 := execFnC_ok e26_good hmix Tryz.func85 Tryz.call85 (by decide +kernel) rfl
noncomputable def e27 : Env := e26.add 85 x85
theorem e27_good : e27.Good := Env.Good.add e26_good x85_ok
/-- internal/stringslite.HasPrefix -/
noncomputable def x154 : FnE := execFnC e27 Tryz.f154 5 []
theorem x154_ok : FnE.OK Tryz.prog (Env.gam e0) 154 x154 := execFnC_ok e27_good hmix Tryz.func154 Tryz.call154 (by decide +kernel) rfl
noncomputable def e28 : Env := e27.add 154 x154
theorem e28_good : e28.Good := Env.Good.add e27_good x154_ok
/-- strings.HasPrefix -/
noncomputable def x121 : FnE := execFnC e28 Tryz.f121 4 []
theorem x121_ok : FnE.OK Tryz.prog (Env.gam e0) 121 x121 := execFnC_ok e28_good hmix Tryz.func121 Tryz.call121 (by decide +kernel) rfl
noncomputable def e29 : Env := e28.add 121 x121
theorem e29_good : e29.Good := Env.Good.add e28_good x121_ok
/-- mandrel/schema.attrs$1 -/
noncomputable def x120 : FnE := execFnC e29 Tryz.f120 4 []
theorem x120_ok : FnE.OK Tryz.prog (Env.gam e0) 120 x120 := execFnC_ok e29_good hmix Tryz.func120 Tryz.call120 (by decide +kernel) rfl
noncomputable def e30 : Env := e29.add 120 x120
theorem e30_good : e30.Good := Env.Good.add e29_good x120_ok
/-- unicode/utf8.RuneCountInString -/
noncomputable def x199 : FnE := execFnC e30 Tryz.f199 4 [(2, [2, 4])]
theorem x199_ok : FnE.OK Tryz.prog (Env.gam e0) 199 x199 := execFnC_ok e30_good hmix Tryz.func199 Tryz.call199 (by decide +kernel) rfl
noncomputable def e31 : Env := e30.add 199 x199
theorem e31_good : e31.Good := Env.Good.add e30_good x199_ok
/-- unicode/utf8.decodeRuneInStringSlow -/
noncomputable def x211 : FnE := execFnC e31 Tryz.f211 7 []
theorem x211_ok : FnE.OK Tryz.prog (Env.gam e0) 211 x211 := execFnC_ok e31_good hmix Tryz.func211 Tryz.call211 (by decide +kernel) rfl
noncomputable def e32 : Env := e31.add 211 x211
theorem e32_good : e32.Good := Env.Good.add e31_good x211_ok
/-- unicode/utf8.DecodeRuneInString -/
noncomputable def x200 : FnE := execFnC e32 Tryz.f200 5 []
theorem x200_ok : FnE.OK Tryz.prog (Env.gam e0) 200 x200 := execFnC_ok e32_good hmix Tryz.func200 Tryz.call200 (by decide +kernel) rfl
noncomputable def e33 : Env := e32.add 200 x200
theorem e33_good : e33.Good := Env.Good.add e32_good x200_ok
/-- strings.explode -/
noncomputable def x183 : FnE := execFnC e33 Tryz.f183 6 [(6, [0, 1, 6, 7])]
theorem x183_ok : FnE.OK Tryz.prog (Env.gam e0) 183 x183 := execFnC_ok e33_good hmix Tryz.func183 Tryz.call183 (by decide +kernel) rfl
noncomputable def e34 : Env := e33.add 183 x183
theorem e34_good : e34.Good := Env.Good.add e33_good x183_ok
noncomputable def e35 : Env := e34.addX 212 xIndexByte
theorem e35_good : e35.Good := Env.Good.addX e34_good (xIndexByte_ok Tryz.func212 rfl (by decide +kernel) (by kernel_rfl) (by kernel_rfl))
/-- internal/stringslite.IndexByte -/
noncomputable def x202 : FnE := execFnC e35 Tryz.f202 4 []
theorem x202_ok : FnE.OK Tryz.prog (Env.gam e0) 202 x202 := execFnC_ok e35_good hmix Tryz.func202 Tryz.call202 (by decide +kernel) rfl
noncomputable def e36 : Env := e35.add 202 x202
theorem e36_good : e36.Good := Env.Good.add e35_good x202_ok
/-- internal/bytealg.Cutover -/
noncomputable def x204 : FnE := execFnC e36 Tryz.f204 3 []
theorem x204_ok : FnE.OK Tryz.prog (Env.gam e0) 204 x204 := execFnC_ok e36_good hmix Tryz.func204 Tryz.call204 (by decide +kernel) rfl
noncomputable def e37 : Env := e36.add 204 x204
theorem e37_good : e37.Good := Env.Good.add e36_good x204_ok
/-- internal/bytealg.hashStr[string] -/
noncomputable def x213 : FnE := execFnC e37 Tryz.f213 6 [(3, [0, 4, 5]), (8, [4, 6, 7, 8])]
theorem x213_ok : FnE.OK Tryz.prog (Env.gam e0) 213 x213 := execFnC_ok e37_good hmix Tryz.func213 Tryz.call213 (by decide +kernel) rfl
noncomputable def e38 : Env := e37.add 213 x213
theorem e38_good : e38.Good := Env.Good.add e37_good x213_ok
/-- internal/bytealg.IndexRabinKarp[string] -/
noncomputable def x205 : FnE := execFnC e38 Tryz.f205 7 [(5, [0, 1, 5, 6, 7, 8, 9]), (11, [0, 1, 5, 6, 7, 8, 10])]
theorem x205_ok : FnE.OK Tryz.prog (Env.gam e0) 205 x205 := execFnC_ok e38_good hmix Tryz.func205 Tryz.call205 (by decide +kernel) rfl
noncomputable def e39 : Env := e38.add 205 x205
theorem e39_good : e39.Good := Env.Good.add e38_good x205_ok
/-- internal/stringslite.Index -/
noncomputable def x186 : FnE := execFnC e39 Tryz.f186 8 [(15, [0, 1, 5, 6, 7, 8, 9, 10])]
theorem x186_ok : FnE.OK Tryz.prog (Env.gam e0) 186 x186 := execFnC_ok e39_good hmix Tryz.func186 Tryz.call186 (by decide +kernel) rfl
noncomputable def e40 : Env := e39.add 186 x186
theorem e40_good : e40.Good := Env.Good.add e39_good x186_ok
/-- strings.Index -/
noncomputable def x185 : FnE := execFnC e40 Tryz.f185 4 []
theorem x185_ok : FnE.OK Tryz.prog (Env.gam e0) 185 x185 := execFnC_ok e40_good hmix Tryz.func185 Tryz.call185 (by decide +kernel) rfl
noncomputable def e41 : Env := e40.add 185 x185
theorem e41_good : e41.Good := Env.Good.add e40_good x185_ok
noncomputable def e42 : Env := e41.addX 201 xCount
theorem e42_good : e42.Good := Env.Good.addX e41_good (xCount_ok Tryz.func201 rfl (by decide +kernel) (by kernel_rfl) (by kernel_rfl))
/-- strings.Count -/
noncomputable def x184 : FnE := execFnC e42 Tryz.f184 6 [(6, [0, 1, 5])]
theorem x184_ok : FnE.OK Tryz.prog (Env.gam e0) 184 x184 := execFnC_ok e42_good hmix Tryz.func184 Tryz.call184 (by decide +kernel) rfl
noncomputable def e43 : Env := e42.add 184 x184
theorem e43_good : e43.Good := Env.Good.add e42_good x184_ok
/-- strings.genSplit -/
noncomputable def x153 : FnE := execFnC e43 Tryz.f153 7 [(11, [0, 1, 2, 3, 9, 10])]
theorem x153_ok : FnE.OK Tryz.prog (Env.gam e0) 153 x153 := execFnC_ok e43_good hmix Tryz.func153 Tryz.call153 (by decide +kernel) rfl
noncomputable def e44 : Env := e43.add 153 x153
theorem e44_good : e44.Good := Env.Good.add e43_good x153_ok
/-- strings.Split -/
noncomputable def x118 : FnE := execFnC e44 Tryz.f118 4 []
theorem x118_ok : FnE.OK Tryz.prog (Env.gam e0) 118 x118 := execFnC_ok e44_good hmix Tryz.func118 Tryz.call118 (by decide +kernel) rfl
noncomputable def e45 : Env := e44.add 118 x118
theorem e45_good : e45.Good := Env.Good.add e44_good x118_ok
/-- mandrel/schema.Then$1 -/
noncomputable def x128 : FnE := execFnC e45 Tryz.f128 3 []
theorem x128_ok : FnE.OK Tryz.prog (Env.gam e0) 128 x128 := execFnC_ok e45_good hmix Tryz.func128 Tryz.call128 (by decide +kernel) rfl
noncomputable def e46 : Env := e45.add 128 x128
theorem e46_good : e46.Good := Env.Good.add e45_good x128_ok
/-- slices.IndexFunc[[]string,string] -/
noncomputable def x119 : FnE := execFnC e46 Tryz.f119 5 [(2, [0, 1, 7, 8])]
theorem x119_ok : FnE.OK Tryz.prog (Env.gam e0) 119 x119 := execFnC_ok e46_good hmix Tryz.func119 Tryz.call119 (by decide +kernel) rfl
noncomputable def e47 : Env := e46.add 119 x119
theorem e47_good : e47.Good := Env.Good.add e46_good x119_ok
/-- mandrel/schema.kindOf -/
noncomputable def x122 : FnE := execFnC e47 Tryz.f122 4 []
theorem x122_ok : FnE.OK Tryz.prog (Env.gam e0) 122 x122 := execFnC_ok e47_good hmix Tryz.func122 Tryz.call122 (by decide +kernel) rfl
noncomputable def e48 : Env := e47.add 122 x122
theorem e48_good : e48.Good := Env.Good.add e47_good x122_ok
/-- slices.ContainsFunc[[]mandrel/api.Attr,mandrel/api.Attr] -/
noncomputable def x123 : FnE := execFnC e48 Tryz.f123 4 []
theorem x123_ok : FnE.OK Tryz.prog (Env.gam e0) 123 x123 := execFnC_ok e48_good hmix Tryz.func123 Tryz.call123 (by decide +kernel) rfl
noncomputable def e49 : Env := e48.add 123 x123
theorem e49_good : e49.Good := Env.Good.add e48_good x123_ok
/-- internal/stringslite.Cut -/
noncomputable def x155 : FnE := execFnC e49 Tryz.f155 5 []
theorem x155_ok : FnE.OK Tryz.prog (Env.gam e0) 155 x155 := execFnC_ok e49_good hmix Tryz.func155 Tryz.call155 (by decide +kernel) rfl
noncomputable def e50 : Env := e49.add 155 x155
theorem e50_good : e50.Good := Env.Good.add e49_good x155_ok
/-- strings.Cut -/
noncomputable def x125 : FnE := execFnC e50 Tryz.f125 4 []
theorem x125_ok : FnE.OK Tryz.prog (Env.gam e0) 125 x125 := execFnC_ok e50_good hmix Tryz.func125 Tryz.call125 (by decide +kernel) rfl
noncomputable def e51 : Env := e50.add 125 x125
theorem e51_good : e51.Good := Env.Good.add e50_good x125_ok
/-- internal/stringslite.HasSuffix -/
noncomputable def x156 : FnE := execFnC e51 Tryz.f156 5 []
theorem x156_ok : FnE.OK Tryz.prog (Env.gam e0) 156 x156 := execFnC_ok e51_good hmix Tryz.func156 Tryz.call156 (by decide +kernel) rfl
noncomputable def e52 : Env := e51.add 156 x156
theorem e52_good : e52.Good := Env.Good.add e51_good x156_ok
/-- strings.HasSuffix -/
noncomputable def x126 : FnE := execFnC e52 Tryz.f126 4 []
theorem x126_ok : FnE.OK Tryz.prog (Env.gam e0) 126 x126 := execFnC_ok e52_good hmix Tryz.func126 Tryz.call126 (by decide +kernel) rfl
noncomputable def e53 : Env := e52.add 126 x126
theorem e53_good : e53.Good := Env.Good.add e52_good x126_ok
/-- mandrel/schema.attrs -/
noncomputable def x86 : FnE := execFnC e53 Tryz.f86 7 [(3, [2, 5, 20, 21, 22]), (14, [2, 63, 64, 65])]
theorem x86_ok : FnE.OK Tryz.prog (Env.gam e0) 86 x86 := execFnC_ok e53_good hmix Tryz.func86 Tryz.call86 (by decide +kernel) rfl
noncomputable def e54 : Env := e53.add 86 x86
theorem e54_good : e54.Good := Env.Good.add e53_good x86_ok
/-- slices.ContainsFunc[[]string,string] -/
noncomputable def x127 : FnE := execFnC e54 Tryz.f127 4 []
theorem x127_ok : FnE.OK Tryz.prog (Env.gam e0) 127 x127 := execFnC_ok e54_good hmix Tryz.func127 Tryz.call127 (by decide +kernel) rfl
noncomputable def e55 : Env := e54.add 127 x127
theorem e55_good : e55.Good := Env.Good.add e54_good x127_ok
/-- mandrel/schema.Then -/
noncomputable def x87 : FnE := execFnC e55 Tryz.f87 5 []
theorem x87_ok : FnE.OK Tryz.prog (Env.gam e0) 87 x87 := execFnC_ok e55_good hmix Tryz.func87 Tryz.call87 (by decide +kernel) rfl
noncomputable def e56 : Env := e55.add 87 x87
theorem e56_good : e56.Good := Env.Good.add e55_good x87_ok
/-- mandrel/schema.Check -/
noncomputable def x63 : FnE := execFnC e56 Tryz.f63 7 []
theorem x63_ok : FnE.OK Tryz.prog (Env.gam e0) 63 x63 := execFnC_ok e56_good hmix Tryz.func63 Tryz.call63 (by decide +kernel) rfl
noncomputable def e57 : Env := e56.add 63 x63
theorem e57_good : e57.Good := Env.Good.add e56_good x63_ok
/-- mandrel/schema.Int -/
noncomputable def x31 : FnE := execFnC e57 Tryz.f31 5 []
theorem x31_ok : FnE.OK Tryz.prog (Env.gam e0) 31 x31 := execFnC_ok e57_good hmix Tryz.func31 Tryz.call31 (by decide +kernel) rfl
noncomputable def e58 : Env := e57.add 31 x31
theorem e58_good : e58.Good := Env.Good.add e57_good x31_ok
/-- mandrel/num.whole -/
noncomputable def x100 : FnE := execFnC e58 Tryz.f100 4 []
theorem x100_ok : FnE.OK Tryz.prog (Env.gam e0) 100 x100 := execFnC_ok e58_good hmix Tryz.func100 Tryz.call100 (by decide +kernel) rfl
noncomputable def e59 : Env := e58.add 100 x100
theorem e59_good : e59.Good := Env.Good.add e58_good x100_ok
/-- mandrel/num.flag -/
noncomputable def x104 : FnE := execFnC e59 Tryz.f104 3 []
theorem x104_ok : FnE.OK Tryz.prog (Env.gam e0) 104 x104 := execFnC_ok e59_good hmix Tryz.func104 Tryz.call104 (by decide +kernel) rfl
noncomputable def e60 : Env := e59.add 104 x104
theorem e60_good : e60.Good := Env.Good.add e59_good x104_ok
/-- mandrel/num.cut -/
noncomputable def x108 : FnE := execFnC e60 Tryz.f108 4 []
theorem x108_ok : FnE.OK Tryz.prog (Env.gam e0) 108 x108 := execFnC_ok e60_good hmix Tryz.func108 Tryz.call108 (by decide +kernel) rfl
noncomputable def e61 : Env := e60.add 108 x108
theorem e61_good : e61.Good := Env.Good.add e60_good x108_ok
/-- mandrel/num.wholes -/
noncomputable def x101 : FnE := execFnC e61 Tryz.f101 7 []
theorem x101_ok : FnE.OK Tryz.prog (Env.gam e0) 101 x101 := execFnC_ok e61_good hmix Tryz.func101 Tryz.call101 (by decide +kernel) rfl
noncomputable def e62 : Env := e61.add 101 x101
theorem e62_good : e62.Good := Env.Good.add e61_good x101_ok
noncomputable def e63 : Env := e62.addX 148 (xBits .f32 .u32)
theorem e63_good : e63.Good := Env.Good.addX e62_good (xBits_ok (row := Extern.MathFloatBits.float32bits) (fun _ => rfl) Tryz.func148 rfl (by decide +kernel) (by kernel_rfl) (by kernel_rfl))
/-- mandrel/num.bitsOf -/
noncomputable def x105 : FnE := execFnC e63 Tryz.f105 4 []
theorem x105_ok : FnE.OK Tryz.prog (Env.gam e0) 105 x105 := execFnC_ok e63_good hmix Tryz.func105 Tryz.call105 (by decide +kernel) rfl
noncomputable def e64 : Env := e63.add 105 x105
theorem e64_good : e64.Good := Env.Good.add e63_good x105_ok
noncomputable def e65 : Env := e64.addX 149 (xFrombits .f32 .u32)
theorem e65_good : e65.Good := Env.Good.addX e64_good (xFrombits_ok (row := Extern.MathFloatBits.float32frombits) (fun _ => rfl) Tryz.func149 rfl (by decide +kernel) (by kernel_rfl) (by kernel_rfl))
/-- mandrel/num.number -/
noncomputable def x107 : FnE := execFnC e65 Tryz.f107 3 []
theorem x107_ok : FnE.OK Tryz.prog (Env.gam e0) 107 x107 := execFnC_ok e65_good hmix Tryz.func107 Tryz.call107 (by decide +kernel) rfl
noncomputable def e66 : Env := e65.add 107 x107
theorem e66_good : e66.Good := Env.Good.add e65_good x107_ok
/-- mandrel/num.floats -/
noncomputable def x102 : FnE := execFnC e66 Tryz.f102 7 []
theorem x102_ok : FnE.OK Tryz.prog (Env.gam e0) 102 x102 := execFnC_ok e66_good hmix Tryz.func102 Tryz.call102 (by decide +kernel) rfl
noncomputable def e67 : Env := e66.add 102 x102
theorem e67_good : e67.Good := Env.Good.add e66_good x102_ok
/-- mandrel/num.Binary -/
noncomputable def x72 : FnE := execFnC e67 Tryz.f72 7 []
theorem x72_ok : FnE.OK Tryz.prog (Env.gam e0) 72 x72 := execFnC_ok e67_good hmix Tryz.func72 Tryz.call72 (by decide +kernel) rfl
noncomputable def e68 : Env := e67.add 72 x72
theorem e68_good : e68.Good := Env.Good.add e67_good x72_ok
/-- (mandrel/infer.maker).constant -/
noncomputable def x88 : FnE := execFnC e68 Tryz.f88 4 []
theorem x88_ok : FnE.OK Tryz.prog (Env.gam e0) 88 x88 := execFnC_ok e68_good hmix Tryz.func88 Tryz.call88 (by decide +kernel) rfl
noncomputable def e69 : Env := e68.add 88 x88
theorem e69_good : e69.Good := Env.Good.add e68_good x88_ok
/-- math.Sqrt -/
noncomputable def x157 : FnE := execFnC e69 Tryz.f157 3 []
theorem x157_ok : FnE.OK Tryz.prog (Env.gam e0) 157 x157 := execFnC_ok e69_good hmix Tryz.func157 Tryz.call157 (by decide +kernel) rfl
noncomputable def e70 : Env := e69.add 157 x157
theorem e70_good : e70.Good := Env.Good.add e69_good x157_ok
/-- math.IsNaN -/
noncomputable def x206 : FnE := execFnC e70 Tryz.f206 3 []
theorem x206_ok : FnE.OK Tryz.prog (Env.gam e0) 206 x206 := execFnC_ok e70_good hmix Tryz.func206 Tryz.call206 (by decide +kernel) rfl
noncomputable def e71 : Env := e70.add 206 x206
theorem e71_good : e71.Good := Env.Good.add e70_good x206_ok
noncomputable def e72 : Env := e71.addX 190 (xFrombits .f64 .u64)
theorem e72_good : e72.Good := Env.Good.addX e71_good (xFrombits_ok (row := Extern.MathFloatBits.float64frombits) (fun _ => rfl) Tryz.func190 rfl (by decide +kernel) (by kernel_rfl) (by kernel_rfl))
noncomputable def e73 : Env := e72.addX 217 (xBits .f64 .u64)
theorem e73_good : e73.Good := Env.Good.addX e72_good (xBits_ok (row := Extern.MathFloatBits.float64bits) (fun _ => rfl) Tryz.func217 rfl (by decide +kernel) (by kernel_rfl) (by kernel_rfl))
/-- math.Abs -/
noncomputable def x214 : FnE := execFnC e73 Tryz.f214 3 []
theorem x214_ok : FnE.OK Tryz.prog (Env.gam e0) 214 x214 := execFnC_ok e73_good hmix Tryz.func214 Tryz.call214 (by decide +kernel) rfl
noncomputable def e74 : Env := e73.add 214 x214
theorem e74_good : e74.Good := Env.Good.add e73_good x214_ok
/-- math.IsInf -/
noncomputable def x207 : FnE := execFnC e74 Tryz.f207 4 []
theorem x207_ok : FnE.OK Tryz.prog (Env.gam e0) 207 x207 := execFnC_ok e74_good hmix Tryz.func207 Tryz.call207 (by decide +kernel) rfl
noncomputable def e75 : Env := e74.add 207 x207
theorem e75_good : e75.Good := Env.Good.add e74_good x207_ok
/-- math.Copysign -/
noncomputable def x216 : FnE := execFnC e75 Tryz.f216 4 []
theorem x216_ok : FnE.OK Tryz.prog (Env.gam e0) 216 x216 := execFnC_ok e75_good hmix Tryz.func216 Tryz.call216 (by decide +kernel) rfl
noncomputable def e76 : Env := e75.add 216 x216
theorem e76_good : e76.Good := Env.Good.add e75_good x216_ok
/-- math.trunc -/
noncomputable def x219 : FnE := execFnC e76 Tryz.f219 5 []
theorem x219_ok : FnE.OK Tryz.prog (Env.gam e0) 219 x219 := execFnC_ok e76_good hmix Tryz.func219 Tryz.call219 (by decide +kernel) rfl
noncomputable def e77 : Env := e76.add 219 x219
theorem e77_good : e77.Good := Env.Good.add e76_good x219_ok
/-- math.Trunc -/
noncomputable def x215 : FnE := execFnC e77 Tryz.f215 3 []
theorem x215_ok : FnE.OK Tryz.prog (Env.gam e0) 215 x215 := execFnC_ok e77_good hmix Tryz.func215 Tryz.call215 (by decide +kernel) rfl
noncomputable def e78 : Env := e77.add 215 x215
theorem e78_good : e78.Good := Env.Good.add e77_good x215_ok
/-- math.Modf -/
noncomputable def x208 : FnE := execFnC e78 Tryz.f208 4 []
theorem x208_ok : FnE.OK Tryz.prog (Env.gam e0) 208 x208 := execFnC_ok e78_good hmix Tryz.func208 Tryz.call208 (by decide +kernel) rfl
noncomputable def e79 : Env := e78.add 208 x208
theorem e79_good : e79.Good := Env.Good.add e78_good x208_ok
/-- math.floor -/
noncomputable def x189 : FnE := execFnC e79 Tryz.f189 6 []
theorem x189_ok : FnE.OK Tryz.prog (Env.gam e0) 189 x189 := execFnC_ok e79_good hmix Tryz.func189 Tryz.call189 (by decide +kernel) rfl
noncomputable def e80 : Env := e79.add 189 x189
theorem e80_good : e80.Good := Env.Good.add e79_good x189_ok
/-- math.Floor -/
noncomputable def x158 : FnE := execFnC e80 Tryz.f158 3 []
theorem x158_ok : FnE.OK Tryz.prog (Env.gam e0) 158 x158 := execFnC_ok e80_good hmix Tryz.func158 Tryz.call158 (by decide +kernel) rfl
noncomputable def e81 : Env := e80.add 158 x158
theorem e81_good : e81.Good := Env.Good.add e80_good x158_ok
/-- mandrel/num.exp -/
noncomputable def x159 : FnE := execFnC e81 Tryz.f159 6 [(12, [4, 5, 6, 7])]
theorem x159_ok : FnE.OK Tryz.prog (Env.gam e0) 159 x159 := execFnC_ok e81_good hmix Tryz.func159 Tryz.call159 (by decide +kernel) rfl
noncomputable def e82 : Env := e81.add 159 x159
theorem e82_good : e82.Good := Env.Good.add e81_good x159_ok
/-- mandrel/num.sigmoid -/
noncomputable def x160 : FnE := execFnC e82 Tryz.f160 4 []
theorem x160_ok : FnE.OK Tryz.prog (Env.gam e0) 160 x160 := execFnC_ok e82_good hmix Tryz.func160 Tryz.call160 (by decide +kernel) rfl
noncomputable def e83 : Env := e82.add 160 x160
theorem e83_good : e83.Good := Env.Good.add e82_good x160_ok
/-- mandrel/num.tanh -/
noncomputable def x161 : FnE := execFnC e83 Tryz.f161 6 []
theorem x161_ok : FnE.OK Tryz.prog (Env.gam e0) 161 x161 := execFnC_ok e83_good hmix Tryz.func161 Tryz.call161 (by decide +kernel) rfl
noncomputable def e84 : Env := e83.add 161 x161
theorem e84_good : e84.Good := Env.Good.add e83_good x161_ok
/-- mandrel/num.ofFloat -/
noncomputable def x130 : FnE := execFnC e84 Tryz.f130 6 []
theorem x130_ok : FnE.OK Tryz.prog (Env.gam e0) 130 x130 := execFnC_ok e84_good hmix Tryz.func130 Tryz.call130 (by decide +kernel) rfl
noncomputable def e85 : Env := e84.add 130 x130
theorem e85_good : e85.Good := Env.Good.add e84_good x130_ok
/-- mandrel/num.Unary -/
noncomputable def x89 : FnE := execFnC e85 Tryz.f89 7 []
theorem x89_ok : FnE.OK Tryz.prog (Env.gam e0) 89 x89 := execFnC_ok e85_good hmix Tryz.func89 Tryz.call89 (by decide +kernel) rfl
noncomputable def e86 : Env := e85.add 89 x89
theorem e86_good : e86.Good := Env.Good.add e85_good x89_ok
/-- (mandrel/infer.maker).alike$1 -/
noncomputable def x132 : FnE := execFnC e86 Tryz.f132 4 []
theorem x132_ok : FnE.OK Tryz.prog (Env.gam e0) 132 x132 := execFnC_ok e86_good hmix Tryz.func132 Tryz.call132 (by decide +kernel) rfl
noncomputable def e87 : Env := e86.add 132 x132
theorem e87_good : e87.Good := Env.Good.add e86_good x132_ok
/-- slices.IndexFunc[[]mandrel/api.Value,mandrel/api.Value] -/
noncomputable def x162 : FnE := execFnC e87 Tryz.f162 5 [(2, [0, 1, 7, 8])]
theorem x162_ok : FnE.OK Tryz.prog (Env.gam e0) 162 x162 := execFnC_ok e87_good hmix Tryz.func162 Tryz.call162 (by decide +kernel) rfl
noncomputable def e88 : Env := e87.add 162 x162
theorem e88_good : e88.Good := Env.Good.add e87_good x162_ok
/-- slices.ContainsFunc[[]mandrel/api.Value,mandrel/api.Value] -/
noncomputable def x131 : FnE := execFnC e88 Tryz.f131 4 []
theorem x131_ok : FnE.OK Tryz.prog (Env.gam e0) 131 x131 := execFnC_ok e88_good hmix Tryz.func131 Tryz.call131 (by decide +kernel) rfl
noncomputable def e89 : Env := e88.add 131 x131
theorem e89_good : e89.Good := Env.Good.add e88_good x131_ok
/-- (mandrel/infer.maker).alike -/
noncomputable def x90 : FnE := execFnC e89 Tryz.f90 4 []
theorem x90_ok : FnE.OK Tryz.prog (Env.gam e0) 90 x90 := execFnC_ok e89_good hmix Tryz.func90 Tryz.call90 (by decide +kernel) rfl
noncomputable def e90 : Env := e89.add 90 x90
theorem e90_good : e90.Good := Env.Good.add e89_good x90_ok
/-- (mandrel/infer.maker).typ -/
noncomputable def x65 : FnE := execFnC e90 Tryz.f65 8 []
theorem x65_ok : FnE.OK Tryz.prog (Env.gam e0) 65 x65 := execFnC_ok e90_good hmix Tryz.func65 Tryz.call65 (by decide +kernel) rfl
noncomputable def e91 : Env := e90.add 65 x65
theorem e91_good : e91.Good := Env.Good.add e90_good x65_ok
/-- slices.Equal[[]int,int] -/
noncomputable def x41 : FnE := execFnC e91 Tryz.f41 5 [(4, [0, 1, 12, 13])]
theorem x41_ok : FnE.OK Tryz.prog (Env.gam e0) 41 x41 := execFnC_ok e91_good hmix Tryz.func41 Tryz.call41 (by decide +kernel) rfl
noncomputable def e92 : Env := e91.add 41 x41
theorem e92_good : e92.Good := Env.Good.add e91_good x41_ok
/-- slices.Clone[[]int,int] -/
theorem cn68 (w : World) (c : Nat) : Calls Tryz.prog 68 #[.slice none 0 c] w fun e w' => e = .returned (.slice none 0 0) ∧ w' = w := by
  have q : ∀ (w : World) (a : Option Addr) (n c n' c' : Nat), (binOp .eql 22 (.slice a n c) (.slice none n' c')).run Tryz.prog w = .ok (.bool a.isNone) w := fun w a n c n' c' => Go.Lib.run_eql_slice_nil w _ _ a n c n' c' Tryz.underlying22
  go_enter Tryz.func68, Tryz.ntmps68
  go_wp2
  go_ret
  exact ⟨rfl, rfl⟩
theorem ce68 (w : World) (a : Addr) (c : Nat) : Calls Tryz.prog 68 #[.slice (some a) 0 c] w fun e w' => (∃ b, e = .returned (.slice b 0 0)) ∧ ∃ o, w' = w.alloc o := by
  have q : ∀ (w : World) (a : Option Addr) (n c n' c' : Nat), (binOp .eql 22 (.slice a n c) (.slice none n' c')).run Tryz.prog w = .ok (.bool a.isNone) w := fun w a n c n' c' => Go.Lib.run_eql_slice_nil w _ _ a n c n' c' Tryz.underlying22
  go_enter Tryz.func68, Tryz.ntmps68
  go_wp2
  go_ret
  exact ⟨⟨_, rfl⟩, ⟨_, rfl⟩⟩
noncomputable def b68 : FnE := execFnC e92 Tryz.f68 4 []
noncomputable def x68 : FnE := cloneE b68
theorem x68_ok : FnE.OK Tryz.prog (Env.gam e0) 68 x68 := cloneE_ok (execFnC_ok e92_good hmix Tryz.func68 Tryz.call68 (by decide +kernel) rfl) Tryz.call68 cn68 ce68
noncomputable def e93 : Env := e92.add 68 x68
theorem e93_good : e93.Good := Env.Good.add e92_good x68_ok
/-- mandrel/shape.Broadcast -/
noncomputable def x40 : FnE := execFnC e93 Tryz.f40 7 [(2, [0, 1, 18, 19, 20]), (13, [1, 10, 11, 48, 49])]
theorem x40_ok : FnE.OK Tryz.prog (Env.gam e0) 40 x40 := execFnC_ok e93_good hmix Tryz.func40 Tryz.call40 (by decide +kernel) rfl
noncomputable def e94 : Env := e93.add 40 x40
theorem e94_good : e94.Good := Env.Good.add e93_good x40_ok
/-- mandrel/infer.spread -/
noncomputable def x91 : FnE := execFnC e94 Tryz.f91 5 []
theorem x91_ok : FnE.OK Tryz.prog (Env.gam e0) 91 x91 := execFnC_ok e94_good hmix Tryz.func91 Tryz.call91 (by decide +kernel) rfl
noncomputable def e95 : Env := e94.add 91 x91
theorem e95_good : e95.Good := Env.Good.add e94_good x91_ok
/-- mandrel/infer.axis -/
noncomputable def x92 : FnE := execFnC e95 Tryz.f92 5 []
theorem x92_ok : FnE.OK Tryz.prog (Env.gam e0) 92 x92 := execFnC_ok e95_good hmix Tryz.func92 Tryz.call92 (by decide +kernel) rfl
noncomputable def e96 : Env := e95.add 92 x92
theorem e96_good : e96.Good := Env.Good.add e95_good x92_ok
/-- slices.Clone[[]int64,int64] -/
theorem cn15 (w : World) (c : Nat) : Calls Tryz.prog 15 #[.slice none 0 c] w fun e w' => e = .returned (.slice none 0 0) ∧ w' = w := by
  have q : ∀ (w : World) (a : Option Addr) (n c n' c' : Nat), (binOp .eql 23 (.slice a n c) (.slice none n' c')).run Tryz.prog w = .ok (.bool a.isNone) w := fun w a n c n' c' => Go.Lib.run_eql_slice_nil w _ _ a n c n' c' Tryz.underlying23
  go_enter Tryz.func15, Tryz.ntmps15
  go_wp2
  go_ret
  exact ⟨rfl, rfl⟩
theorem ce15 (w : World) (a : Addr) (c : Nat) : Calls Tryz.prog 15 #[.slice (some a) 0 c] w fun e w' => (∃ b, e = .returned (.slice b 0 0)) ∧ ∃ o, w' = w.alloc o := by
  have q : ∀ (w : World) (a : Option Addr) (n c n' c' : Nat), (binOp .eql 23 (.slice a n c) (.slice none n' c')).run Tryz.prog w = .ok (.bool a.isNone) w := fun w a n c n' c' => Go.Lib.run_eql_slice_nil w _ _ a n c n' c' Tryz.underlying23
  go_enter Tryz.func15, Tryz.ntmps15
  go_wp2
  go_ret
  exact ⟨⟨_, rfl⟩, ⟨_, rfl⟩⟩
noncomputable def b15 : FnE := execFnC e96 Tryz.f15 4 []
noncomputable def x15 : FnE := cloneE b15
theorem x15_ok : FnE.OK Tryz.prog (Env.gam e0) 15 x15 := cloneE_ok (execFnC_ok e96_good hmix Tryz.func15 Tryz.call15 (by decide +kernel) rfl) Tryz.call15 cn15 ce15
noncomputable def e97 : Env := e96.add 15 x15
theorem e97_good : e97.Good := Env.Good.add e96_good x15_ok
/-- mandrel/schema.Ints -/
noncomputable def x11 : FnE := execFnC e97 Tryz.f11 5 []
theorem x11_ok : FnE.OK Tryz.prog (Env.gam e0) 11 x11 := execFnC_ok e97_good hmix Tryz.func11 Tryz.call11 (by decide +kernel) rfl
noncomputable def e98 : Env := e97.add 11 x11
theorem e98_good : e98.Good := Env.Good.add e97_good x11_ok
/-- mandrel/infer.upTo -/
noncomputable def x133 : FnE := execFnC e98 Tryz.f133 4 [(3, [3, 5, 6])]
theorem x133_ok : FnE.OK Tryz.prog (Env.gam e0) 133 x133 := execFnC_ok e98_good hmix Tryz.func133 Tryz.call133 (by decide +kernel) rfl
noncomputable def e99 : Env := e98.add 133 x133
theorem e99_good : e99.Good := Env.Good.add e98_good x133_ok
/-- slices.Index[[]int,int] -/
noncomputable def x163 : FnE := execFnC e99 Tryz.f163 5 [(2, [0, 1, 7, 8])]
theorem x163_ok : FnE.OK Tryz.prog (Env.gam e0) 163 x163 := execFnC_ok e99_good hmix Tryz.func163 Tryz.call163 (by decide +kernel) rfl
noncomputable def e100 : Env := e99.add 163 x163
theorem e100_good : e100.Good := Env.Good.add e99_good x163_ok
/-- slices.Contains[[]int,int] -/
noncomputable def x135 : FnE := execFnC e100 Tryz.f135 4 []
theorem x135_ok : FnE.OK Tryz.prog (Env.gam e0) 135 x135 := execFnC_ok e100_good hmix Tryz.func135 Tryz.call135 (by decide +kernel) rfl
noncomputable def e101 : Env := e100.add 135 x135
theorem e101_good : e101.Good := Env.Good.add e100_good x135_ok
/-- mandrel/infer.axes -/
noncomputable def x134 : FnE := execFnC e101 Tryz.f134 5 [(3, [1, 5, 9, 10, 11])]
theorem x134_ok : FnE.OK Tryz.prog (Env.gam e0) 134 x134 := execFnC_ok e101_good hmix Tryz.func134 Tryz.call134 (by decide +kernel) rfl
noncomputable def e102 : Env := e101.add 134 x134
theorem e102_good : e102.Good := Env.Good.add e101_good x134_ok
/-- (mandrel/infer.maker).reduced -/
noncomputable def x93 : FnE := execFnC e102 Tryz.f93 6 [(9, [6, 7, 8, 39, 40, 41])]
theorem x93_ok : FnE.OK Tryz.prog (Env.gam e0) 93 x93 := execFnC_ok e102_good hmix Tryz.func93 Tryz.call93 (by decide +kernel) rfl
noncomputable def e103 : Env := e102.add 93 x93
theorem e103_good : e103.Good := Env.Good.add e102_good x93_ok
/-- mandrel/infer.product -/
noncomputable def x94 : FnE := execFnC e103 Tryz.f94 6 []
theorem x94_ok : FnE.OK Tryz.prog (Env.gam e0) 94 x94 := execFnC_ok e103_good hmix Tryz.func94 Tryz.call94 (by decide +kernel) rfl
noncomputable def e104 : Env := e103.add 94 x94
theorem e104_good : e104.Good := Env.Good.add e103_good x94_ok
/-- (mandrel/infer.maker).turned -/
noncomputable def x136 : FnE := execFnC e104 Tryz.f136 6 []
theorem x136_ok : FnE.OK Tryz.prog (Env.gam e0) 136 x136 := execFnC_ok e104_good hmix Tryz.func136 Tryz.call136 (by decide +kernel) rfl
noncomputable def e105 : Env := e104.add 136 x136
theorem e105_good : e105.Good := Env.Good.add e104_good x136_ok
/-- (mandrel/infer.maker).gemm -/
noncomputable def x95 : FnE := execFnC e105 Tryz.f95 6 []
theorem x95_ok : FnE.OK Tryz.prog (Env.gam e0) 95 x95 := execFnC_ok e105_good hmix Tryz.func95 Tryz.call95 (by decide +kernel) rfl
noncomputable def e106 : Env := e105.add 95 x95
theorem e106_good : e106.Good := Env.Good.add e105_good x95_ok
/-- mandrel/infer.numbers -/
noncomputable def x138 : FnE := execFnC e106 Tryz.f138 6 [(4, [3, 4, 5, 14, 21, 22, 23])]
theorem x138_ok : FnE.OK Tryz.prog (Env.gam e0) 138 x138 := execFnC_ok e106_good hmix Tryz.func138 Tryz.call138 (by decide +kernel) rfl
noncomputable def e107 : Env := e106.add 138 x138
theorem e107_good : e107.Good := Env.Good.add e106_good x138_ok
/-- (mandrel/infer.maker).window -/
noncomputable def x137 : FnE := execFnC e107 Tryz.f137 5 []
theorem x137_ok : FnE.OK Tryz.prog (Env.gam e0) 137 x137 := execFnC_ok e107_good hmix Tryz.func137 Tryz.call137 (by decide +kernel) rfl
noncomputable def e108 : Env := e107.add 137 x137
theorem e108_good : e108.Good := Env.Good.add e107_good x137_ok
/-- (mandrel/infer.maker).conv -/
noncomputable def x96 : FnE := execFnC e108 Tryz.f96 7 []
theorem x96_ok : FnE.OK Tryz.prog (Env.gam e0) 96 x96 := execFnC_ok e108_good hmix Tryz.func96 Tryz.call96 (by decide +kernel) rfl
noncomputable def e109 : Env := e108.add 96 x96
theorem e109_good : e109.Good := Env.Good.add e108_good x96_ok
/-- (mandrel/infer.maker).pool -/
noncomputable def x97 : FnE := execFnC e109 Tryz.f97 6 [(5, [1, 5, 6, 7, 26, 27, 28])]
theorem x97_ok : FnE.OK Tryz.prog (Env.gam e0) 97 x97 := execFnC_ok e109_good hmix Tryz.func97 Tryz.call97 (by decide +kernel) rfl
noncomputable def e110 : Env := e109.add 97 x97
theorem e110_good : e110.Good := Env.Good.add e109_good x97_ok
/-- mandrel/infer.count -/
noncomputable def x165 : FnE := execFnC e110 Tryz.f165 4 []
theorem x165_ok : FnE.OK Tryz.prog (Env.gam e0) 165 x165 := execFnC_ok e110_good hmix Tryz.func165 Tryz.call165 (by decide +kernel) rfl
noncomputable def e111 : Env := e110.add 165 x165
theorem e111_good : e111.Good := Env.Good.add e110_good x165_ok
/-- (mandrel/infer.maker).reshape -/
noncomputable def x139 : FnE := execFnC e111 Tryz.f139 7 [(4, [1, 5, 6, 7, 13, 14, 15])]
theorem x139_ok : FnE.OK Tryz.prog (Env.gam e0) 139 x139 := execFnC_ok e111_good hmix Tryz.func139 Tryz.call139 (by decide +kernel) rfl
noncomputable def e112 : Env := e111.add 139 x139
theorem e112_good : e112.Good := Env.Good.add e111_good x139_ok
/-- slices.Reverse[[]int64,int64] -/
noncomputable def x166 : FnE := execFnC e112 Tryz.f166 5 [(1, [0, 2, 3])]
theorem x166_ok : FnE.OK Tryz.prog (Env.gam e0) 166 x166 := execFnC_ok e112_good hmix Tryz.func166 Tryz.call166 (by decide +kernel) rfl
noncomputable def e113 : Env := e112.add 166 x166
theorem e113_good : e113.Good := Env.Good.add e112_good x166_ok
/-- (mandrel/infer.maker).transpose -/
noncomputable def x140 : FnE := execFnC e113 Tryz.f140 6 [(6, [1, 6, 7, 24, 25, 26])]
theorem x140_ok : FnE.OK Tryz.prog (Env.gam e0) 140 x140 := execFnC_ok e113_good hmix Tryz.func140 Tryz.call140 (by decide +kernel) rfl
noncomputable def e114 : Env := e113.add 140 x140
theorem e114_good : e114.Good := Env.Good.add e113_good x140_ok
/-- (mandrel/infer.maker).concat -/
noncomputable def x141 : FnE := execFnC e114 Tryz.f141 6 [(4, [1, 5, 6, 21, 22, 23]), (8, [1, 5, 6, 21, 22, 23, 35, 36, 37])]
theorem x141_ok : FnE.OK Tryz.prog (Env.gam e0) 141 x141 := execFnC_ok e114_good hmix Tryz.func141 Tryz.call141 (by decide +kernel) rfl
noncomputable def e115 : Env := e114.add 141 x141
theorem e115_good : e115.Good := Env.Good.add e114_good x141_ok
/-- mandrel/infer.bound -/
noncomputable def x167 : FnE := execFnC e115 Tryz.f167 4 []
theorem x167_ok : FnE.OK Tryz.prog (Env.gam e0) 167 x167 := execFnC_ok e115_good hmix Tryz.func167 Tryz.call167 (by decide +kernel) rfl
noncomputable def e116 : Env := e115.add 167 x167
theorem e116_good : e116.Good := Env.Good.add e115_good x167_ok
/-- (mandrel/infer.maker).slice -/
noncomputable def x142 : FnE := execFnC e116 Tryz.f142 7 [(6, [1, 5, 6, 8, 41, 42, 43])]
theorem x142_ok : FnE.OK Tryz.prog (Env.gam e0) 142 x142 := execFnC_ok e116_good hmix Tryz.func142 Tryz.call142 (by decide +kernel) rfl
noncomputable def e117 : Env := e116.add 142 x142
theorem e117_good : e117.Good := Env.Good.add e116_good x142_ok
/-- slices.Grow[[]int,int] -/
noncomputable def x168 : FnE := execFnC e117 Tryz.f168 5 []
theorem x168_ok : FnE.OK Tryz.prog (Env.gam e0) 168 x168 := execFnC_ok e117_good hmix Tryz.func168 Tryz.call168 (by decide +kernel) rfl
noncomputable def e118 : Env := e117.add 168 x168
theorem e118_good : e118.Good := Env.Good.add e117_good x168_ok
/-- slices.Concat[[]int,int] -/
noncomputable def x143 : FnE := execFnC e118 Tryz.f143 6 [(3, [0, 3, 9, 10, 11]), (11, [6, 25, 26, 27])]
theorem x143_ok : FnE.OK Tryz.prog (Env.gam e0) 143 x143 := execFnC_ok e118_good hmix Tryz.func143 Tryz.call143 (by decide +kernel) rfl
end Go.Proofs.XPT
namespace Go.Proofs.XPT
open Go.Vm Go
set_option maxRecDepth 100000
set_option maxHeartbeats 4000000

noncomputable def C_idxi : Code := codeOf Tryz.f99
noncomputable def cf_idxi : Cfg := ⟨19, 5, 0, [(2, [0, 1, 7, 8])], true⟩
noncomputable def C_count : Code := codeOf Tryz.f32
noncomputable def cf_count : Cfg := ⟨27, 5, 0, [(7, [4, 12, 13, 14])], true⟩
noncomputable def C_idxl : Code := codeOf Tryz.f83
noncomputable def cf_idxl : Cfg := ⟨19, 5, 1, [(2, [0, 1, 7, 8])], true⟩
/-- is x an element of the type t -/
def numOk (t x : Int) : Bool :=
  bif t == 1 then
    bif IntKind.i64.wrap (Int.ofNat (BitVec.ofInt 64 x &&& BitVec.ofNat 64 2139095040).toNat) == 2139095040 then
      bif x.fdiv 4294967296 == 0 then
        bif !IntKind.i64.wrap (Int.ofNat (BitVec.ofInt 64 x &&& BitVec.ofNat 64 8388607).toNat) != 0 then true else x == 2143289344
      else false
    else
      bif x.fdiv 4294967296 == 0 then true else false
  else
    bif t == 6 then x == IntKind.i64.wrap (IntKind.i32.wrap x)
    else
      bif t == 9 then x.fdiv 2 == 0 else t == 7
theorem chk_eq (t x : Int) : runC e1 Tryz.f60 6 [] [I t, I x] [] ah = bif t == 1 then  bif IntKind.i64.wrap (Int.ofNat (BitVec.ofInt 64 x &&& 2139095040#64).toNat) == 2139095040 then  bif x.fdiv 4294967296 == 0 then  bif !IntKind.i64.wrap (Int.ofNat (BitVec.ofInt 64 x &&& 8388607#64).toNat) != 0 then some (AEnd.ret [B true], []) else some (AEnd.ret [B (x == 2143289344)], []) else some (AEnd.ret [B false], []) else  bif x.fdiv 4294967296 == 0 then some (AEnd.ret [B true], []) else some (AEnd.ret [B false], []) else  bif t == 6 then some (AEnd.ret [B (x == IntKind.i64.wrap (IntKind.i32.wrap x))], []) else  bif t == 9 then some (AEnd.ret [B (x.fdiv 2 == 0)], []) else some (AEnd.ret [B (t == 7)], []) := by kernel_rfl
def chkF : List AV → LHp → Option (AEnd × LHp)
  | [.d (.int .i64) t, .d (.int .i64) x], [] => some (.ret [B (numOk t x)], [])
  | _, _ => none
theorem chk_run (t x : Int) : runC e1 Tryz.f60 6 [] [I t, I x] [] ah = some (.ret [B (numOk t x)], []) := by
  rw [chk_eq]
  unfold numOk
  generalize (t == 1) = c1
  generalize (t == 6) = c2
  generalize (t == 9) = c3
  generalize (IntKind.i64.wrap (Int.ofNat (BitVec.ofInt 64 x &&& BitVec.ofNat 64 2139095040).toNat) == 2139095040) = c4
  generalize (x.fdiv 4294967296 == 0) = c5
  generalize (!IntKind.i64.wrap (Int.ofNat (BitVec.ofInt 64 x &&& BitVec.ofNat 64 8388607).toNat) != 0) = c6
  cases c1 <;> cases c2 <;> cases c3 <;> cases c4 <;> cases c5 <;> cases c6 <;> rfl
theorem chkE_ok : FnE.OK e0.P e0.gam 60 (fnE chkF) := by
  refine fnC_ok e1_good hmix Tryz.func60 Tryz.call60 (depth := 6) (live := []) (by decide +kernel) rfl fun args hs p h => ?_
  unfold chkF at h
  split at h
  · cases h
    exact chk_run _ _
  · cases h

theorem cnt1_eq (d : Int) : runC e3 Tryz.f70 3 [] [I d] [] ah = some (AEnd.ret [B (decide (d < 1))], []) := by kernel_rfl
def cnt1F : List AV → LHp → Option (AEnd × LHp)
  | [.d (.int .i64) d], [] => some (.ret [B (decide (d < 1))], [])
  | _, _ => none
theorem cnt1E_ok : FnE.OK e0.P e0.gam 70 (fnE cnt1F) := by
  refine fnC_ok e3_good hmix Tryz.func70 Tryz.call70 (depth := 3) (live := []) (by decide +kernel) rfl fun args hs p h => ?_
  unfold cnt1F at h
  split at h
  · cases h
    exact cnt1_eq _
  · cases h

/-! ### shape.Count -/
noncomputable def eA : Env := e0.add 70 (fnE cnt1F)
theorem eA_good : eA.Good := e0_good.add cnt1E_ok
def stI (xs : List Int) (i : Int) : LSt := ⟨mkFr 5 [(0, .d (.slice i64T) xs), (1, .fn (.func 70) [] []), (7, I (Int.ofNat xs.length)), (8, I i)], [], 0⟩
theorem idxi_eqH (hl : Hl) (xs : List Int) : runH eA Tryz.f99 5 [(2, [0, 1, 7, 8])] [2] hl [.d (.slice i64T) xs, .fn (.func 70) [] []] [] ah = hl (cL (cL (cR (cL (cR C_idxi))))) _ { fr := mkFr 5 [(0, AV.d (i64T).slice xs), (1, AV.fn (Fn.func 70) [] []), (7, I (Int.ofNat xs.length)), (8, I 0)], hp := [], nx := 0 } (blkK 0 (seqH eA cf_idxi [2] hl (cR (cR C_idxi)) (endC Tryz.prog 0 Tryz.f99.results.toList ah))) := by kernel_rfl
theorem idxi_eq (xs : List Int) : runC eA Tryz.f99 5 [(2, [0, 1, 7, 8])] [.d (.slice i64T) xs, .fn (.func 70) [] []] [] ah = (hlp eA cf_idxi) (cL (cL (cR (cL (cR C_idxi))))) _ { fr := mkFr 5 [(0, AV.d (i64T).slice xs), (1, AV.fn (Fn.func 70) [] []), (7, I (Int.ofNat xs.length)), (8, I 0)], hp := [], nx := 0 } (blkK 0 (seqH eA cf_idxi [2] (hlp eA cf_idxi) (cR (cR C_idxi)) (endC Tryz.prog 0 Tryz.f99.results.toList ah))) := runH_runC.trans (idxi_eqH (hlp eA cf_idxi) xs)
theorem idxi_stepH (hl : Hl) (xs : List Int) (i : Int) (n : Nat) {R : Type} (k : AEx → LSt → Option R) : lpH eA cf_idxi [2] hl (cL (cL (cR (cL (cR C_idxi))))) (n + 1) (stI xs i) k = bif decide (i < Int.ofNat xs.length) then (idx xs i).bind fun v1 => bif decide (v1 < 1) then k AEx.ret { fr := mkFr 5 [(0, AV.d (i64T).slice xs), (1, AV.fn (Fn.func 70) [] []), (4, I i), (5, I i), (7, I (Int.ofNat xs.length)), (8, I i), (9, B true), (10, I i), (11, AV.fn (Fn.func 70) [] []), (12, AV.d (i64T).slice xs), (13, I i), (14, AV.ip (i64T) v1), (15, I v1), (16, B true), (17, I i)], hp := [], nx := 0 } else lpH eA cf_idxi [2] hl (cL (cL (cR (cL (cR C_idxi))))) n { fr := mkFr 5 [(0, AV.d (i64T).slice xs), (1, AV.fn (Fn.func 70) [] []), (7, I (Int.ofNat xs.length)), (8, I (IntKind.i64.wrap (i + 1)))], hp := [], nx := 0 } k else k (AEx.exit 0) { fr := mkFr 5 [(0, AV.d (i64T).slice xs), (1, AV.fn (Fn.func 70) [] []), (7, I (Int.ofNat xs.length)), (8, I i), (9, B false)], hp := [], nx := 0 } := by kernel_rfl
theorem idxi_step (xs : List Int) (i : Int) (n : Nat) {R : Type} (k : AEx → LSt → Option R) : lp eA cf_idxi (cL (cL (cR (cL (cR C_idxi))))) (n + 1) (stI xs i) k = bif decide (i < Int.ofNat xs.length) then (idx xs i).bind fun v1 => bif decide (v1 < 1) then k AEx.ret { fr := mkFr 5 [(0, AV.d (i64T).slice xs), (1, AV.fn (Fn.func 70) [] []), (4, I i), (5, I i), (7, I (Int.ofNat xs.length)), (8, I i), (9, B true), (10, I i), (11, AV.fn (Fn.func 70) [] []), (12, AV.d (i64T).slice xs), (13, I i), (14, AV.ip (i64T) v1), (15, I v1), (16, B true), (17, I i)], hp := [], nx := 0 } else lp eA cf_idxi (cL (cL (cR (cL (cR C_idxi))))) n { fr := mkFr 5 [(0, AV.d (i64T).slice xs), (1, AV.fn (Fn.func 70) [] []), (7, I (Int.ofNat xs.length)), (8, I (IntKind.i64.wrap (i + 1)))], hp := [], nx := 0 } k else k (AEx.exit 0) { fr := mkFr 5 [(0, AV.d (i64T).slice xs), (1, AV.fn (Fn.func 70) [] []), (7, I (Int.ofNat xs.length)), (8, I i), (9, B false)], hp := [], nx := 0 } := by
  have h := idxi_stepH (hlp eA cf_idxi) xs i n k
  simp only [lpH_lp] at h
  exact h
theorem idxi_run (xs : List Int) (hl : xs.length ≤ maxLen) : runC eA Tryz.f99 5 [(2, [0, 1, 7, 8])] [.d (.slice i64T) xs, .fn (.func 70) [] []] [] ah = some (.ret [I (idxP (fun d => decide (d < 1)) xs)], []) := by
  rw [idxi_eq]
  have h := find_lp (T := fun n s => lp eA cf_idxi (cL (cL (cR (cL (cR C_idxi))))) n s (blkK 0 (seqH eA cf_idxi [2] (hlp eA cf_idxi) (cR (cR C_idxi)) (endC Tryz.prog 0 Tryz.f99.results.toList ah)))) (xs := xs) (st := fun i => stI xs i) hl (fun i n => idxi_step xs i n _)
  unfold stI at h
  refine h.trans ?_
  unfold idxP
  cases hq : xs.findIdx? (fun d => decide (d < 1)) with
  | none => show _ = _; kernel_rfl
  | some i =>
    obtain ⟨hi, _⟩ := List.findIdx?_eq_some_iff_getElem.1 hq
    simp only [List.getElem?_eq_getElem hi, Option.bind_some]
    show _ = _
    kernel_rfl
def idxiF : List AV → LHp → Tq
  | [.d (.slice (.int .i64)) xs, .fn (.func 70) [] []], [] => .br (decide (xs.length ≤ maxLen)) (.leaf (.ret [I (idxP (fun d => decide (d < 1)) xs)]) []) .no
  | _, _ => .no
theorem idxiE_ok : FnE.OK e0.P e0.gam 99 (treeE idxiF) := by
  refine treeC_ok eA_good hmix Tryz.func99 Tryz.call99 (depth := 5) (live := [(2, [0, 1, 7, 8])]) (by decide +kernel) rfl fun args hs p h => ?_
  unfold idxiF at h
  split at h
  · obtain ⟨hl, h⟩ := Tq.br_no h
    cases h
    have hl := of_decide_eq_true hl
    exact idxi_run _ hl
  · cases h
def coniF : List AV → LHp → Tq
  | [.d (.slice (.int .i64)) xs, .fn (.func 70) [] []], [] => .br (decide (xs.length ≤ maxLen)) (.leaf (.ret [B (decide (idxP (fun d => decide (d < 1)) xs ≥ 0))]) []) .no
  | _, _ => .no
noncomputable def eB : Env := e0.add 99 (treeE idxiF)
theorem eB_good : eB.Good := e0_good.add idxiE_ok
theorem coni_eq (xs : List Int) : runC eB Tryz.f69 4 [] [.d (.slice i64T) xs, .fn (.func 70) [] []] [] ah = bif decide (xs.length ≤ 9223372036854775807) then some (AEnd.ret [B (decide (idxP (fun d => decide (d < 1)) xs ≥ 0))], []) else none := by kernel_rfl
theorem coniE_ok : FnE.OK e0.P e0.gam 69 (treeE coniF) := by
  refine treeC_ok eB_good hmix Tryz.func69 Tryz.call69 (depth := 4) (live := []) (by decide +kernel) rfl fun args hs p h => ?_
  unfold coniF at h
  split at h
  · obtain ⟨hl, h⟩ := Tq.br_no h
    cases h
    have hl := of_decide_eq_true hl
    exact ((coni_eq _).trans (by rw [decide_eq_true (show _ ≤ 9223372036854775807 from hl)]; rfl))
  · cases h
noncomputable def eC : Env := e0.add 69 (treeE coniF)
theorem eC_good : eC.Good := e0_good.add coniE_ok
theorem count_eqH (hl : Hl) (xs : List Int) : runH eC Tryz.f32 5 [(7, [4, 12, 13, 14])] [7] hl [.d (.slice i64T) xs] [] ah = bif decide (xs.length ≤ 9223372036854775807) then  bif decide (idxP (fun d => decide (d < 1)) xs ≥ 0) then some (AEnd.ret [I 0, I 4], []) else  bif decide (Int.ofNat xs.length > 6) then some (AEnd.ret [I 0, I 6], []) else hl (cL (cL (cR (cL (cR (cR (cR (cR C_count)))))))) _ { fr := mkFr 5 [(4, I 1), (12, AV.d (i64T).slice xs), (13, I (Int.ofNat xs.length)), (14, I 0)], hp := [], nx := 0 } (blkK 0 (seqH eC cf_count [7] hl (cR (cR (cR (cR (cR C_count))))) (endC Tryz.prog 0 Tryz.f32.results.toList ah))) else none := by kernel_rfl
theorem count_eq (xs : List Int) : runC eC Tryz.f32 5 [(7, [4, 12, 13, 14])] [.d (.slice i64T) xs] [] ah = bif decide (xs.length ≤ 9223372036854775807) then  bif decide (idxP (fun d => decide (d < 1)) xs ≥ 0) then some (AEnd.ret [I 0, I 4], []) else  bif decide (Int.ofNat xs.length > 6) then some (AEnd.ret [I 0, I 6], []) else (hlp eC cf_count) (cL (cL (cR (cL (cR (cR (cR (cR C_count)))))))) _ { fr := mkFr 5 [(4, I 1), (12, AV.d (i64T).slice xs), (13, I (Int.ofNat xs.length)), (14, I 0)], hp := [], nx := 0 } (blkK 0 (seqH eC cf_count [7] (hlp eC cf_count) (cR (cR (cR (cR (cR C_count))))) (endC Tryz.prog 0 Tryz.f32.results.toList ah))) else none := runH_runC.trans (count_eqH (hlp eC cf_count) xs)
def stC (xs : List Int) (n i : Int) : LSt := ⟨mkFr 5 [(4, I n), (12, .d (.slice i64T) xs), (13, I (Int.ofNat xs.length)), (14, I i)], [], 0⟩
theorem count_stepH (hl : Hl) (xs : List Int) (v i : Int) (n : Nat) {R : Type} (k : AEx → LSt → Option R) : lpH eC cf_count [7] hl (cL (cL (cR (cL (cR (cR (cR (cR C_count)))))))) (n + 1) (stC xs v i) k = bif decide (i < Int.ofNat xs.length) then (idx xs i).bind fun v1 => (if v = 0 then none else some (IntKind.i64.wrap (Int.tdiv 65536 v))).bind fun v2 => bif decide (v1 > v2) then k AEx.ret { fr := mkFr 5 [(2, I 0), (3, I 6), (4, I v), (6, I v1), (12, AV.d (i64T).slice xs), (13, I (Int.ofNat xs.length)), (14, I i), (15, B true), (16, AV.ip (i64T) v1), (17, I v1), (18, I v1), (19, I v), (20, I v2), (21, B true)], hp := [], nx := 0 } else lpH eC cf_count [7] hl (cL (cL (cR (cL (cR (cR (cR (cR C_count)))))))) n { fr := mkFr 5 [(4, I (IntKind.i64.wrap (v * v1))), (12, AV.d (i64T).slice xs), (13, I (Int.ofNat xs.length)), (14, I (IntKind.i64.wrap (i + 1)))], hp := [], nx := 0 } k else k (AEx.exit 0) { fr := mkFr 5 [(4, I v), (12, AV.d (i64T).slice xs), (13, I (Int.ofNat xs.length)), (14, I i), (15, B false)], hp := [], nx := 0 } := by kernel_rfl
theorem count_step (xs : List Int) (v i : Int) (n : Nat) {R : Type} (k : AEx → LSt → Option R) : lp eC cf_count (cL (cL (cR (cL (cR (cR (cR (cR C_count)))))))) (n + 1) (stC xs v i) k = bif decide (i < Int.ofNat xs.length) then (idx xs i).bind fun v1 => (if v = 0 then none else some (IntKind.i64.wrap (Int.tdiv 65536 v))).bind fun v2 => bif decide (v1 > v2) then k AEx.ret { fr := mkFr 5 [(2, I 0), (3, I 6), (4, I v), (6, I v1), (12, AV.d (i64T).slice xs), (13, I (Int.ofNat xs.length)), (14, I i), (15, B true), (16, AV.ip (i64T) v1), (17, I v1), (18, I v1), (19, I v), (20, I v2), (21, B true)], hp := [], nx := 0 } else lp eC cf_count (cL (cL (cR (cL (cR (cR (cR (cR C_count)))))))) n { fr := mkFr 5 [(4, I (IntKind.i64.wrap (v * v1))), (12, AV.d (i64T).slice xs), (13, I (Int.ofNat xs.length)), (14, I (IntKind.i64.wrap (i + 1)))], hp := [], nx := 0 } k else k (AEx.exit 0) { fr := mkFr 5 [(4, I v), (12, AV.d (i64T).slice xs), (13, I (Int.ofNat xs.length)), (14, I i), (15, B false)], hp := [], nx := 0 } := by
  have h := count_stepH (hlp eC cf_count) xs v i n k
  simp only [lpH_lp] at h
  exact h
/-- the product of a list -/
def prodI (xs : List Int) : Int := xs.foldl (· * ·) 1
theorem prodI_succ {xs : List Int} {i : Nat} {x : Int} (h : xs[i]? = some x) : prodI (xs.take (i + 1)) = prodI (xs.take i) * x := by
  unfold prodI
  rw [List.take_add_one, h, List.foldl_append]
  rfl
theorem prodI_pos {xs : List Int} (h : ∀ x ∈ xs, 1 ≤ x) : ∀ i, 1 ≤ prodI (xs.take i) := by
  intro i
  induction i with
  | zero => simp [prodI]
  | succ i ih =>
    cases hx : xs[i]? with
    | none =>
      have : xs.length ≤ i := List.getElem?_eq_none_iff.1 hx
      rw [List.take_of_length_le (by omega)]
      rw [List.take_of_length_le (by omega)] at ih
      exact ih
    | some x =>
      rw [prodI_succ hx]
      have h1 := h x (List.mem_of_getElem? hx)
      have := Int.mul_le_mul ih h1 (by omega) (by omega)
      omega
theorem prodI_mono {xs : List Int} (h : ∀ x ∈ xs, 1 ≤ x) {i : Nat} : ∀ k, prodI (xs.take i) ≤ prodI (xs.take (i + k)) := by
  intro k
  induction k with
  | zero => exact Int.le_refl _
  | succ k ih =>
    cases hx : xs[i + k]? with
    | none =>
      have : xs.length ≤ i + k := List.getElem?_eq_none_iff.1 hx
      rw [List.take_of_length_le (l := xs) (i := i + (k + 1)) (by omega)]
      rw [List.take_of_length_le (l := xs) (i := i + k) (by omega)] at ih
      exact ih
    | some x =>
      rw [← Nat.add_assoc, prodI_succ hx]
      have h1 := h x (List.mem_of_getElem? hx)
      have h2 := prodI_pos h (i + k)
      have := Int.mul_le_mul_of_nonneg_left h1 (show 0 ≤ prodI (xs.take (i + k)) by omega)
      omega
theorem tdiv_lt {n v : Int} (hn : 1 ≤ n) : (v > Int.tdiv 65536 n) ↔ (n * v > 65536) := by
  rw [Int.tdiv_eq_ediv_of_nonneg (by omega)]
  constructor
  · intro h
    have h1 := (Int.ediv_lt_iff_lt_mul (by omega)).1 h
    rw [Int.mul_comm] at h1
    exact h1
  · intro h
    rw [Int.mul_comm] at h
    exact (Int.ediv_lt_iff_lt_mul (by omega)).2 h

noncomputable def KC : AEx → LSt → Option (AEnd × LHp) := (blkK 0 (seqH eC cf_count [7] (hlp eC cf_count) (cR (cR (cR (cR (cR C_count))))) (endC Tryz.prog 0 Tryz.f32.results.toList ah)))
theorem KC_ret (xs : List Int) (n i x v : Int) : KC AEx.ret { fr := mkFr 5 [(2, I 0), (3, I 6), (4, I n), (6, I x), (12, AV.d (i64T).slice xs), (13, I (Int.ofNat xs.length)), (14, I i), (15, B true), (16, AV.ip (i64T) x), (17, I x), (18, I x), (19, I n), (20, I v), (21, B true)], hp := [], nx := 0 } = some (.ret [I 0, I 6], []) := by kernel_rfl
theorem KC_exit (xs : List Int) (n i : Int) : KC (AEx.exit 0) { fr := mkFr 5 [(4, I n), (12, AV.d (i64T).slice xs), (13, I (Int.ofNat xs.length)), (14, I i), (15, B false)], hp := [], nx := 0 } = some (.ret [I n, I 0], []) := by kernel_rfl

def bigI (xs : List Int) : Bool := decide (prodI xs > 65536)
theorem count_loop {xs : List Int} (hp : ∀ x ∈ xs, 1 ≤ x) (hl : xs.length ≤ 6) : ∀ (k i m : Nat), i + k = xs.length → k < m → prodI (xs.take i) ≤ 65536 →
    lp eC cf_count (cL (cL (cR (cL (cR (cR (cR (cR C_count)))))))) m (stC xs (prodI (xs.take i)) i) KC = some (.ret (bif bigI xs then [I 0, I 6] else [I (prodI xs), I 0]), []) := by
  intro k
  induction k with
  | zero =>
    intro i m hi hm hP
    obtain ⟨m, rfl⟩ : ∃ m', m = m' + 1 := ⟨m - 1, by omega⟩
    rw [count_step, decide_eq_false (show ¬ ((i : Int) < Int.ofNat xs.length) from by rw [show i = xs.length by omega]; exact Int.lt_irrefl _)]
    simp only [cond_false]
    rw [KC_exit]
    have e : xs.take i = xs := List.take_of_length_le (by omega)
    rw [e] at hP ⊢
    unfold bigI
    rw [decide_eq_false (by omega)]
    rfl
  | succ k ih =>
    intro i m hi hm hP
    obtain ⟨m, rfl⟩ : ∃ m', m = m' + 1 := ⟨m - 1, by omega⟩
    have hlt : i < xs.length := by omega
    have hx : xs[i]? = some xs[i] := List.getElem?_eq_getElem hlt
    have hidx : idx xs (i : Int) = some xs[i] := by unfold idx; rw [if_pos (by omega), Int.toNat_natCast, hx]
    have h1 := prodI_pos hp i
    have hx1 := hp xs[i] (List.getElem_mem hlt)
    have hq0 : 0 ≤ Int.tdiv 65536 (prodI (xs.take i)) := by
      rw [Int.tdiv_eq_ediv_of_nonneg (by omega)]; exact Int.ediv_nonneg (by omega) (by omega)
    have hq1 : Int.tdiv 65536 (prodI (xs.take i)) ≤ 65536 := by
      rw [Int.tdiv_eq_ediv_of_nonneg (by omega)]; exact Int.ediv_le_self _ (by omega)
    rw [count_step, decide_eq_true (show (i : Int) < Int.ofNat xs.length from Int.ofNat_lt.2 hlt), hidx, if_neg (by omega), wrap64 (by omega) (by omega)]
    simp only [cond_true, Option.bind_some]
    by_cases hb : prodI (xs.take i) * xs[i] > 65536
    · rw [decide_eq_true ((tdiv_lt h1).2 hb)]
      simp only [cond_true]
      rw [KC_ret]
      have hm2 := prodI_mono hp (i := i + 1) (xs.length - (i + 1))
      rw [prodI_succ hx, show i + 1 + (xs.length - (i + 1)) = xs.length by omega, List.take_length] at hm2
      unfold bigI
      rw [decide_eq_true (by omega)]
      rfl
    · rw [decide_eq_false (fun h => hb ((tdiv_lt h1).1 h))]
      simp only [cond_false]
      have hm0 : 0 ≤ prodI (xs.take i) * xs[i] := Int.mul_nonneg (by omega) (by omega)
      have := ih (i + 1) m (by omega) (by omega) (by rw [prodI_succ hx]; omega)
      rw [prodI_succ hx] at this
      unfold stC at this
      rw [wrap64 (n := prodI (xs.take i) * xs[i]) (by omega) (by omega), wrap64 (n := (i : Int) + 1) (by omega) (by omega)]
      exact this
def countE (xs : List Int) : Int := bif decide (idxP (fun d => decide (d < 1)) xs ≥ 0) then 4 else bif decide (Int.ofNat xs.length > 6) then 6 else bif bigI xs then 6 else 0
def countN (xs : List Int) : Int := bif decide (idxP (fun d => decide (d < 1)) xs ≥ 0) then 0 else bif decide (Int.ofNat xs.length > 6) then 0 else bif bigI xs then 0 else prodI xs
theorem count_run (xs : List Int) (hl : xs.length ≤ maxLen) : runC eC Tryz.f32 5 [(7, [4, 12, 13, 14])] [.d (.slice i64T) xs] [] ah = some (.ret [I (countN xs), I (countE xs)], []) := by
  rw [count_eq, decide_eq_true (show xs.length ≤ 9223372036854775807 from hl)]
  unfold countN countE
  cases h1 : decide (idxP (fun d => decide (d < 1)) xs ≥ 0) with
  | true => rfl
  | false =>
    cases h2 : decide (Int.ofNat xs.length > 6) with
    | true => rfl
    | false =>
      simp only [cond_true, cond_false]
      have hp : ∀ x ∈ xs, 1 ≤ x := fun x hx => by
        rw [idxP_ge, List.any_eq_false] at h1
        have := h1 x hx
        simp only [decide_eq_true_eq] at this
        omega
      have hl6 : xs.length ≤ 6 := by
        have := of_decide_eq_false h2
        have e : Int.ofNat xs.length = (xs.length : Int) := rfl
        omega
      have key := count_loop hp hl6 xs.length 0 fu (by omega) (by unfold fu; omega) (by simp [prodI])
      unfold stC KC at key
      simp only [List.take_zero] at key
      refine Eq.trans key ?_
      cases bigI xs <;> rfl
def countF : List AV → LHp → Tq
  | [.d (.slice (.int .i64)) xs], [] => .br (decide (xs.length ≤ maxLen)) (.leaf (.ret [I (countN xs), I (countE xs)]) []) .no
  | _, _ => .no
theorem countE_ok : FnE.OK e0.P e0.gam 32 (treeE countF) := by
  refine treeC_ok eC_good hmix Tryz.func32 Tryz.call32 (depth := 5) (live := [(7, [4, 12, 13, 14])]) (by decide +kernel) rfl fun args hs p h => ?_
  unfold countF at h
  split at h
  · obtain ⟨hl, h⟩ := Tq.br_no h
    cases h
    have hl := of_decide_eq_true hl
    exact count_run _ hl
  · cases h

/-! ### pb.Check -/
noncomputable def eD : Env := e0.add 60 (fnE chkF)
theorem eD_good : eD.Good := e0_good.add chkE_ok
theorem typed_eq (t : Int) : runC eD Tryz.f57 3 [] [I t] [] ah = some (AEnd.ret [B (numOk t 0)], []) := by kernel_rfl
def typedF : List AV → LHp → Option (AEnd × LHp)
  | [.d (.int .i64) t], [] => some (.ret [B (numOk t 0)], [])
  | _, _ => none
theorem typedE_ok : FnE.OK e0.P e0.gam 57 (fnE typedF) := by
  refine fnC_ok eD_good hmix Tryz.func57 Tryz.call57 (depth := 3) (live := []) (by decide +kernel) rfl fun args hs p h => ?_
  unfold typedF at h
  split at h
  · cases h
    exact typed_eq _
  · cases h
def hpT (t : Int) (dims data : List Int) : LHp := [(0, .box (.d (Y0) (t, dims, data, ())))]
theorem pbc1_eq (x t : Int) (dims data : List Int) : runC eD Tryz.f59 4 [] [I x, .op 0 [] 0] (hpT t dims data) ah = some (AEnd.ret [B !numOk t x], [(0, AObj.box (AV.d Y0 (t, dims, data, ())))]) := by kernel_rfl
def pbc1F : List AV → LHp → Option (AEnd × LHp)
  | [.d (.int .i64) x, .op 0 [] 0], [(0, .box (.d (.pair (.int .i64) (.pair (.slice (.int .i64)) (.pair (.slice (.int .i64)) .unit))) (t, dims, data, _)))] => some (.ret [B (!numOk t x)], hpT t dims data)
  | _, _ => none
theorem pbc1E_ok : FnE.OK e0.P e0.gam 59 (fnE pbc1F) := by
  refine fnC_ok eD_good hmix Tryz.func59 Tryz.call59 (depth := 4) (live := []) (by decide +kernel) rfl fun args hs p h => ?_
  unfold pbc1F at h
  split at h
  · cases h
    exact pbc1_eq _ _ _ _
  · cases h
noncomputable def eF : Env := e0.add 59 (fnE pbc1F)
theorem eF_good : eF.Good := e0_good.add pbc1E_ok
theorem idxl_eqH (hl : Hl) (xs : List Int) (t : Int) (dims data : List Int) : runH eF Tryz.f83 5 [(2, [0, 1, 7, 8])] [2] hl [.d (.slice i64T) xs, .fn (.func 59) [] [.op 0 [] 0]] (hpT t dims data) ah = hl (cL (cL (cR (cL (cR C_idxl))))) _ { fr := mkFr 5 [(0, AV.d (i64T).slice xs), (1, AV.fn (Fn.func 59) [] [AV.op 0 [] 0]), (7, I (Int.ofNat xs.length)), (8, I 0)], hp := [(0, AObj.box (AV.d Y0 (t, dims, data, ())))], nx := 2 } (blkK 0 (seqH eF cf_idxl [2] hl (cR (cR C_idxl)) (endC Tryz.prog 1 Tryz.f83.results.toList ah))) := by kernel_rfl
theorem idxl_eq (xs : List Int) (t : Int) (dims data : List Int) : runC eF Tryz.f83 5 [(2, [0, 1, 7, 8])] [.d (.slice i64T) xs, .fn (.func 59) [] [.op 0 [] 0]] (hpT t dims data) ah = (hlp eF cf_idxl) (cL (cL (cR (cL (cR C_idxl))))) _ { fr := mkFr 5 [(0, AV.d (i64T).slice xs), (1, AV.fn (Fn.func 59) [] [AV.op 0 [] 0]), (7, I (Int.ofNat xs.length)), (8, I 0)], hp := [(0, AObj.box (AV.d Y0 (t, dims, data, ())))], nx := 2 } (blkK 0 (seqH eF cf_idxl [2] (hlp eF cf_idxl) (cR (cR C_idxl)) (endC Tryz.prog 1 Tryz.f83.results.toList ah))) := runH_runC.trans (idxl_eqH (hlp eF cf_idxl) xs t dims data)
def stL (xs : List Int) (t : Int) (dims data : List Int) (i : Int) : LSt := ⟨mkFr 5 [(0, .d (.slice i64T) xs), (1, .fn (.func 59) [] [.op 0 [] 0]), (7, I (Int.ofNat xs.length)), (8, I i)], hpT t dims data, 2⟩
theorem idxl_stepH (hl : Hl) (xs : List Int) (t : Int) (dims data : List Int) (i : Int) (n : Nat) {R : Type} (k : AEx → LSt → Option R) : lpH eF cf_idxl [2] hl (cL (cL (cR (cL (cR C_idxl))))) (n + 1) (stL xs t dims data i) k = bif decide (i < Int.ofNat xs.length) then (idx xs i).bind fun v1 => bif !numOk t v1 then k AEx.ret { fr := mkFr 5 [(0, AV.d (i64T).slice xs), (1, AV.fn (Fn.func 59) [] [AV.op 0 [] 0]), (4, I i), (5, I i), (7, I (Int.ofNat xs.length)), (8, I i), (9, B true), (10, I i), (11, AV.fn (Fn.func 59) [] [AV.op 0 [] 0]), (12, AV.d (i64T).slice xs), (13, I i), (14, AV.ip (i64T) v1), (15, I v1), (16, B true), (17, I i)], hp := [(0, AObj.box (AV.d Y0 (t, dims, data, ()))), (0, AObj.box (AV.d Y0 (t, dims, data, ())))], nx := 3 } else lpH eF cf_idxl [2] hl (cL (cL (cR (cL (cR C_idxl))))) n { fr := mkFr 5 [(0, AV.d (i64T).slice xs), (1, AV.fn (Fn.func 59) [] [AV.op 0 [] 0]), (7, I (Int.ofNat xs.length)), (8, I (IntKind.i64.wrap (i + 1)))], hp := [(0, AObj.box (AV.d Y0 (t, dims, data, ())))], nx := 2 } k else k (AEx.exit 0) { fr := mkFr 5 [(0, AV.d (i64T).slice xs), (1, AV.fn (Fn.func 59) [] [AV.op 0 [] 0]), (7, I (Int.ofNat xs.length)), (8, I i), (9, B false)], hp := [(0, AObj.box (AV.d Y0 (t, dims, data, ())))], nx := 2 } := by kernel_rfl
theorem idxl_step (xs : List Int) (t : Int) (dims data : List Int) (i : Int) (n : Nat) {R : Type} (k : AEx → LSt → Option R) : lp eF cf_idxl (cL (cL (cR (cL (cR C_idxl))))) (n + 1) (stL xs t dims data i) k = bif decide (i < Int.ofNat xs.length) then (idx xs i).bind fun v1 => bif !numOk t v1 then k AEx.ret { fr := mkFr 5 [(0, AV.d (i64T).slice xs), (1, AV.fn (Fn.func 59) [] [AV.op 0 [] 0]), (4, I i), (5, I i), (7, I (Int.ofNat xs.length)), (8, I i), (9, B true), (10, I i), (11, AV.fn (Fn.func 59) [] [AV.op 0 [] 0]), (12, AV.d (i64T).slice xs), (13, I i), (14, AV.ip (i64T) v1), (15, I v1), (16, B true), (17, I i)], hp := [(0, AObj.box (AV.d Y0 (t, dims, data, ()))), (0, AObj.box (AV.d Y0 (t, dims, data, ())))], nx := 3 } else lp eF cf_idxl (cL (cL (cR (cL (cR C_idxl))))) n { fr := mkFr 5 [(0, AV.d (i64T).slice xs), (1, AV.fn (Fn.func 59) [] [AV.op 0 [] 0]), (7, I (Int.ofNat xs.length)), (8, I (IntKind.i64.wrap (i + 1)))], hp := [(0, AObj.box (AV.d Y0 (t, dims, data, ())))], nx := 2 } k else k (AEx.exit 0) { fr := mkFr 5 [(0, AV.d (i64T).slice xs), (1, AV.fn (Fn.func 59) [] [AV.op 0 [] 0]), (7, I (Int.ofNat xs.length)), (8, I i), (9, B false)], hp := [(0, AObj.box (AV.d Y0 (t, dims, data, ())))], nx := 2 } := by
  have h := idxl_stepH (hlp eF cf_idxl) xs t dims data i n k
  simp only [lpH_lp] at h
  exact h
theorem idxl_run (xs : List Int) (t : Int) (dims data : List Int) (hl : xs.length ≤ maxLen) : runC eF Tryz.f83 5 [(2, [0, 1, 7, 8])] [.d (.slice i64T) xs, .fn (.func 59) [] [.op 0 [] 0]] (hpT t dims data) ah = some (.ret [I (idxP (fun x => !numOk t x) xs)], hpT t dims data) := by
  rw [idxl_eq]
  have h := find_lp (T := fun n s => lp eF cf_idxl (cL (cL (cR (cL (cR C_idxl))))) n s (blkK 0 (seqH eF cf_idxl [2] (hlp eF cf_idxl) (cR (cR C_idxl)) (endC Tryz.prog 1 Tryz.f83.results.toList ah)))) (xs := xs) (st := fun i => stL xs t dims data i) hl (fun i n => idxl_step xs t dims data i n _)
  unfold stL hpT at h
  refine h.trans ?_
  unfold idxP
  cases hq : xs.findIdx? (fun x => !numOk t x) with
  | none => show _ = _; kernel_rfl
  | some i =>
    obtain ⟨hi, _⟩ := List.findIdx?_eq_some_iff_getElem.1 hq
    simp only [List.getElem?_eq_getElem hi, Option.bind_some]
    show _ = _
    kernel_rfl
def idxlF : List AV → LHp → Tq
  | [.d (.slice (.int .i64)) xs, .fn (.func 59) [] [.op 0 [] 0]], [(0, .box (.d (.pair (.int .i64) (.pair (.slice (.int .i64)) (.pair (.slice (.int .i64)) .unit))) (t, dims, data, _)))] => .br (decide (xs.length ≤ maxLen)) (.leaf (.ret [I (idxP (fun x => !numOk t x) xs)]) (hpT t dims data)) .no
  | _, _ => .no
theorem idxlE_ok : FnE.OK e0.P e0.gam 83 (treeE idxlF) := by
  refine treeC_ok eF_good hmix Tryz.func83 Tryz.call83 (depth := 5) (live := [(2, [0, 1, 7, 8])]) (by decide +kernel) rfl fun args hs p h => ?_
  unfold idxlF at h
  split at h
  · obtain ⟨hl, h⟩ := Tq.br_no h
    cases h
    have hl := of_decide_eq_true hl
    exact idxl_run _ _ _ _ hl
  · cases h
noncomputable def eG : Env := e0.add 83 (treeE idxlF)
theorem eG_good : eG.Good := e0_good.add idxlE_ok
theorem conl_eq (xs : List Int) (t : Int) (dims data : List Int) : runC eG Tryz.f58 4 [] [.d (.slice i64T) xs, .fn (.func 59) [] [.op 0 [] 0]] (hpT t dims data) ah = bif decide (xs.length ≤ 9223372036854775807) then some (AEnd.ret [B (decide (idxP (fun x => !numOk t x) xs ≥ 0))], [(0, AObj.box (AV.d Y0 (t, dims, data, ())))]) else none := by kernel_rfl
def conlF : List AV → LHp → Tq
  | [.d (.slice (.int .i64)) xs, .fn (.func 59) [] [.op 0 [] 0]], [(0, .box (.d (.pair (.int .i64) (.pair (.slice (.int .i64)) (.pair (.slice (.int .i64)) .unit))) (t, dims, data, _)))] => .br (decide (xs.length ≤ maxLen)) (.leaf (.ret [B (xs.any fun x => !numOk t x)]) (hpT t dims data)) .no
  | _, _ => .no
theorem conlE_ok : FnE.OK e0.P e0.gam 58 (treeE conlF) := by
  refine treeC_ok eG_good hmix Tryz.func58 Tryz.call58 (depth := 4) (live := []) (by decide +kernel) rfl fun args hs p h => ?_
  unfold conlF at h
  split at h
  · obtain ⟨hl, h⟩ := Tq.br_no h
    cases h
    have hl := of_decide_eq_true hl
    exact ((conl_eq _ _ _ _).trans (by rw [decide_eq_true (show _ ≤ 9223372036854775807 from hl), idxP_ge]; rfl))
  · cases h
noncomputable def eH : Env := ((e0.add 57 (fnE typedF)).add 32 (treeE countF)).add 58 (treeE conlF)
theorem eH_good : eH.Good := ((e0_good.add typedE_ok).add countE_ok).add conlE_ok
theorem pbc_eq (t : Int) (dims data : List Int) : runC eH Tryz.f29 5 [] [.d (Y0) (t, dims, data, ())] [] ah = bif !numOk t 0 then some (AEnd.ret [I 5], []) else  bif decide (dims.length ≤ 9223372036854775807) then  bif countE dims != 0 then some (AEnd.ret [I (countE dims)], []) else  bif Int.ofNat data.length != countN dims then some (AEnd.ret [I 4], []) else  bif decide (data.length ≤ 9223372036854775807) then  bif data.any fun x => !numOk t x then some (AEnd.ret [I 4], []) else some (AEnd.ret [I 0], []) else none else none := by kernel_rfl
/-- a tensor's error -/
def tenE (t : Int) (dims data : List Int) : Int := bif !numOk t 0 then 5 else bif countE dims != 0 then countE dims else bif Int.ofNat data.length != countN dims then 4 else bif data.any (fun x => !numOk t x) then 4 else 0
def pbcF : List AV → LHp → Tq
  | [.d (.pair (.int .i64) (.pair (.slice (.int .i64)) (.pair (.slice (.int .i64)) .unit))) (t, dims, data, _)], [] => .br (decide (dims.length ≤ maxLen ∧ data.length ≤ maxLen)) (.leaf (.ret [I (tenE t dims data)]) []) .no
  | _, _ => .no
theorem pbc_run (t : Int) (dims data : List Int) (h : dims.length ≤ maxLen ∧ data.length ≤ maxLen) : runC eH Tryz.f29 5 [] [.d (Y0) (t, dims, data, ())] [] ah = some (.ret [I (tenE t dims data)], []) := by
  rw [pbc_eq, decide_eq_true (show dims.length ≤ 9223372036854775807 from h.1), decide_eq_true (show data.length ≤ 9223372036854775807 from h.2)]
  unfold tenE
  cases !numOk t 0 <;> cases countE dims != 0 <;> cases Int.ofNat data.length != countN dims <;> cases data.any (fun x => !numOk t x) <;> rfl
theorem pbcE_ok : FnE.OK e0.P e0.gam 29 (treeE pbcF) := by
  refine treeC_ok eH_good hmix Tryz.func29 Tryz.call29 (depth := 5) (live := []) (by decide +kernel) rfl fun args hs p h => ?_
  unfold pbcF at h
  split at h
  · obtain ⟨hl, h⟩ := Tq.br_no h
    cases h
    have hl := of_decide_eq_true hl
    exact pbc_run _ _ _ hl
  · cases h
end Go.Proofs.XPT
namespace Go.Proofs.XPT
open Go.Vm Go
set_option maxRecDepth 100000
set_option maxHeartbeats 4000000
noncomputable def C_idxo : Code := codeOf Tryz.f99
noncomputable def cf_idxo : Cfg := ⟨19, 5, 1, [(2, [0, 1, 7, 8])], true⟩
noncomputable def C_cnto : Code := codeOf Tryz.f32
noncomputable def cf_cnto : Cfg := ⟨27, 5, 1, [(7, [4, 12, 13, 14])], true⟩
theorem idx2 {α R : Type} {xs : List α} {i : Int} {f : α → Option R} : ((idx xs i).bind fun _ => (xs[i.toNat]?).bind f) = (idx xs i).bind f := by
  unfold idx
  split
  · cases xs[i.toNat]? <;> rfl
  · rfl
def hpO (z : Bool) (xs : List Int) : LHp := [(0, .arr 3 i64T 0 z xs)]
theorem idxo_eqH (hl : Hl) (z : Bool) (xs : List Int) : runH eA Tryz.f99 5 [(2, [0, 1, 7, 8])] [2] hl [.os 0 0, .fn (.func 70) [] []] (hpO z xs) ah = hl (cL (cL (cR (cL (cR C_idxo))))) _ { fr := mkFr 5 [(0, AV.os 0 0), (1, AV.fn (Fn.func 70) [] []), (7, I (Int.ofNat xs.length)), (8, I 0)], hp := [(0, AObj.arr 3 (i64T) 0 z xs)], nx := 2 } (blkK 0 (seqH eA cf_idxo [2] hl (cR (cR C_idxo)) (endC Tryz.prog 1 Tryz.f99.results.toList ah))) := by kernel_rfl
theorem idxo_eq (z : Bool) (xs : List Int) : runC eA Tryz.f99 5 [(2, [0, 1, 7, 8])] [.os 0 0, .fn (.func 70) [] []] (hpO z xs) ah = (hlp eA cf_idxo) (cL (cL (cR (cL (cR C_idxo))))) _ { fr := mkFr 5 [(0, AV.os 0 0), (1, AV.fn (Fn.func 70) [] []), (7, I (Int.ofNat xs.length)), (8, I 0)], hp := [(0, AObj.arr 3 (i64T) 0 z xs)], nx := 2 } (blkK 0 (seqH eA cf_idxo [2] (hlp eA cf_idxo) (cR (cR C_idxo)) (endC Tryz.prog 1 Tryz.f99.results.toList ah))) := runH_runC.trans (idxo_eqH (hlp eA cf_idxo) z xs)
def stIo (z : Bool) (xs : List Int) (i : Int) : LSt := ⟨mkFr 5 [(0, .os 0 0), (1, .fn (.func 70) [] []), (7, I (Int.ofNat xs.length)), (8, I i)], hpO z xs, 2⟩
theorem idxo_stepH (hl : Hl) (z : Bool) (xs : List Int) (i : Int) (n : Nat) {R : Type} (k : AEx → LSt → Option R) : lpH eA cf_idxo [2] hl (cL (cL (cR (cL (cR C_idxo))))) (n + 1) (stIo z xs i) k = bif decide (i < Int.ofNat xs.length) then (idx xs i).bind fun v1 => (xs[i.toNat]?).bind fun v2 => bif decide (v2 < 1) then k AEx.ret { fr := mkFr 5 [(0, AV.os 0 0), (1, AV.fn (Fn.func 70) [] []), (4, I i), (5, I i), (7, I (Int.ofNat xs.length)), (8, I i), (9, B true), (10, I i), (11, AV.fn (Fn.func 70) [] []), (12, AV.os 0 0), (13, I i), (14, AV.oe 0 0 i.toNat), (15, I v2), (16, B true), (17, I i)], hp := [(0, AObj.arr 3 (i64T) 0 z xs)], nx := 2 } else lpH eA cf_idxo [2] hl (cL (cL (cR (cL (cR C_idxo))))) n { fr := mkFr 5 [(0, AV.os 0 0), (1, AV.fn (Fn.func 70) [] []), (7, I (Int.ofNat xs.length)), (8, I (IntKind.i64.wrap (i + 1)))], hp := [(0, AObj.arr 3 (i64T) 0 z xs)], nx := 2 } k else k (AEx.exit 0) { fr := mkFr 5 [(0, AV.os 0 0), (1, AV.fn (Fn.func 70) [] []), (7, I (Int.ofNat xs.length)), (8, I i), (9, B false)], hp := [(0, AObj.arr 3 (i64T) 0 z xs)], nx := 2 } := by kernel_rfl
theorem idxo_step (z : Bool) (xs : List Int) (i : Int) (n : Nat) {R : Type} (k : AEx → LSt → Option R) : lp eA cf_idxo (cL (cL (cR (cL (cR C_idxo))))) (n + 1) (stIo z xs i) k = bif decide (i < Int.ofNat xs.length) then (idx xs i).bind fun v1 => (xs[i.toNat]?).bind fun v2 => bif decide (v2 < 1) then k AEx.ret { fr := mkFr 5 [(0, AV.os 0 0), (1, AV.fn (Fn.func 70) [] []), (4, I i), (5, I i), (7, I (Int.ofNat xs.length)), (8, I i), (9, B true), (10, I i), (11, AV.fn (Fn.func 70) [] []), (12, AV.os 0 0), (13, I i), (14, AV.oe 0 0 i.toNat), (15, I v2), (16, B true), (17, I i)], hp := [(0, AObj.arr 3 (i64T) 0 z xs)], nx := 2 } else lp eA cf_idxo (cL (cL (cR (cL (cR C_idxo))))) n { fr := mkFr 5 [(0, AV.os 0 0), (1, AV.fn (Fn.func 70) [] []), (7, I (Int.ofNat xs.length)), (8, I (IntKind.i64.wrap (i + 1)))], hp := [(0, AObj.arr 3 (i64T) 0 z xs)], nx := 2 } k else k (AEx.exit 0) { fr := mkFr 5 [(0, AV.os 0 0), (1, AV.fn (Fn.func 70) [] []), (7, I (Int.ofNat xs.length)), (8, I i), (9, B false)], hp := [(0, AObj.arr 3 (i64T) 0 z xs)], nx := 2 } := by
  have h := idxo_stepH (hlp eA cf_idxo) z xs i n k
  simp only [lpH_lp] at h
  exact h
theorem idxo_run (z : Bool) (xs : List Int) (hl : xs.length ≤ maxLen) : runC eA Tryz.f99 5 [(2, [0, 1, 7, 8])] [.os 0 0, .fn (.func 70) [] []] (hpO z xs) ah = some (.ret [I (idxP (fun d => decide (d < 1)) xs)], hpO z xs) := by
  rw [idxo_eq]
  have hs := fun (i : Int) (n : Nat) => idxo_step z xs i n (blkK 0 (seqH eA cf_idxo [2] (hlp eA cf_idxo) (cR (cR C_idxo)) (endC Tryz.prog 1 Tryz.f99.results.toList ah)))
  simp only [idx2] at hs
  have h := find_lp (T := fun n s => lp eA cf_idxo (cL (cL (cR (cL (cR C_idxo))))) n s (blkK 0 (seqH eA cf_idxo [2] (hlp eA cf_idxo) (cR (cR C_idxo)) (endC Tryz.prog 1 Tryz.f99.results.toList ah)))) (xs := xs) (st := fun i => stIo z xs i) hl hs
  unfold stIo hpO at h
  refine h.trans ?_
  unfold idxP
  cases hq : xs.findIdx? (fun d => decide (d < 1)) with
  | none => show _ = _; kernel_rfl
  | some i =>
    obtain ⟨hi, _⟩ := List.findIdx?_eq_some_iff_getElem.1 hq
    simp only [List.getElem?_eq_getElem hi, Option.bind_some]
    show _ = _
    kernel_rfl
def idxoF : List AV → LHp → Tq
  | [.os 0 0, .fn (.func 70) [] []], [(0, .arr 3 (.int .i64) 0 z xs)] => .br (decide (xs.length ≤ maxLen)) (.leaf (.ret [I (idxP (fun d => decide (d < 1)) xs)]) (hpO z xs)) .no
  | _, _ => .no
theorem idxoE_ok : FnE.OK e0.P e0.gam 99 (treeE idxoF) := by
  refine treeC_ok eA_good hmix Tryz.func99 Tryz.call99 (depth := 5) (live := [(2, [0, 1, 7, 8])]) (by decide +kernel) rfl fun args hs p h => ?_
  unfold idxoF at h
  split at h
  · obtain ⟨hl, h⟩ := Tq.br_no h
    cases h
    have hl := of_decide_eq_true hl
    exact idxo_run _ _ hl
  · cases h
noncomputable def eBo : Env := e0.add 99 (treeE idxoF)
theorem eBo_good : eBo.Good := e0_good.add idxoE_ok
theorem cono_eq (z : Bool) (xs : List Int) : runC eBo Tryz.f69 4 [] [.os 0 0, .fn (.func 70) [] []] (hpO z xs) ah = bif decide (xs.length ≤ 9223372036854775807) then some (AEnd.ret [B (decide (idxP (fun d => decide (d < 1)) xs ≥ 0))], [(0, AObj.arr 3 (i64T) 0 z xs)]) else none := by kernel_rfl
def conoF : List AV → LHp → Tq
  | [.os 0 0, .fn (.func 70) [] []], [(0, .arr 3 (.int .i64) 0 z xs)] => .br (decide (xs.length ≤ maxLen)) (.leaf (.ret [B (decide (idxP (fun d => decide (d < 1)) xs ≥ 0))]) (hpO z xs)) .no
  | _, _ => .no
theorem conoE_ok : FnE.OK e0.P e0.gam 69 (treeE conoF) := by
  refine treeC_ok eBo_good hmix Tryz.func69 Tryz.call69 (depth := 4) (live := []) (by decide +kernel) rfl fun args hs p h => ?_
  unfold conoF at h
  split at h
  · obtain ⟨hl, h⟩ := Tq.br_no h
    cases h
    have hl := of_decide_eq_true hl
    exact ((cono_eq _ _).trans (by rw [decide_eq_true (show _ ≤ 9223372036854775807 from hl)]; rfl))
  · cases h
noncomputable def eCo : Env := e0.add 69 (treeE conoF)
theorem eCo_good : eCo.Good := e0_good.add conoE_ok
theorem cnto_eqH (hl : Hl) (z : Bool) (xs : List Int) : runH eCo Tryz.f32 5 [(7, [4, 12, 13, 14])] [7] hl [.os 0 0] (hpO z xs) ah = bif decide (xs.length ≤ 9223372036854775807) then  bif decide (idxP (fun d => decide (d < 1)) xs ≥ 0) then some (AEnd.ret [I 0, I 4], [(0, AObj.arr 3 (i64T) 0 z xs)]) else  bif decide (Int.ofNat xs.length > 6) then some (AEnd.ret [I 0, I 6], [(0, AObj.arr 3 (i64T) 0 z xs)]) else hl (cL (cL (cR (cL (cR (cR (cR (cR C_cnto)))))))) _ { fr := mkFr 5 [(4, I 1), (12, AV.os 0 0), (13, I (Int.ofNat xs.length)), (14, I 0)], hp := [(0, AObj.arr 3 (i64T) 0 z xs)], nx := 2 } (blkK 0 (seqH eCo cf_cnto [7] hl (cR (cR (cR (cR (cR C_cnto))))) (endC Tryz.prog 1 Tryz.f32.results.toList ah))) else none := by kernel_rfl
theorem cnto_eq (z : Bool) (xs : List Int) : runC eCo Tryz.f32 5 [(7, [4, 12, 13, 14])] [.os 0 0] (hpO z xs) ah = bif decide (xs.length ≤ 9223372036854775807) then  bif decide (idxP (fun d => decide (d < 1)) xs ≥ 0) then some (AEnd.ret [I 0, I 4], [(0, AObj.arr 3 (i64T) 0 z xs)]) else  bif decide (Int.ofNat xs.length > 6) then some (AEnd.ret [I 0, I 6], [(0, AObj.arr 3 (i64T) 0 z xs)]) else (hlp eCo cf_cnto) (cL (cL (cR (cL (cR (cR (cR (cR C_cnto)))))))) _ { fr := mkFr 5 [(4, I 1), (12, AV.os 0 0), (13, I (Int.ofNat xs.length)), (14, I 0)], hp := [(0, AObj.arr 3 (i64T) 0 z xs)], nx := 2 } (blkK 0 (seqH eCo cf_cnto [7] (hlp eCo cf_cnto) (cR (cR (cR (cR (cR C_cnto))))) (endC Tryz.prog 1 Tryz.f32.results.toList ah))) else none := runH_runC.trans (cnto_eqH (hlp eCo cf_cnto) z xs)
def stCo (z : Bool) (xs : List Int) (n i : Int) : LSt := ⟨mkFr 5 [(4, I n), (12, .os 0 0), (13, I (Int.ofNat xs.length)), (14, I i)], hpO z xs, 2⟩
theorem cnto_stepH (hl : Hl) (z : Bool) (xs : List Int) (v i : Int) (n : Nat) {R : Type} (k : AEx → LSt → Option R) : lpH eCo cf_cnto [7] hl (cL (cL (cR (cL (cR (cR (cR (cR C_cnto)))))))) (n + 1) (stCo z xs v i) k = bif decide (i < Int.ofNat xs.length) then (idx xs i).bind fun v1 => (xs[i.toNat]?).bind fun v2 => (if v = 0 then none else some (IntKind.i64.wrap (Int.tdiv 65536 v))).bind fun v3 => bif decide (v2 > v3) then k AEx.ret { fr := mkFr 5 [(2, I 0), (3, I 6), (4, I v), (6, I v2), (12, AV.os 0 0), (13, I (Int.ofNat xs.length)), (14, I i), (15, B true), (16, AV.oe 0 0 i.toNat), (17, I v2), (18, I v2), (19, I v), (20, I v3), (21, B true)], hp := [(0, AObj.arr 3 (i64T) 0 z xs)], nx := 2 } else lpH eCo cf_cnto [7] hl (cL (cL (cR (cL (cR (cR (cR (cR C_cnto)))))))) n { fr := mkFr 5 [(4, I (IntKind.i64.wrap (v * v2))), (12, AV.os 0 0), (13, I (Int.ofNat xs.length)), (14, I (IntKind.i64.wrap (i + 1)))], hp := [(0, AObj.arr 3 (i64T) 0 z xs)], nx := 2 } k else k (AEx.exit 0) { fr := mkFr 5 [(4, I v), (12, AV.os 0 0), (13, I (Int.ofNat xs.length)), (14, I i), (15, B false)], hp := [(0, AObj.arr 3 (i64T) 0 z xs)], nx := 2 } := by kernel_rfl
theorem cnto_step (z : Bool) (xs : List Int) (v i : Int) (n : Nat) {R : Type} (k : AEx → LSt → Option R) : lp eCo cf_cnto (cL (cL (cR (cL (cR (cR (cR (cR C_cnto)))))))) (n + 1) (stCo z xs v i) k = bif decide (i < Int.ofNat xs.length) then (idx xs i).bind fun v1 => (xs[i.toNat]?).bind fun v2 => (if v = 0 then none else some (IntKind.i64.wrap (Int.tdiv 65536 v))).bind fun v3 => bif decide (v2 > v3) then k AEx.ret { fr := mkFr 5 [(2, I 0), (3, I 6), (4, I v), (6, I v2), (12, AV.os 0 0), (13, I (Int.ofNat xs.length)), (14, I i), (15, B true), (16, AV.oe 0 0 i.toNat), (17, I v2), (18, I v2), (19, I v), (20, I v3), (21, B true)], hp := [(0, AObj.arr 3 (i64T) 0 z xs)], nx := 2 } else lp eCo cf_cnto (cL (cL (cR (cL (cR (cR (cR (cR C_cnto)))))))) n { fr := mkFr 5 [(4, I (IntKind.i64.wrap (v * v2))), (12, AV.os 0 0), (13, I (Int.ofNat xs.length)), (14, I (IntKind.i64.wrap (i + 1)))], hp := [(0, AObj.arr 3 (i64T) 0 z xs)], nx := 2 } k else k (AEx.exit 0) { fr := mkFr 5 [(4, I v), (12, AV.os 0 0), (13, I (Int.ofNat xs.length)), (14, I i), (15, B false)], hp := [(0, AObj.arr 3 (i64T) 0 z xs)], nx := 2 } := by
  have h := cnto_stepH (hlp eCo cf_cnto) z xs v i n k
  simp only [lpH_lp] at h
  exact h
noncomputable def KCo : AEx → LSt → Option (AEnd × LHp) := (blkK 0 (seqH eCo cf_cnto [7] (hlp eCo cf_cnto) (cR (cR (cR (cR (cR C_cnto))))) (endC Tryz.prog 1 Tryz.f32.results.toList ah)))
theorem KCo_ret (z : Bool) (xs : List Int) (n i x v : Int) (j : Nat) : KCo AEx.ret { fr := mkFr 5 [(2, I 0), (3, I 6), (4, I n), (6, I x), (12, AV.os 0 0), (13, I (Int.ofNat xs.length)), (14, I i), (15, B true), (16, AV.oe 0 0 j), (17, I x), (18, I x), (19, I n), (20, I v), (21, B true)], hp := hpO z xs, nx := 2 } = some (.ret [I 0, I 6], hpO z xs) := by kernel_rfl
theorem KCo_exit (z : Bool) (xs : List Int) (n i : Int) : KCo (AEx.exit 0) { fr := mkFr 5 [(4, I n), (12, AV.os 0 0), (13, I (Int.ofNat xs.length)), (14, I i), (15, B false)], hp := hpO z xs, nx := 2 } = some (.ret [I n, I 0], hpO z xs) := by kernel_rfl
theorem cnto_loop {z : Bool} {xs : List Int} (hp : ∀ x ∈ xs, 1 ≤ x) (hl : xs.length ≤ 6) : ∀ (k i m : Nat), i + k = xs.length → k < m → prodI (xs.take i) ≤ 65536 →
    lp eCo cf_cnto (cL (cL (cR (cL (cR (cR (cR (cR C_cnto)))))))) m (stCo z xs (prodI (xs.take i)) i) KCo = some (.ret (bif bigI xs then [I 0, I 6] else [I (prodI xs), I 0]), hpO z xs) := by
  intro k
  induction k with
  | zero =>
    intro i m hi hm hP
    obtain ⟨m, rfl⟩ : ∃ m', m = m' + 1 := ⟨m - 1, by omega⟩
    rw [cnto_step, decide_eq_false (show ¬ ((i : Int) < Int.ofNat xs.length) from by rw [show i = xs.length by omega]; exact Int.lt_irrefl _)]
    simp only [cond_false]
    have e : xs.take i = xs := List.take_of_length_le (by omega)
    rw [e] at hP ⊢
    refine (KCo_exit z xs _ _).trans ?_
    unfold bigI
    rw [decide_eq_false (by omega)]
    rfl
  | succ k ih =>
    intro i m hi hm hP
    obtain ⟨m, rfl⟩ : ∃ m', m = m' + 1 := ⟨m - 1, by omega⟩
    have hlt : i < xs.length := by omega
    have hx : xs[i]? = some xs[i] := List.getElem?_eq_getElem hlt
    have hidx : idx xs (i : Int) = some xs[i] := by unfold idx; rw [if_pos (by omega), Int.toNat_natCast, hx]
    have h1 := prodI_pos hp i
    have hx1 := hp xs[i] (List.getElem_mem hlt)
    have hq0 : 0 ≤ Int.tdiv 65536 (prodI (xs.take i)) := by
      rw [Int.tdiv_eq_ediv_of_nonneg (by omega)]; exact Int.ediv_nonneg (by omega) (by omega)
    have hq1 : Int.tdiv 65536 (prodI (xs.take i)) ≤ 65536 := by
      rw [Int.tdiv_eq_ediv_of_nonneg (by omega)]; exact Int.ediv_le_self _ (by omega)
    rw [cnto_step, decide_eq_true (show (i : Int) < Int.ofNat xs.length from Int.ofNat_lt.2 hlt), hidx, Int.toNat_natCast, hx]
    simp only [cond_true, Option.bind_some]
    rw [if_neg (by omega), wrap64 (by omega) (by omega)]
    simp only [Option.bind_some]
    by_cases hb : prodI (xs.take i) * xs[i] > 65536
    · rw [decide_eq_true ((tdiv_lt h1).2 hb)]
      simp only [cond_true]
      refine (KCo_ret z xs _ _ _ _ _).trans ?_
      have hm2 := prodI_mono hp (i := i + 1) (xs.length - (i + 1))
      rw [prodI_succ hx, show i + 1 + (xs.length - (i + 1)) = xs.length by omega, List.take_length] at hm2
      unfold bigI
      rw [decide_eq_true (by omega)]
      rfl
    · rw [decide_eq_false (fun h => hb ((tdiv_lt h1).1 h))]
      simp only [cond_false]
      have hm0 : 0 ≤ prodI (xs.take i) * xs[i] := Int.mul_nonneg (by omega) (by omega)
      have := ih (i + 1) m (by omega) (by omega) (by rw [prodI_succ hx]; omega)
      rw [prodI_succ hx] at this
      unfold stCo at this
      rw [wrap64 (n := prodI (xs.take i) * xs[i]) (by omega) (by omega), wrap64 (n := (i : Int) + 1) (by omega) (by omega)]
      exact this
theorem cnto_run (z : Bool) (xs : List Int) (hl : xs.length ≤ maxLen) : runC eCo Tryz.f32 5 [(7, [4, 12, 13, 14])] [.os 0 0] (hpO z xs) ah = some (.ret [I (countN xs), I (countE xs)], hpO z xs) := by
  rw [cnto_eq, decide_eq_true (show xs.length ≤ 9223372036854775807 from hl)]
  unfold countN countE
  cases h1 : decide (idxP (fun d => decide (d < 1)) xs ≥ 0) with
  | true => rfl
  | false =>
    cases h2 : decide (Int.ofNat xs.length > 6) with
    | true => rfl
    | false =>
      simp only [cond_true, cond_false]
      have hp : ∀ x ∈ xs, 1 ≤ x := fun x hx => by
        rw [idxP_ge, List.any_eq_false] at h1
        have := h1 x hx
        simp only [decide_eq_true_eq] at this
        omega
      have hl6 : xs.length ≤ 6 := by
        have := of_decide_eq_false h2
        have e : Int.ofNat xs.length = (xs.length : Int) := rfl
        omega
      have key := cnto_loop (z := z) hp hl6 xs.length 0 fu (by omega) (by unfold fu; omega) (by simp [prodI])
      unfold stCo KCo at key
      simp only [List.take_zero] at key
      refine Eq.trans key ?_
      cases bigI xs <;> rfl
def cntoF : List AV → LHp → Tq
  | [.os 0 0], [(0, .arr 3 (.int .i64) 0 z xs)] => .br (decide (xs.length ≤ maxLen)) (.leaf (.ret [I (countN xs), I (countE xs)]) (hpO z xs)) .no
  | _, _ => .no
theorem cntoE_ok : FnE.OK e0.P e0.gam 32 (treeE cntoF) := by
  refine treeC_ok eCo_good hmix Tryz.func32 Tryz.call32 (depth := 5) (live := [(7, [4, 12, 13, 14])]) (by decide +kernel) rfl fun args hs p h => ?_
  unfold cntoF at h
  split at h
  · obtain ⟨hl, h⟩ := Tq.br_no h
    cases h
    have hl := of_decide_eq_true hl
    exact cnto_run _ _ hl
  · cases h
theorem cnte_eq  : runC e9 Tryz.f32 5 [(7, [4, 12, 13, 14])] [.emp] [] ah = some (AEnd.ret [I 1, I 0], []) := by kernel_rfl
def cnteF : List AV → LHp → Tq
  | [.emp], [] => .leaf (.ret [I 1, I 0]) []
  | _, _ => .no
theorem cnteE_ok : FnE.OK e0.P e0.gam 32 (treeE cnteF) := by
  have h1 : FnE.OK e0.P e0.gam 32 (execFnC e9 Tryz.f32 5 [(7, [4, 12, 13, 14])]) := x32_ok
  refine ⟨fun _ _ _ => Tq.eq _ _, fun args hs ae hs' h => ?_⟩
  have h' : (cnteF args hs).run ah = some (ae, hs') := h
  clear h
  unfold cnteF at h'
  split at h'
  · cases h'
    exact h1.okC cnte_eq
  · cases h'
/-- shape.Count, of whatever list -/
def countG (a : List AV) (h : LHp) : Tq := orT (countF a h) (orT (cntoF a h) (cnteF a h))
theorem countG_ok : FnE.OK e0.P e0.gam 32 (treeE countG) := treeE_or countE_ok (treeE_or cntoE_ok cnteE_ok)
end Go.Proofs.XPT
namespace Go.Proofs.XPT
open Go.Vm Go
set_option maxRecDepth 100000
set_option maxHeartbeats 4000000

noncomputable def C_idxa : Code := codeOf Tryz.f24
noncomputable def cf_idxa : Cfg := ⟨19, 5, 3, [(2, [0, 1, 7, 8])], true⟩
def okA (name : List UInt8) (kind : Int) (a : (Y1).den) : Bool := a.1 == name && a.2.1 == kind
def hpA (z : Bool) (ats : List (Y1).den) (kind : Int) (name : List UInt8) : LHp := [(0, .box (I kind)), (1, .box (.d .str name)), (2, .arr 38 (Y1) 0 z ats)]
theorem nmd1_eq (a : (Y1).den) (kind : Int) (name : List UInt8) : runC e17 Tryz.f103 4 [] [.d (Y1) a, .op 1 [] 0, .op 0 [] 0] [(0, .box (I kind)), (1, .box (.d .str name))] ah = bif a.1 == name then some (AEnd.ret [B (a.2.1 == kind)], [(0, AObj.box (I kind)), (1, AObj.box (AV.d Ty.str name))]) else some (AEnd.ret [B false], [(0, AObj.box (I kind)), (1, AObj.box (AV.d Ty.str name))]) := by kernel_rfl
def nmd1F : List AV → LHp → Option (AEnd × LHp)
  | [.d ((.pair .str (.pair (.int .i64) (.pair (.int .i64) (.pair (.int .i64) (.pair .str (.pair (.pair (.int .i64) (.pair (.slice (.int .i64)) (.pair (.slice (.int .i64)) .unit))) (.pair (.slice (.int .i64)) .unit)))))))) a, .op 1 [] 0, .op 0 [] 0], [(0, .box (.d (.int .i64) kind)), (1, .box (.d .str name))] => some (.ret [B (okA name kind a)], [(0, .box (I kind)), (1, .box (.d .str name))])
  | _, _ => none
theorem nmd1_run (a : (Y1).den) (kind : Int) (name : List UInt8) : runC e17 Tryz.f103 4 [] [.d (Y1) a, .op 1 [] 0, .op 0 [] 0] [(0, .box (I kind)), (1, .box (.d .str name))] ah = some (.ret [B (okA name kind a)], [(0, .box (I kind)), (1, .box (.d .str name))]) := by
  rw [nmd1_eq]
  unfold okA
  cases a.1 == name <;> rfl
theorem nmd1E_ok : FnE.OK e0.P e0.gam 103 (fnE nmd1F) := by
  refine fnC_ok e17_good hmix Tryz.func103 Tryz.call103 (depth := 4) (live := []) (by decide +kernel) rfl fun args hs p h => ?_
  unfold nmd1F at h
  split at h
  · cases h
    exact nmd1_run _ _ _
  · cases h
noncomputable def eJ : Env := e0.add 103 (fnE nmd1F)
theorem eJ_good : eJ.Good := e0_good.add nmd1E_ok
theorem idxa_eqH (hl : Hl) (z : Bool) (ats : List (Y1).den) (kind : Int) (name : List UInt8) : runH eJ Tryz.f24 5 [(2, [0, 1, 7, 8])] [2] hl [.os 2 0, .fn (.func 103) [] [.op 1 [] 0, .op 0 [] 0]] (hpA z ats kind name) ah = hl (cL (cL (cR (cL (cR C_idxa))))) _ { fr := mkFr 5 [(0, AV.os 2 0), (1, AV.fn (Fn.func 103) [] [AV.op 1 [] 0, AV.op 0 [] 0]), (7, I (Int.ofNat ats.length)), (8, I 0)], hp := [(0, AObj.box (I kind)), (1, AObj.box (AV.d Ty.str name)), (2, AObj.arr 38 (Ty.str.pair ((i64T).pair ((i64T).pair ((i64T).pair (Ty.str.pair (Y0.pair ((i64T).slice.pair Ty.unit))))))) 0 z ats)], nx := 6 } (blkK 0 (seqH eJ cf_idxa [2] hl (cR (cR C_idxa)) (endC Tryz.prog 3 Tryz.f24.results.toList ah))) := by kernel_rfl
theorem idxa_eq (z : Bool) (ats : List (Y1).den) (kind : Int) (name : List UInt8) : runC eJ Tryz.f24 5 [(2, [0, 1, 7, 8])] [.os 2 0, .fn (.func 103) [] [.op 1 [] 0, .op 0 [] 0]] (hpA z ats kind name) ah = (hlp eJ cf_idxa) (cL (cL (cR (cL (cR C_idxa))))) _ { fr := mkFr 5 [(0, AV.os 2 0), (1, AV.fn (Fn.func 103) [] [AV.op 1 [] 0, AV.op 0 [] 0]), (7, I (Int.ofNat ats.length)), (8, I 0)], hp := [(0, AObj.box (I kind)), (1, AObj.box (AV.d Ty.str name)), (2, AObj.arr 38 (Ty.str.pair ((i64T).pair ((i64T).pair ((i64T).pair (Ty.str.pair (Y0.pair ((i64T).slice.pair Ty.unit))))))) 0 z ats)], nx := 6 } (blkK 0 (seqH eJ cf_idxa [2] (hlp eJ cf_idxa) (cR (cR C_idxa)) (endC Tryz.prog 3 Tryz.f24.results.toList ah))) := runH_runC.trans (idxa_eqH (hlp eJ cf_idxa) z ats kind name)
def stA (z : Bool) (ats : List (Y1).den) (kind : Int) (name : List UInt8) (i : Int) : LSt := ⟨mkFr 5 [(0, .os 2 0), (1, .fn (.func 103) [] [.op 1 [] 0, .op 0 [] 0]), (7, I (Int.ofNat ats.length)), (8, I i)], hpA z ats kind name, 6⟩
theorem idxa_stepH (hl : Hl) (z : Bool) (ats : List (Y1).den) (kind : Int) (name : List UInt8) (i : Int) (n : Nat) {R : Type} (k : AEx → LSt → Option R) : lpH eJ cf_idxa [2] hl (cL (cL (cR (cL (cR C_idxa))))) (n + 1) (stA z ats kind name i) k = bif decide (i < Int.ofNat ats.length) then (idx ats i).bind fun v1 => (ats[i.toNat]?).bind fun v2 => bif okA name kind v2 then k AEx.ret { fr := mkFr 5 [(0, AV.os 2 0), (1, AV.fn (Fn.func 103) [] [AV.op 1 [] 0, AV.op 0 [] 0]), (4, I i), (5, I i), (7, I (Int.ofNat ats.length)), (8, I i), (9, B true), (10, I i), (11, AV.fn (Fn.func 103) [] [AV.op 1 [] 0, AV.op 0 [] 0]), (12, AV.os 2 0), (13, I i), (14, AV.oe 2 0 i.toNat), (15, AV.d (Ty.str.pair ((i64T).pair ((i64T).pair ((i64T).pair (Ty.str.pair (Y0.pair ((i64T).slice.pair Ty.unit))))))) v2), (16, B true), (17, I i)], hp := [(0, AObj.box (I kind)), (1, AObj.box (AV.d Ty.str name)), (0, AObj.box (I kind)), (1, AObj.box (AV.d Ty.str name)), (2, AObj.arr 38 (Ty.str.pair ((i64T).pair ((i64T).pair ((i64T).pair (Ty.str.pair (Y0.pair ((i64T).slice.pair Ty.unit))))))) 0 z ats)], nx := 8 } else lpH eJ cf_idxa [2] hl (cL (cL (cR (cL (cR C_idxa))))) n { fr := mkFr 5 [(0, AV.os 2 0), (1, AV.fn (Fn.func 103) [] [AV.op 1 [] 0, AV.op 0 [] 0]), (7, I (Int.ofNat ats.length)), (8, I (IntKind.i64.wrap (i + 1)))], hp := [(0, AObj.box (I kind)), (1, AObj.box (AV.d Ty.str name)), (2, AObj.arr 38 (Ty.str.pair ((i64T).pair ((i64T).pair ((i64T).pair (Ty.str.pair (Y0.pair ((i64T).slice.pair Ty.unit))))))) 0 z ats)], nx := 6 } k else k (AEx.exit 0) { fr := mkFr 5 [(0, AV.os 2 0), (1, AV.fn (Fn.func 103) [] [AV.op 1 [] 0, AV.op 0 [] 0]), (7, I (Int.ofNat ats.length)), (8, I i), (9, B false)], hp := [(0, AObj.box (I kind)), (1, AObj.box (AV.d Ty.str name)), (2, AObj.arr 38 (Ty.str.pair ((i64T).pair ((i64T).pair ((i64T).pair (Ty.str.pair (Y0.pair ((i64T).slice.pair Ty.unit))))))) 0 z ats)], nx := 6 } := by kernel_rfl
theorem idxa_step (z : Bool) (ats : List (Y1).den) (kind : Int) (name : List UInt8) (i : Int) (n : Nat) {R : Type} (k : AEx → LSt → Option R) : lp eJ cf_idxa (cL (cL (cR (cL (cR C_idxa))))) (n + 1) (stA z ats kind name i) k = bif decide (i < Int.ofNat ats.length) then (idx ats i).bind fun v1 => (ats[i.toNat]?).bind fun v2 => bif okA name kind v2 then k AEx.ret { fr := mkFr 5 [(0, AV.os 2 0), (1, AV.fn (Fn.func 103) [] [AV.op 1 [] 0, AV.op 0 [] 0]), (4, I i), (5, I i), (7, I (Int.ofNat ats.length)), (8, I i), (9, B true), (10, I i), (11, AV.fn (Fn.func 103) [] [AV.op 1 [] 0, AV.op 0 [] 0]), (12, AV.os 2 0), (13, I i), (14, AV.oe 2 0 i.toNat), (15, AV.d (Ty.str.pair ((i64T).pair ((i64T).pair ((i64T).pair (Ty.str.pair (Y0.pair ((i64T).slice.pair Ty.unit))))))) v2), (16, B true), (17, I i)], hp := [(0, AObj.box (I kind)), (1, AObj.box (AV.d Ty.str name)), (0, AObj.box (I kind)), (1, AObj.box (AV.d Ty.str name)), (2, AObj.arr 38 (Ty.str.pair ((i64T).pair ((i64T).pair ((i64T).pair (Ty.str.pair (Y0.pair ((i64T).slice.pair Ty.unit))))))) 0 z ats)], nx := 8 } else lp eJ cf_idxa (cL (cL (cR (cL (cR C_idxa))))) n { fr := mkFr 5 [(0, AV.os 2 0), (1, AV.fn (Fn.func 103) [] [AV.op 1 [] 0, AV.op 0 [] 0]), (7, I (Int.ofNat ats.length)), (8, I (IntKind.i64.wrap (i + 1)))], hp := [(0, AObj.box (I kind)), (1, AObj.box (AV.d Ty.str name)), (2, AObj.arr 38 (Ty.str.pair ((i64T).pair ((i64T).pair ((i64T).pair (Ty.str.pair (Y0.pair ((i64T).slice.pair Ty.unit))))))) 0 z ats)], nx := 6 } k else k (AEx.exit 0) { fr := mkFr 5 [(0, AV.os 2 0), (1, AV.fn (Fn.func 103) [] [AV.op 1 [] 0, AV.op 0 [] 0]), (7, I (Int.ofNat ats.length)), (8, I i), (9, B false)], hp := [(0, AObj.box (I kind)), (1, AObj.box (AV.d Ty.str name)), (2, AObj.arr 38 (Ty.str.pair ((i64T).pair ((i64T).pair ((i64T).pair (Ty.str.pair (Y0.pair ((i64T).slice.pair Ty.unit))))))) 0 z ats)], nx := 6 } := by
  have h := idxa_stepH (hlp eJ cf_idxa) z ats kind name i n k
  simp only [lpH_lp] at h
  exact h
theorem idxa_run (z : Bool) (ats : List (Y1).den) (kind : Int) (name : List UInt8) (hl : ats.length ≤ maxLen) : runC eJ Tryz.f24 5 [(2, [0, 1, 7, 8])] [.os 2 0, .fn (.func 103) [] [.op 1 [] 0, .op 0 [] 0]] (hpA z ats kind name) ah = some (.ret [I (idxP (okA name kind) ats)], hpA z ats kind name) := by
  rw [idxa_eq]
  have hs := fun (i : Int) (n : Nat) => idxa_step z ats kind name i n (blkK 0 (seqH eJ cf_idxa [2] (hlp eJ cf_idxa) (cR (cR C_idxa)) (endC Tryz.prog 3 Tryz.f24.results.toList ah)))
  simp only [idx2] at hs
  have h := find_lp (T := fun n s => lp eJ cf_idxa (cL (cL (cR (cL (cR C_idxa))))) n s (blkK 0 (seqH eJ cf_idxa [2] (hlp eJ cf_idxa) (cR (cR C_idxa)) (endC Tryz.prog 3 Tryz.f24.results.toList ah)))) (xs := ats) (st := fun i => stA z ats kind name i) hl hs
  unfold stA hpA at h
  refine h.trans ?_
  unfold idxP
  cases hq : ats.findIdx? (okA name kind) with
  | none => show _ = _; kernel_rfl
  | some i =>
    obtain ⟨hi, _⟩ := List.findIdx?_eq_some_iff_getElem.1 hq
    simp only [List.getElem?_eq_getElem hi, Option.bind_some]
    show _ = _
    kernel_rfl
def idxaF : List AV → LHp → Tq
  | [.os 2 0, .fn (.func 103) [] [.op 1 [] 0, .op 0 [] 0]], [(0, .box (.d (.int .i64) kind)), (1, .box (.d .str name)), (2, .arr 38 ((.pair .str (.pair (.int .i64) (.pair (.int .i64) (.pair (.int .i64) (.pair .str (.pair (.pair (.int .i64) (.pair (.slice (.int .i64)) (.pair (.slice (.int .i64)) .unit))) (.pair (.slice (.int .i64)) .unit)))))))) 0 z ats)] => .br (decide (ats.length ≤ maxLen)) (.leaf (.ret [I (idxP (okA name kind) ats)]) (hpA z ats kind name)) .no
  | _, _ => .no
theorem idxaE_ok : FnE.OK e0.P e0.gam 24 (treeE idxaF) := by
  refine treeC_ok eJ_good hmix Tryz.func24 Tryz.call24 (depth := 5) (live := [(2, [0, 1, 7, 8])]) (by decide +kernel) rfl fun args hs p h => ?_
  unfold idxaF at h
  split at h
  · obtain ⟨hl, h⟩ := Tq.br_no h
    cases h
    have hl := of_decide_eq_true hl
    exact idxa_run _ _ _ _ hl
  · cases h

/-! ### find -/
def nodeA (op nm out : List UInt8) (i a : AV) : AV := .pr (.d .str op) (.pr (.d .str nm) (.pr i (.pr (.d .str out) (.pr a (.d .unit ())))))
def hpN (z z2 : Bool) (ats : List (Y1).den) (ins : List (List UInt8)) : LHp := [(0, .arr 38 (Y1) 0 z ats), (1, .arr 9 .str 0 z2 ins)]
noncomputable def eK : Env := e22.add 24 (treeE idxaF)
noncomputable def eK0 : Env := e22
theorem find_eq (op nm out : List UInt8) (z z2 : Bool) (ats : List (Y1).den) (ins : List (List UInt8)) (name : List UInt8) (kind : Int) : runC eK Tryz.f36 5 [] [nodeA op nm out (.os 1 0) (.os 0 0), .d .str name, I kind] (hpN z z2 ats ins) ah =
  bif decide (ats.length ≤ 9223372036854775807) then 
    bif decide (idxP (fun a => a.fst == name && a.snd.fst == kind) ats < 0) then some (AEnd.ret [(AV.d Ty.str []).pr ((I 0).pr ((I 0).pr ((I 0).pr ((AV.d Ty.str []).pr (((I 0).pr (AV.nils.pr (AV.nils.pr (AV.d Ty.unit PUnit.unit)))).pr (AV.nils.pr (AV.d Ty.unit PUnit.unit))))))), B false], [(0, AObj.arr 38 (Ty.str.pair ((i64T).pair ((i64T).pair ((i64T).pair (Ty.str.pair (((i64T).pair ((i64T).slice.pair ((i64T).slice.pair Ty.unit))).pair ((i64T).slice.pair Ty.unit))))))) 0 z ats), (1, AObj.arr 9 Ty.str 0 z2 ins)])
    else (idx ats (idxP (fun a => a.fst == name && a.snd.fst == kind) ats)).bind fun v2 =>
        (ats[(idxP (fun a => a.fst == name && a.snd.fst == kind) ats).toNat]?).bind fun v3 =>
          some (AEnd.ret [AV.d (Ty.str.pair ((i64T).pair ((i64T).pair ((i64T).pair (Ty.str.pair (((i64T).pair ((i64T).slice.pair ((i64T).slice.pair Ty.unit))).pair ((i64T).slice.pair Ty.unit))))))) v3, B true], [(0, AObj.arr 38 (Ty.str.pair ((i64T).pair ((i64T).pair ((i64T).pair (Ty.str.pair (((i64T).pair ((i64T).slice.pair ((i64T).slice.pair Ty.unit))).pair ((i64T).slice.pair Ty.unit))))))) 0 z ats), (1, AObj.arr 9 Ty.str 0 z2 ins)])
  else none := by
  cases z <;> cases z2 <;> kernel_rfl
theorem eK_good : eK.Good := e22_good.add idxaE_ok
theorem idx_find {α : Type} (p : α → Bool) (xs : List α) : idx xs (idxP p xs) = xs.find? p := by
  unfold idxP
  cases h : xs.findIdx? p with
  | none =>
    rw [List.findIdx?_eq_none_iff] at h
    rw [List.find?_eq_none.2 (fun x hx => by simp [h x hx])]
    rfl
  | some i =>
    obtain ⟨hi, hp, hn⟩ := List.findIdx?_eq_some_iff_getElem.1 h
    show idx xs (i : Int) = _
    unfold idx
    rw [if_pos (by omega), Int.toNat_natCast, List.getElem?_eq_getElem hi]
    exact (List.find?_eq_some_iff_getElem.2 ⟨hp, i, hi, rfl, fun j hj => by simpa using hn j hj⟩).symm
def noAttr : AV := (AV.d Ty.str []).pr ((I 0).pr ((I 0).pr ((I 0).pr ((AV.d Ty.str []).pr (((I 0).pr (AV.nils.pr (AV.nils.pr (AV.d Ty.unit PUnit.unit)))).pr (AV.nils.pr (AV.d Ty.unit PUnit.unit)))))))
def findT (z z2 : Bool) (ats : List (Y1).den) (ins : List (List UInt8)) (name : List UInt8) (kind : Int) : Tq :=
  .br (decide (ats.length ≤ 9223372036854775807)) (.br (decide (idxP (okA name kind) ats < 0)) (.leaf (.ret [noAttr, B false]) (hpN z z2 ats ins)) (.opt (ats.find? (okA name kind)) fun a => .leaf (.ret [.d (Y1) a, B true]) (hpN z z2 ats ins))) .no
def nodeP : AV → Option (List UInt8 × List UInt8 × List UInt8 × AV × AV)
  | .pr (.d .str op) (.pr (.d .str nm) (.pr i (.pr (.d .str out) (.pr a (.d .unit _))))) => some (op, nm, out, i, a)
  | _ => none
theorem nodeP_some {n : AV} {op nm out : List UInt8} {i a : AV} (h : nodeP n = some (op, nm, out, i, a)) : n = nodeA op nm out i a := by
  unfold nodeP at h
  split at h
  · cases h; rfl
  · cases h
def findF1 : List AV → LHp → Tq
  | [n, .d .str name, .d (.int .i64) kind], [(0, .arr 38 ((.pair .str (.pair (.int .i64) (.pair (.int .i64) (.pair (.int .i64) (.pair .str (.pair (.pair (.int .i64) (.pair (.slice (.int .i64)) (.pair (.slice (.int .i64)) .unit))) (.pair (.slice (.int .i64)) .unit)))))))) 0 z ats), (1, .arr 9 .str 0 z2 ins)] =>
    (match nodeP n with
    | some (_, _, _, .os 1 0, .os 0 0) => findT z z2 ats ins name kind
    | _ => .no)
  | _, _ => .no
def findF2 : List AV → LHp → Tq
  | [n, .d .str _, .d (.int .i64) _], [(0, .arr 9 .str 0 z2 ins)] =>
    (match nodeP n with
    | some (_, _, _, .os 0 0, .nils) => .leaf (.ret [noAttr, B false]) [(0, .arr 9 .str 0 z2 ins)]
    | _ => .no)
  | _, _ => .no
def findF (args : List AV) (hs : LHp) : Tq := orT (findF1 args hs) (findF2 args hs)
theorem find_nil (op nm out : List UInt8) (z2 : Bool) (ins : List (List UInt8)) (name : List UInt8) (kind : Int) : runC eK0 Tryz.f36 5 [] [nodeA op nm out (.os 0 0) .nils, .d .str name, I kind] [(0, .arr 9 .str 0 z2 ins)] ah = some (AEnd.ret [(AV.d Ty.str []).pr ((I 0).pr ((I 0).pr ((I 0).pr ((AV.d Ty.str []).pr (((I 0).pr (AV.nils.pr (AV.nils.pr (AV.d Ty.unit PUnit.unit)))).pr (AV.nils.pr (AV.d Ty.unit PUnit.unit))))))), B false], [(0, AObj.arr 9 Ty.str 0 z2 ins)]) := by kernel_rfl
theorem find_run (op nm out : List UInt8) (z z2 : Bool) (ats : List (Y1).den) (ins : List (List UInt8)) (name : List UInt8) (kind : Int) : runC eK Tryz.f36 5 [] [nodeA op nm out (.os 1 0) (.os 0 0), .d .str name, I kind] (hpN z z2 ats ins) ah = (findT z z2 ats ins name kind).run ah := by
  rw [find_eq]
  simp only [idx2]
  simp only [idx_find]
  unfold findT
  show _ = _
  kernel_rfl
theorem findE_ok : FnE.OK e0.P e0.gam 36 (treeE findF) := by
  have h1 : FnE.OK e0.P e0.gam 36 (execFnC eK Tryz.f36 5 []) := execFnC_ok eK_good hmix Tryz.func36 Tryz.call36 (by decide +kernel) rfl
  have h2 : FnE.OK e0.P e0.gam 36 (execFnC e22 Tryz.f36 5 []) := x36_ok
  refine ⟨fun _ _ _ => Tq.eq _ _, fun args hs ae hs' h => ?_⟩
  have h' : (findF args hs).run ah = some (ae, hs') := h
  clear h
  rcases orT_run h' with h' | h'
  · unfold findF1 at h'
    split at h'
    · split at h'
      · rename_i hn
        rw [nodeP_some hn]
        exact h1.okC ((find_run _ _ _ _ _ _ _ _ _).trans h')
      · cases h'
    · cases h'
  · unfold findF2 at h'
    split at h'
    · split at h'
      · rename_i hn
        rw [nodeP_some hn]
        cases h'
        exact h2.okC (find_nil _ _ _ _ _ _ _)
      · cases h'
    · cases h'
end Go.Proofs.XPT
namespace Go.Proofs.XPT
open Go.Vm Go
set_option maxRecDepth 100000
set_option maxHeartbeats 4000000
def strMP : List UInt8 := [77, 97, 120, 80, 111, 111, 108]
def strKS : List UInt8 := [107, 101, 114, 110, 101, 108, 95, 115, 104, 97, 112, 101]
def kattr (l : List Int) : (Y1).den := (strKS, 7, 0, 0, [], (0, [], [], ()), l, ())
theorem ck_mp (l : List Int) : runC e56 Tryz.f63 7 [] [nodeA strMP [] [122] (.os 1 0) (.os 0 0)] (hpN false false [kattr l] [[120]]) ah = some (.ret [I 0], hpN true false [kattr l] [[120]]) := by kernel_rfl
/-- the attributes are just one list of numbers under a name -/
def oneAttr (nm : List UInt8) : List (Y1).den → Option (List Int)
  | [a] => if a.1 = nm ∧ a.2.1 = (7 : Int) ∧ a.2.2.1 = (0 : Int) ∧ a.2.2.2.1 = (0 : Int) ∧ a.2.2.2.2.1 = ([] : List UInt8) ∧ a.2.2.2.2.2.1.1 = (0 : Int) ∧ a.2.2.2.2.2.1.2.1 = ([] : List Int) ∧ a.2.2.2.2.2.1.2.2.1 = ([] : List Int) then some a.2.2.2.2.2.2.1 else none
  | _ => none
theorem oneAttr_some {ats : List (Y1).den} {l : List Int} (h : oneAttr strKS ats = some l) : ats = [kattr l] := by
  unfold oneAttr at h
  split at h
  · rename_i a
    split at h
    · rename_i hh
      obtain ⟨a1, a2, a3, a4, a5, ⟨b1, b2, b3, ⟨⟩⟩, a7, ⟨⟩⟩ := a
      obtain ⟨h1, h2, h3, h4, h5, h6, h7, h8⟩ := hh
      cases h
      simp only at h1 h2 h3 h4 h5 h6 h7 h8
      subst h1 h2 h3 h4 h5 h6 h7 h8
      rfl
    · cases h
  · cases h
end Go.Proofs.XPT
namespace Go.Proofs.XPT
open Go.Vm Go
set_option maxRecDepth 100000
set_option maxHeartbeats 4000000
def strAP : List UInt8 := [65, 118, 101, 114, 97, 103, 101, 80, 111, 111, 108]
def strGAP : List UInt8 := [71, 108, 111, 98, 97, 108, 65, 118, 101, 114, 97, 103, 101, 80, 111, 111, 108]
def strMM : List UInt8 := [77, 97, 116, 77, 117, 108]
def strGM : List UInt8 := [71, 101, 109, 109]
theorem ck_ap (l : List Int) : runC e56 Tryz.f63 7 [] [nodeA strAP [] [122] (.os 1 0) (.os 0 0)] (hpN false false [kattr l] [[120]]) ah = some (.ret [I 0], hpN true false [kattr l] [[120]]) := by kernel_rfl
theorem ck_gap : runC e56 Tryz.f63 7 [] [nodeA strGAP [] [122] (.os 0 0) .nils] [(0, .arr 9 .str 0 false [[120]])] ah = some (.ret [I 0], [(0, .arr 9 .str 0 false [[120]])]) := by kernel_rfl
theorem ck_mm : runC e56 Tryz.f63 7 [] [nodeA strMM [] [122] (.os 0 0) .nils] [(0, .arr 9 .str 0 false [[120], [119]])] ah = some (.ret [I 0], [(0, .arr 9 .str 0 false [[120], [119]])]) := by kernel_rfl
theorem ck_gm : runC e56 Tryz.f63 7 [] [nodeA strGM [] [122] (.os 0 0) .nils] [(0, .arr 9 .str 0 false [[120], [119]])] ah = some (.ret [I 0], [(0, .arr 9 .str 0 false [[120], [119]])]) := by kernel_rfl
/-- an answer where c holds, else none of this kind -/
def gate (c : Bool) (t : Tq) : Tq := bif c then t else .no
theorem gate_run {c : Bool} {t : Tq} {p : AEnd × LHp} (h : (gate c t).run ah = some p) : c = true ∧ t.run ah = some p := by
  cases c with
  | true => exact ⟨rfl, h⟩
  | false => cases h
/-- nodes with the one attribute kernel_shape -/
def sckK (op0 : List UInt8) : List AV → LHp → Tq
  | [n], [(0, .arr 38 ((.pair .str (.pair (.int .i64) (.pair (.int .i64) (.pair (.int .i64) (.pair .str (.pair (.pair (.int .i64) (.pair (.slice (.int .i64)) (.pair (.slice (.int .i64)) .unit))) (.pair (.slice (.int .i64)) .unit)))))))) 0 false ats), (1, .arr 9 .str 0 false ins)] =>
    (match nodeP n with
    | some (op, nm, out, .os 1 0, .os 0 0) => gate (decide (op = op0) && decide (nm = []) && decide (out = [122]) && decide (ins = [[120]])) (.opt (oneAttr strKS ats) fun l => .leaf (.ret [I 0]) (hpN true false [kattr l] [[120]]))
    | _ => .no)
  | _, _ => .no
theorem sckK_ok {op0 : List UInt8} (hc : ∀ l, runC e56 Tryz.f63 7 [] [nodeA op0 [] [122] (.os 1 0) (.os 0 0)] (hpN false false [kattr l] [[120]]) ah = some (.ret [I 0], hpN true false [kattr l] [[120]])) : FnE.OK e0.P e0.gam 63 (treeE (sckK op0)) := by
  have h1 : FnE.OK e0.P e0.gam 63 (execFnC e56 Tryz.f63 7 []) := x63_ok
  refine ⟨fun _ _ _ => Tq.eq _ _, fun args hs ae hs' h => ?_⟩
  have h' : (sckK op0 args hs).run ah = some (ae, hs') := h
  clear h
  unfold sckK at h'
  split at h'
  · split at h'
    · rename_i ats ins _ op nm out hn
      rw [nodeP_some hn]
      obtain ⟨hb, h2⟩ := gate_run h'
      clear h'
      simp only [Bool.and_eq_true, decide_eq_true_eq] at hb
      obtain ⟨⟨⟨b1, b2⟩, b3⟩, b4⟩ := hb
      subst b1 b2 b3 b4
      simp only [Tq.run] at h2
      obtain ⟨l, hl, h3⟩ := bind_some h2
      clear h2
      rw [oneAttr_some hl]
      cases h3
      exact h1.okC (hc l)
    · cases h'
  · cases h'
/-- nodes without attributes -/
def sckN (op0 : List UInt8) (ins0 : List (List UInt8)) : List AV → LHp → Tq
  | [n], [(0, .arr 9 .str 0 false ins)] =>
    (match nodeP n with
    | some (op, nm, out, .os 0 0, .nils) => gate (decide (op = op0) && decide (nm = []) && decide (out = [122]) && decide (ins = ins0)) (.leaf (.ret [I 0]) [(0, .arr 9 .str 0 false ins0)])
    | _ => .no)
  | _, _ => .no
theorem sckN_ok {op0 : List UInt8} {ins0 : List (List UInt8)} (hc : runC e56 Tryz.f63 7 [] [nodeA op0 [] [122] (.os 0 0) .nils] [(0, .arr 9 .str 0 false ins0)] ah = some (.ret [I 0], [(0, .arr 9 .str 0 false ins0)])) : FnE.OK e0.P e0.gam 63 (treeE (sckN op0 ins0)) := by
  have h1 : FnE.OK e0.P e0.gam 63 (execFnC e56 Tryz.f63 7 []) := x63_ok
  refine ⟨fun _ _ _ => Tq.eq _ _, fun args hs ae hs' h => ?_⟩
  have h' : (sckN op0 ins0 args hs).run ah = some (ae, hs') := h
  clear h
  unfold sckN at h'
  split at h'
  · split at h'
    · rename_i ins _ op nm out hn
      rw [nodeP_some hn]
      obtain ⟨hb, h2⟩ := gate_run h'
      clear h'
      simp only [Bool.and_eq_true, decide_eq_true_eq] at hb
      obtain ⟨⟨⟨b1, b2⟩, b3⟩, b4⟩ := hb
      subst b1 b2 b3 b4
      cases h2
      exact h1.okC hc
    · cases h'
  · cases h'
def sckG (args : List AV) (hs : LHp) : Tq := orT (sckK strMP args hs) (orT (sckK strAP args hs) (orT (sckN strGAP [[120]] args hs) (orT (sckN strMM [[120], [119]] args hs) (sckN strGM [[120], [119]] args hs))))
theorem sckG_ok : FnE.OK e0.P e0.gam 63 (treeE sckG) := treeE_or (sckK_ok ck_mp) (treeE_or (sckK_ok ck_ap) (treeE_or (sckN_ok ck_gap) (treeE_or (sckN_ok ck_mm) (sckN_ok ck_gm))))
end Go.Proofs.XPT
namespace Go.Proofs.XPT
open Go.Vm Go
set_option maxRecDepth 100000
set_option maxHeartbeats 4000000
def strAxis : List UInt8 := [97, 120, 105, 115]
def strGA : List UInt8 := [71, 97, 116, 104, 101, 114]
def iattr (nm : List UInt8) (v : Int) : (Y1).den := (nm, 2, 0, v, [], (0, [], [], ()), [], ())
theorem ck_ga (v : Int) : runC e56 Tryz.f63 7 [] [nodeA strGA [] [122] (.os 1 0) (.os 0 0)] (hpN false false [iattr strAxis v] [[120], [119]]) ah = some (.ret [I 0], hpN true false [iattr strAxis v] [[120], [119]]) := by kernel_rfl
theorem ck_ga0 : runC e56 Tryz.f63 7 [] [nodeA strGA [] [122] (.os 0 0) .nils] [(0, .arr 9 .str 0 false [[120], [119]])] ah = some (.ret [I 0], [(0, .arr 9 .str 0 false [[120], [119]])]) := by kernel_rfl
/-- the attributes are just one number under a name -/
def oneInt (nm : List UInt8) : List (Y1).den → Option Int
  | [a] => if a.1 = nm ∧ a.2.1 = (2 : Int) ∧ a.2.2.1 = (0 : Int) ∧ a.2.2.2.2.1 = ([] : List UInt8) ∧ a.2.2.2.2.2.1.1 = (0 : Int) ∧ a.2.2.2.2.2.1.2.1 = ([] : List Int) ∧ a.2.2.2.2.2.1.2.2.1 = ([] : List Int) ∧ a.2.2.2.2.2.2.1 = ([] : List Int) then some a.2.2.2.1 else none
  | _ => none
theorem oneInt_some {nm : List UInt8} {ats : List (Y1).den} {v : Int} (h : oneInt nm ats = some v) : ats = [iattr nm v] := by
  unfold oneInt at h
  split at h
  · rename_i a
    split at h
    · rename_i hh
      obtain ⟨a1, a2, a3, a4, a5, ⟨b1, b2, b3, ⟨⟩⟩, a7, ⟨⟩⟩ := a
      obtain ⟨h1, h2, h3, h4, h5, h6, h7, h8⟩ := hh
      cases h
      simp only at h1 h2 h3 h4 h5 h6 h7 h8
      subst h1 h2 h3 h4 h5 h6 h7 h8
      rfl
    · cases h
  · cases h
def sckI (op0 nm0 : List UInt8) (ins0 : List (List UInt8)) : List AV → LHp → Tq
  | [n], [(0, .arr 38 ((.pair .str (.pair (.int .i64) (.pair (.int .i64) (.pair (.int .i64) (.pair .str (.pair (.pair (.int .i64) (.pair (.slice (.int .i64)) (.pair (.slice (.int .i64)) .unit))) (.pair (.slice (.int .i64)) .unit)))))))) 0 false ats), (1, .arr 9 .str 0 false ins)] =>
    (match nodeP n with
    | some (op, nm, out, .os 1 0, .os 0 0) => gate (decide (op = op0) && decide (nm = []) && decide (out = [122]) && decide (ins = ins0)) (.opt (oneInt nm0 ats) fun v => .leaf (.ret [I 0]) (hpN true false [iattr nm0 v] ins0))
    | _ => .no)
  | _, _ => .no
theorem sckI_ok {op0 nm0 : List UInt8} {ins0 : List (List UInt8)} (hc : ∀ v, runC e56 Tryz.f63 7 [] [nodeA op0 [] [122] (.os 1 0) (.os 0 0)] (hpN false false [iattr nm0 v] ins0) ah = some (.ret [I 0], hpN true false [iattr nm0 v] ins0)) : FnE.OK e0.P e0.gam 63 (treeE (sckI op0 nm0 ins0)) := by
  have h1 : FnE.OK e0.P e0.gam 63 (execFnC e56 Tryz.f63 7 []) := x63_ok
  refine ⟨fun _ _ _ => Tq.eq _ _, fun args hs ae hs' h => ?_⟩
  have h' : (sckI op0 nm0 ins0 args hs).run ah = some (ae, hs') := h
  clear h
  unfold sckI at h'
  split at h'
  · split at h'
    · rename_i ats ins _ op nm out hn
      rw [nodeP_some hn]
      obtain ⟨hb, h2⟩ := gate_run h'
      clear h'
      simp only [Bool.and_eq_true, decide_eq_true_eq] at hb
      obtain ⟨⟨⟨b1, b2⟩, b3⟩, b4⟩ := hb
      subst b1 b2 b3 b4
      simp only [Tq.run] at h2
      obtain ⟨l, hl, h3⟩ := bind_some h2
      clear h2
      rw [oneInt_some hl]
      cases h3
      exact h1.okC (hc l)
    · cases h'
  · cases h'
def sckM (args : List AV) (hs : LHp) : Tq := orT (sckG args hs) (orT (sckI strGA strAxis [[120], [119]] args hs) (sckN strGA [[120], [119]] args hs))
theorem sckM_ok : FnE.OK e0.P e0.gam 63 (treeE sckM) := treeE_or sckG_ok (treeE_or (sckI_ok ck_ga) (sckN_ok ck_ga0))
end Go.Proofs.XPT
namespace Go.Proofs.XPT
open Go.Vm Go
set_option maxRecDepth 100000
set_option maxHeartbeats 4000000
theorem cat_eq (l1 l2 l3 : List Int) : runC e118 Tryz.f143 6 [(3, [0, 3, 9, 10, 11]), (11, [6, 25, 26, 27])] [.os 0 0] [(0, .arr 22 (.slice i64T) 0 false [l1, l2, l3])] ah = bif decide (IntKind.i64.wrap (Int.ofNat (0 + l1.length)) < 0) then none else  bif decide (IntKind.i64.wrap (IntKind.i64.wrap (Int.ofNat (0 + l1.length)) + Int.ofNat l2.length) < 0) then none else  bif decide (IntKind.i64.wrap (IntKind.i64.wrap (IntKind.i64.wrap (Int.ofNat (0 + l1.length)) + Int.ofNat l2.length) + Int.ofNat l3.length) < 0) then none else  bif decide (IntKind.i64.wrap (IntKind.i64.wrap (IntKind.i64.wrap (Int.ofNat (0 + l1.length)) + Int.ofNat l2.length) + Int.ofNat l3.length) < 0) then none else  bif decide (IntKind.i64.wrap (IntKind.i64.wrap (IntKind.i64.wrap (IntKind.i64.wrap (Int.ofNat (0 + l1.length)) + Int.ofNat l2.length) + Int.ofNat l3.length) - 0) > 0) then  bif decide (0 < IntKind.i64.wrap (IntKind.i64.wrap (IntKind.i64.wrap (IntKind.i64.wrap (Int.ofNat (0 + l1.length)) + Int.ofNat l2.length) + Int.ofNat l3.length) - 0)) && decide (IntKind.i64.wrap (IntKind.i64.wrap (IntKind.i64.wrap (IntKind.i64.wrap (Int.ofNat (0 + l1.length)) + Int.ofNat l2.length) + Int.ofNat l3.length) - 0) ≤ 4294967296) then (app [] l1).bind fun v6 => (app v6 l2).bind fun v7 => (app v7 l3).bind fun v8 => some (AEnd.ret [AV.os 1 0], [(0, AObj.arr 22 (i64T).slice 0 false [l1, l2, l3]), (1, AObj.arr 3 (i64T) 0 false v8)]) else none else (app [] l1).bind fun v5 => (app v5 l2).bind fun v6 => (app v6 l3).bind fun v7 => some (AEnd.ret [AV.os 1 0], [(0, AObj.arr 22 (i64T).slice 0 false [l1, l2, l3]), (1, AObj.arr 3 (i64T) 0 false v7)]) := by kernel_rfl
theorem app_mk {α : Type} {xs ys : List α} (h : xs.length + ys.length ≤ lim) : app xs ys = some (xs ++ ys) := by
  unfold app
  rw [if_pos h]
theorem cat_run (l1 l2 l3 : List Int) (h : l1.length + l2.length + l3.length ≤ 65536) : runC e118 Tryz.f143 6 [(3, [0, 3, 9, 10, 11]), (11, [6, 25, 26, 27])] [.os 0 0] [(0, .arr 22 (.slice i64T) 0 false [l1, l2, l3])] ah = some (.ret [.os 1 0], [(0, .arr 22 (.slice i64T) 0 false [l1, l2, l3]), (1, .arr 3 i64T 0 false (l1 ++ l2 ++ l3))]) := by
  have e1 : IntKind.i64.wrap (Int.ofNat (0 + l1.length)) = (l1.length : Int) := by
    rw [Nat.zero_add]
    exact wrap64 (by simp only [Int.ofNat_eq_natCast]; omega) (by simp only [Int.ofNat_eq_natCast]; omega)
  have e2 : IntKind.i64.wrap ((l1.length : Int) + Int.ofNat l2.length) = ((l1.length + l2.length : Nat) : Int) := by
    rw [wrap64 (by simp only [Int.ofNat_eq_natCast]; omega) (by simp only [Int.ofNat_eq_natCast]; omega)]
    rfl
  have e3 : IntKind.i64.wrap (((l1.length + l2.length : Nat) : Int) + Int.ofNat l3.length) = ((l1.length + l2.length + l3.length : Nat) : Int) := by
    rw [wrap64 (by simp only [Int.ofNat_eq_natCast]; omega) (by simp only [Int.ofNat_eq_natCast]; omega)]
    rfl
  have e4 : IntKind.i64.wrap (((l1.length + l2.length + l3.length : Nat) : Int) - 0) = ((l1.length + l2.length + l3.length : Nat) : Int) := by
    rw [Int.sub_zero]
    exact wrap64 (by omega) (by omega)
  rw [cat_eq, e1, e2, e3, e4, decide_eq_false (show ¬ ((l1.length : Int) < 0) by omega), decide_eq_false (show ¬ (((l1.length + l2.length : Nat) : Int) < 0) by omega), decide_eq_false (show ¬ (((l1.length + l2.length + l3.length : Nat) : Int) < 0) by omega)]
  have a1 : app ([] : List Int) l1 = some l1 := by rw [app_mk (by unfold lim; simp; omega)]; rfl
  have a2 : app l1 l2 = some (l1 ++ l2) := app_mk (by unfold lim; omega)
  have a3 : app (l1 ++ l2) l3 = some (l1 ++ l2 ++ l3) := app_mk (by unfold lim; rw [List.length_append]; omega)
  simp only [cond_false, a1, a2, a3, Option.bind_some]
  by_cases h0 : (((l1.length + l2.length + l3.length : Nat) : Int)) > 0
  · rw [decide_eq_true h0, decide_eq_true (show ((l1.length + l2.length + l3.length : Nat) : Int) ≤ 4294967296 by omega)]
    rfl
  · rw [decide_eq_false h0]
    rfl
def unc : List Int → Option (Int × List Int)
  | [] => none
  | x :: l => some (x, l)
def catT : List AV → LHp → Tq
  | [.os 0 0], [(0, .arr 22 (.slice (.int .i64)) 0 false [l1, l2, l3])] => .opt (unc (l1 ++ l2 ++ l3)) fun p => .br (decide (l1.length + l2.length + l3.length ≤ 65536)) (.leaf (.ret [.os 1 0]) [(0, .arr 22 (.slice i64T) 0 false [l1, l2, l3]), (1, .arr 3 i64T 0 false (p.1 :: p.2))]) .no
  | _, _ => .no
theorem catT_ok : FnE.OK e0.P e0.gam 143 (treeE catT) := by
  have h1 : FnE.OK e0.P e0.gam 143 (execFnC e118 Tryz.f143 6 [(3, [0, 3, 9, 10, 11]), (11, [6, 25, 26, 27])]) := x143_ok
  refine ⟨fun _ _ _ => Tq.eq _ _, fun args hs ae hs' h => ?_⟩
  have h' : (catT args hs).run ah = some (ae, hs') := h
  clear h
  unfold catT at h'
  split at h'
  · simp only [Tq.run] at h'
    obtain ⟨p, hp, h2⟩ := bind_some h'
    clear h'
    obtain ⟨x, l⟩ := p
    obtain ⟨hb, h3⟩ := Tq.br_no (t := .leaf _ _) (show (Tq.br (decide _) (.leaf _ _) .no).run ah = some (ae, hs') from h2)
    cases h3
    have e : ∀ {ls : List Int}, unc ls = some (x, l) → ls = x :: l := fun {ls} h => by
      cases ls with
      | nil => cases h
      | cons a b => cases h; rfl
    rw [← e hp]
    exact h1.okC (cat_run _ _ _ (of_decide_eq_true hb))
  · cases h'
end Go.Proofs.XPT
namespace Go.Proofs.XPT
open Go.Vm Go
set_option maxRecDepth 100000
set_option maxHeartbeats 4000000
def strTR : List UInt8 := [84, 114, 97, 110, 115, 112, 111, 115, 101]
def strTA : List UInt8 := [116, 114, 97, 110, 115, 65]
def strTB : List UInt8 := [116, 114, 97, 110, 115, 66]
def flagsAB : List (Y1).den := [iattr strTA 1, iattr strTB 1]
theorem ck_tr : runC e56 Tryz.f63 7 [] [nodeA strTR [] [121] (.os 0 0) .nils] [(0, .arr 9 .str 0 false [[120]])] ah = some (.ret [I 0], [(0, .arr 9 .str 0 false [[120]])]) := by kernel_rfl
theorem ck_fl : runC e56 Tryz.f63 7 [] [nodeA strGM [] [122] (.os 1 0) (.os 0 0)] (hpN false false flagsAB [[120], [119]]) ah = some (.ret [I 0], hpN true false flagsAB [[120], [119]]) := by kernel_rfl
/-- nodes without attributes, out named -/
def sckO (op0 out0 : List UInt8) (ins0 : List (List UInt8)) : List AV → LHp → Tq
  | [n], [(0, .arr 9 .str 0 false ins)] =>
    (match nodeP n with
    | some (op, nm, out, .os 0 0, .nils) => gate (decide (op = op0) && decide (nm = []) && decide (out = out0) && decide (ins = ins0)) (.leaf (.ret [I 0]) [(0, .arr 9 .str 0 false ins0)])
    | _ => .no)
  | _, _ => .no
theorem sckO_ok {op0 out0 : List UInt8} {ins0 : List (List UInt8)} (hc : runC e56 Tryz.f63 7 [] [nodeA op0 [] out0 (.os 0 0) .nils] [(0, .arr 9 .str 0 false ins0)] ah = some (.ret [I 0], [(0, .arr 9 .str 0 false ins0)])) : FnE.OK e0.P e0.gam 63 (treeE (sckO op0 out0 ins0)) := by
  have h1 : FnE.OK e0.P e0.gam 63 (execFnC e56 Tryz.f63 7 []) := x63_ok
  refine ⟨fun _ _ _ => Tq.eq _ _, fun args hs ae hs' h => ?_⟩
  have h' : (sckO op0 out0 ins0 args hs).run ah = some (ae, hs') := h
  clear h
  unfold sckO at h'
  split at h'
  · split at h'
    · rename_i ins _ op nm out hn
      rw [nodeP_some hn]
      obtain ⟨hb, h2⟩ := gate_run h'
      clear h'
      simp only [Bool.and_eq_true, decide_eq_true_eq] at hb
      obtain ⟨⟨⟨b1, b2⟩, b3⟩, b4⟩ := hb
      subst b1 b2 b3 b4
      cases h2
      exact h1.okC hc
    · cases h'
  · cases h'
/-- an attribute that is a number -/
def isInt (a : (Y1).den) (nm : List UInt8) (v : Int) : Bool := decide (a.1 = nm ∧ a.2.1 = (2 : Int) ∧ a.2.2.1 = (0 : Int) ∧ a.2.2.2.1 = v ∧ a.2.2.2.2.1 = ([] : List UInt8)) && decide (a.2.2.2.2.2.1.1 = (0 : Int) ∧ a.2.2.2.2.2.1.2.1 = ([] : List Int) ∧ a.2.2.2.2.2.1.2.2.1 = ([] : List Int) ∧ a.2.2.2.2.2.2.1 = ([] : List Int))
theorem isInt_eq {a : (Y1).den} {nm : List UInt8} {v : Int} (h : isInt a nm v = true) : a = iattr nm v := by
  unfold isInt at h
  simp only [Bool.and_eq_true, decide_eq_true_eq] at h
  obtain ⟨a1, a2, a3, a4, a5, ⟨b1, b2, b3, ⟨⟩⟩, a7, ⟨⟩⟩ := a
  obtain ⟨⟨h1, h2, h3, h4, h5⟩, h6, h7, h8, h9⟩ := h
  simp only at h1 h2 h3 h4 h5 h6 h7 h8 h9
  subst h1 h2 h3 h4 h5 h6 h7 h8 h9
  rfl
def sckP : List AV → LHp → Tq
  | [n], [(0, .arr 38 ((.pair .str (.pair (.int .i64) (.pair (.int .i64) (.pair (.int .i64) (.pair .str (.pair (.pair (.int .i64) (.pair (.slice (.int .i64)) (.pair (.slice (.int .i64)) .unit))) (.pair (.slice (.int .i64)) .unit)))))))) 0 false [a1, a2]), (1, .arr 9 .str 0 false ins)] =>
    (match nodeP n with
    | some (op, nm, out, .os 1 0, .os 0 0) => gate (decide (op = strGM) && decide (nm = []) && decide (out = [122]) && decide (ins = [[120], [119]]) && (isInt a1 strTA 1 && isInt a2 strTB 1)) (.leaf (.ret [I 0]) (hpN true false flagsAB [[120], [119]]))
    | _ => .no)
  | _, _ => .no
theorem sckP_ok : FnE.OK e0.P e0.gam 63 (treeE sckP) := by
  have h1 : FnE.OK e0.P e0.gam 63 (execFnC e56 Tryz.f63 7 []) := x63_ok
  refine ⟨fun _ _ _ => Tq.eq _ _, fun args hs ae hs' h => ?_⟩
  have h' : (sckP args hs).run ah = some (ae, hs') := h
  clear h
  unfold sckP at h'
  split at h'
  · split at h'
    · rename_i hn
      rw [nodeP_some hn]
      obtain ⟨hb, h2⟩ := gate_run h'
      clear h'
      simp only [Bool.and_eq_true, decide_eq_true_eq] at hb
      obtain ⟨⟨⟨⟨b1, b2⟩, b3⟩, b4⟩, b5, b6⟩ := hb
      subst b1 b2 b3 b4
      rw [isInt_eq b5, isInt_eq b6]
      cases h2
      exact h1.okC ck_fl
    · cases h'
  · cases h'
def sckZ (args : List AV) (hs : LHp) : Tq := orT (sckM args hs) (orT (sckO strTR [121] [[120]] args hs) (sckP args hs))
theorem sckZ_ok : FnE.OK e0.P e0.gam 63 (treeE sckZ) := treeE_or sckM_ok (treeE_or (sckO_ok ck_tr) sckP_ok)
end Go.Proofs.XPT
namespace Go.Proofs.XPT
open Go.Vm Go
set_option maxRecDepth 100000
set_option maxHeartbeats 4000000
def strCV : List UInt8 := [67, 111, 110, 118]
theorem ck_cv : runC e56 Tryz.f63 7 [] [nodeA strCV [] [122] (.os 0 0) .nils] [(0, .arr 9 .str 0 false [[120], [119]])] ah = some (.ret [I 0], [(0, .arr 9 .str 0 false [[120], [119]])]) := by kernel_rfl
def sckV (args : List AV) (hs : LHp) : Tq := orT (sckZ args hs) (sckN strCV [[120], [119]] args hs)
theorem sckV_ok : FnE.OK e0.P e0.gam 63 (treeE sckV) := treeE_or sckZ_ok (sckN_ok ck_cv)
end Go.Proofs.XPT
set_option maxRecDepth 100000
set_option maxHeartbeats 4000000
namespace Go.Proofs.XPT
open Go.Vm Go Go.RowKit Go.Lib
/-- mandrel/mandrellaw13.small -/
noncomputable def y4 : FnE := execFnC e0 Tryz.f4 5 [(2, [0, 3])]
theorem y4_ok : FnE.OK Tryz.prog (Env.gam e0) 4 y4 := execFnC_ok e0_good hmix Tryz.func4 Tryz.call4 (by decide +kernel) rfl
noncomputable def g1 : Env := e0.add 4 y4
theorem g1_good : g1.Good := Env.Good.add e0_good y4_ok
/-- mandrel/num.Check -/
noncomputable def g2 : Env := g1.add 60 (fnE chkF)
theorem g2_good : g2.Good := Env.Good.add g1_good chkE_ok
/-- mandrel/pb.Check$1 -/
noncomputable def y59 : FnE := execFnC g2 Tryz.f59 4 []
theorem y59_ok : FnE.OK Tryz.prog (Env.gam e0) 59 y59 := execFnC_ok g2_good hmix Tryz.func59 Tryz.call59 (by decide +kernel) rfl
noncomputable def g3 : Env := g2.add 59 y59
theorem g3_good : g3.Good := Env.Good.add g2_good y59_ok
/-- mandrel/shape.Count$1 -/
noncomputable def y70 : FnE := execFnC g3 Tryz.f70 3 []
theorem y70_ok : FnE.OK Tryz.prog (Env.gam e0) 70 y70 := execFnC_ok g3_good hmix Tryz.func70 Tryz.call70 (by decide +kernel) rfl
noncomputable def g4 : Env := g3.add 70 y70
theorem g4_good : g4.Good := Env.Good.add g3_good y70_ok
/-- mandrel/view.fine$1 -/
noncomputable def y75 : FnE := execFnC g4 Tryz.f75 4 []
theorem y75_ok : FnE.OK Tryz.prog (Env.gam e0) 75 y75 := execFnC_ok g4_good hmix Tryz.func75 Tryz.call75 (by decide +kernel) rfl
noncomputable def g5 : Env := g4.add 75 y75
theorem g5_good : g5.Good := Env.Good.add g4_good y75_ok
/-- mandrel/infer.rule -/
noncomputable def y64 : FnE := execFnC g5 Tryz.f64 3 []
theorem y64_ok : FnE.OK Tryz.prog (Env.gam e0) 64 y64 := execFnC_ok g5_good hmix Tryz.func64 Tryz.call64 (by decide +kernel) rfl
noncomputable def g6 : Env := g5.add 64 y64
theorem g6_good : g6.Good := Env.Good.add g5_good y64_ok
/-- (mandrel/infer.maker).window$1 -/
noncomputable def y164 : FnE := execFnC g6 Tryz.f164 6 []
theorem y164_ok : FnE.OK Tryz.prog (Env.gam e0) 164 y164 := execFnC_ok g6_good hmix Tryz.func164 Tryz.call164 (by decide +kernel) rfl
noncomputable def g7 : Env := g6.add 164 y164
theorem g7_good : g7.Good := Env.Good.add g6_good y164_ok
/-- slices.IndexFunc[[]int,int] -/
noncomputable def y99 : FnE := execFnC g7 Tryz.f99 5 [(2, [0, 1, 7, 8])]
theorem y99_ok : FnE.OK Tryz.prog (Env.gam e0) 99 y99 := execFnC_ok g7_good hmix Tryz.func99 Tryz.call99 (by decide +kernel) rfl
noncomputable def g8 : Env := g7.add 99 y99
theorem g8_good : g8.Good := Env.Good.add g7_good y99_ok
/-- slices.ContainsFunc[[]int,int] -/
noncomputable def y69 : FnE := execFnC g8 Tryz.f69 4 []
theorem y69_ok : FnE.OK Tryz.prog (Env.gam e0) 69 y69 := execFnC_ok g8_good hmix Tryz.func69 Tryz.call69 (by decide +kernel) rfl
noncomputable def g9 : Env := g8.add 69 y69
theorem g9_good : g9.Good := Env.Good.add g8_good y69_ok
/-- mandrel/shape.Count -/
noncomputable def g10 : Env := g9.add 32 (treeE countG)
theorem g10_good : g10.Good := Env.Good.add g9_good countG_ok
/-- mandrel/pb.typed -/
noncomputable def g11 : Env := g10.add 57 (fnE typedF)
theorem g11_good : g11.Good := Env.Good.add g10_good typedE_ok
/-- slices.IndexFunc[[]int64,int64] -/
noncomputable def y83 : FnE := execFnC g11 Tryz.f83 5 [(2, [0, 1, 7, 8])]
theorem y83_ok : FnE.OK Tryz.prog (Env.gam e0) 83 y83 := execFnC_ok g11_good hmix Tryz.func83 Tryz.call83 (by decide +kernel) rfl
noncomputable def g12 : Env := g11.add 83 y83
theorem g12_good : g12.Good := Env.Good.add g11_good y83_ok
/-- slices.ContainsFunc[[]int64,int64] -/
noncomputable def y58 : FnE := execFnC g12 Tryz.f58 4 []
theorem y58_ok : FnE.OK Tryz.prog (Env.gam e0) 58 y58 := execFnC_ok g12_good hmix Tryz.func58 Tryz.call58 (by decide +kernel) rfl
noncomputable def g13 : Env := g12.add 58 y58
theorem g13_good : g13.Good := Env.Good.add g12_good y58_ok
/-- mandrel/pb.Check -/
noncomputable def g14 : Env := g13.add 29 (treeE pbcF)
theorem g14_good : g14.Good := Env.Good.add g13_good pbcE_ok
/-- mandrel/infer.Out$1 -/
noncomputable def y61 : FnE := execFnC g14 Tryz.f61 5 []
theorem y61_ok : FnE.OK Tryz.prog (Env.gam e0) 61 y61 := execFnC_ok g14_good hmix Tryz.func61 Tryz.call61 (by decide +kernel) rfl
noncomputable def g15 : Env := g14.add 61 y61
theorem g15_good : g15.Good := Env.Good.add g14_good y61_ok
/-- mandrel/infer.good -/
noncomputable def y62 : FnE := execFnC g15 Tryz.f62 3 []
theorem y62_ok : FnE.OK Tryz.prog (Env.gam e0) 62 y62 := execFnC_ok g15_good hmix Tryz.func62 Tryz.call62 (by decide +kernel) rfl
noncomputable def g16 : Env := g15.add 62 y62
theorem g16_good : g16.Good := Env.Good.add g15_good y62_ok
/-- mandrel/move.Do$1 -/
noncomputable def y25 : FnE := execFnC g16 Tryz.f25 3 []
theorem y25_ok : FnE.OK Tryz.prog (Env.gam e0) 25 y25 := execFnC_ok g16_good hmix Tryz.func25 Tryz.call25 (by decide +kernel) rfl
noncomputable def g17 : Env := g16.add 25 y25
theorem g17_good : g17.Good := Env.Good.add g16_good y25_ok
/-- mandrel/schema.named$1 -/
noncomputable def y103 : FnE := execFnC g17 Tryz.f103 4 []
theorem y103_ok : FnE.OK Tryz.prog (Env.gam e0) 103 y103 := execFnC_ok g17_good hmix Tryz.func103 Tryz.call103 (by decide +kernel) rfl
noncomputable def g18 : Env := g17.add 103 y103
theorem g18_good : g18.Good := Env.Good.add g17_good y103_ok
/-- mandrel/schema.attrs$2 -/
noncomputable def y124 : FnE := execFnC g18 Tryz.f124 4 []
theorem y124_ok : FnE.OK Tryz.prog (Env.gam e0) 124 y124 := execFnC_ok g18_good hmix Tryz.func124 Tryz.call124 (by decide +kernel) rfl
noncomputable def g19 : Env := g18.add 124 y124
theorem g19_good : g19.Good := Env.Good.add g18_good y124_ok
/-- (mandrel/infer.maker).constant$1 -/
noncomputable def y129 : FnE := execFnC g19 Tryz.f129 3 []
theorem y129_ok : FnE.OK Tryz.prog (Env.gam e0) 129 y129 := execFnC_ok g19_good hmix Tryz.func129 Tryz.call129 (by decide +kernel) rfl
noncomputable def g20 : Env := g19.add 129 y129
theorem g20_good : g20.Good := Env.Good.add g19_good y129_ok
/-- slices.IndexFunc[[]mandrel/api.Attr,mandrel/api.Attr] -/
noncomputable def y24 : FnE := execFnC g20 Tryz.f24 5 [(2, [0, 1, 7, 8])]
theorem y24_ok : FnE.OK Tryz.prog (Env.gam e0) 24 y24 := execFnC_ok g20_good hmix Tryz.func24 Tryz.call24 (by decide +kernel) rfl
noncomputable def g21 : Env := g20.add 24 y24
theorem g21_good : g21.Good := Env.Good.add g20_good y24_ok
/-- mandrel/schema.named -/
noncomputable def y73 : FnE := execFnC g21 Tryz.f73 3 []
theorem y73_ok : FnE.OK Tryz.prog (Env.gam e0) 73 y73 := execFnC_ok g21_good hmix Tryz.func73 Tryz.call73 (by decide +kernel) rfl
noncomputable def g22 : Env := g21.add 73 y73
theorem g22_good : g22.Good := Env.Good.add g21_good y73_ok
/-- mandrel/schema.find -/
noncomputable def g23 : Env := g22.add 36 (treeElse findF x36)
theorem g23_good : g23.Good := Env.Good.add g22_good (treeElse_ok findE_ok x36_ok)
/-- mandrel/schema.ofOne -/
noncomputable def y116 : FnE := execFnC g23 Tryz.f116 4 [(2, [0, 5, 6])]
theorem y116_ok : FnE.OK Tryz.prog (Env.gam e0) 116 y116 := execFnC_ok g23_good hmix Tryz.func116 Tryz.call116 (by decide +kernel) rfl
noncomputable def g24 : Env := g23.add 116 y116
theorem g24_good : g24.Good := Env.Good.add g23_good y116_ok
/-- mandrel/schema.ruleOf -/
noncomputable def y84 : FnE := execFnC g24 Tryz.f84 7 []
theorem y84_ok : FnE.OK Tryz.prog (Env.gam e0) 84 y84 := execFnC_ok g24_good hmix Tryz.func84 Tryz.call84 (by decide +kernel) rfl
noncomputable def g25 : Env := g24.add 84 y84
theorem g25_good : g25.Good := Env.Good.add g24_good y84_ok
/-- slices.Index[[]string,string] -/
noncomputable def y117 : FnE := execFnC g25 Tryz.f117 5 [(2, [0, 1, 7, 8])]
theorem y117_ok : FnE.OK Tryz.prog (Env.gam e0) 117 y117 := execFnC_ok g25_good hmix Tryz.func117 Tryz.call117 (by decide +kernel) rfl
noncomputable def g26 : Env := g25.add 117 y117
theorem g26_good : g26.Good := Env.Good.add g25_good y117_ok
/-- slices.Contains[[]string,string] -/
noncomputable def y85 : FnE := execFnC g26 Tryz.f85 4 []
theorem y85_ok : FnE.OK Tryz.prog (Env.gam e0) 85 y85 := execFnC_ok g26_good hmix Tryz.func85 Tryz.call85 (by decide +kernel) rfl
noncomputable def g27 : Env := g26.add 85 y85
theorem g27_good : g27.Good := Env.Good.add g26_good y85_ok
/-- internal/stringslite.HasPrefix -/
noncomputable def y154 : FnE := execFnC g27 Tryz.f154 5 []
theorem y154_ok : FnE.OK Tryz.prog (Env.gam e0) 154 y154 := execFnC_ok g27_good hmix Tryz.func154 Tryz.call154 (by decide +kernel) rfl
noncomputable def g28 : Env := g27.add 154 y154
theorem g28_good : g28.Good := Env.Good.add g27_good y154_ok
/-- strings.HasPrefix -/
noncomputable def y121 : FnE := execFnC g28 Tryz.f121 4 []
theorem y121_ok : FnE.OK Tryz.prog (Env.gam e0) 121 y121 := execFnC_ok g28_good hmix Tryz.func121 Tryz.call121 (by decide +kernel) rfl
noncomputable def g29 : Env := g28.add 121 y121
theorem g29_good : g29.Good := Env.Good.add g28_good y121_ok
/-- mandrel/schema.attrs$1 -/
noncomputable def y120 : FnE := execFnC g29 Tryz.f120 4 []
theorem y120_ok : FnE.OK Tryz.prog (Env.gam e0) 120 y120 := execFnC_ok g29_good hmix Tryz.func120 Tryz.call120 (by decide +kernel) rfl
noncomputable def g30 : Env := g29.add 120 y120
theorem g30_good : g30.Good := Env.Good.add g29_good y120_ok
/-- unicode/utf8.RuneCountInString -/
noncomputable def y199 : FnE := execFnC g30 Tryz.f199 4 [(2, [2, 4])]
theorem y199_ok : FnE.OK Tryz.prog (Env.gam e0) 199 y199 := execFnC_ok g30_good hmix Tryz.func199 Tryz.call199 (by decide +kernel) rfl
noncomputable def g31 : Env := g30.add 199 y199
theorem g31_good : g31.Good := Env.Good.add g30_good y199_ok
/-- unicode/utf8.decodeRuneInStringSlow -/
noncomputable def y211 : FnE := execFnC g31 Tryz.f211 7 []
theorem y211_ok : FnE.OK Tryz.prog (Env.gam e0) 211 y211 := execFnC_ok g31_good hmix Tryz.func211 Tryz.call211 (by decide +kernel) rfl
noncomputable def g32 : Env := g31.add 211 y211
theorem g32_good : g32.Good := Env.Good.add g31_good y211_ok
/-- unicode/utf8.DecodeRuneInString -/
noncomputable def y200 : FnE := execFnC g32 Tryz.f200 5 []
theorem y200_ok : FnE.OK Tryz.prog (Env.gam e0) 200 y200 := execFnC_ok g32_good hmix Tryz.func200 Tryz.call200 (by decide +kernel) rfl
noncomputable def g33 : Env := g32.add 200 y200
theorem g33_good : g33.Good := Env.Good.add g32_good y200_ok
/-- strings.explode -/
noncomputable def y183 : FnE := execFnC g33 Tryz.f183 6 [(6, [0, 1, 6, 7])]
theorem y183_ok : FnE.OK Tryz.prog (Env.gam e0) 183 y183 := execFnC_ok g33_good hmix Tryz.func183 Tryz.call183 (by decide +kernel) rfl
noncomputable def g34 : Env := g33.add 183 y183
theorem g34_good : g34.Good := Env.Good.add g33_good y183_ok
noncomputable def g35 : Env := g34.addX 212 xIndexByte
theorem g35_good : g35.Good := Env.Good.addX g34_good (xIndexByte_ok Tryz.func212 rfl (by decide +kernel) (by kernel_rfl) (by kernel_rfl))
/-- internal/stringslite.IndexByte -/
noncomputable def y202 : FnE := execFnC g35 Tryz.f202 4 []
theorem y202_ok : FnE.OK Tryz.prog (Env.gam e0) 202 y202 := execFnC_ok g35_good hmix Tryz.func202 Tryz.call202 (by decide +kernel) rfl
noncomputable def g36 : Env := g35.add 202 y202
theorem g36_good : g36.Good := Env.Good.add g35_good y202_ok
/-- internal/bytealg.Cutover -/
noncomputable def y204 : FnE := execFnC g36 Tryz.f204 3 []
theorem y204_ok : FnE.OK Tryz.prog (Env.gam e0) 204 y204 := execFnC_ok g36_good hmix Tryz.func204 Tryz.call204 (by decide +kernel) rfl
noncomputable def g37 : Env := g36.add 204 y204
theorem g37_good : g37.Good := Env.Good.add g36_good y204_ok
/-- internal/bytealg.hashStr[string] -/
noncomputable def y213 : FnE := execFnC g37 Tryz.f213 6 [(3, [0, 4, 5]), (8, [4, 6, 7, 8])]
theorem y213_ok : FnE.OK Tryz.prog (Env.gam e0) 213 y213 := execFnC_ok g37_good hmix Tryz.func213 Tryz.call213 (by decide +kernel) rfl
noncomputable def g38 : Env := g37.add 213 y213
theorem g38_good : g38.Good := Env.Good.add g37_good y213_ok
/-- internal/bytealg.IndexRabinKarp[string] -/
noncomputable def y205 : FnE := execFnC g38 Tryz.f205 7 [(5, [0, 1, 5, 6, 7, 8, 9]), (11, [0, 1, 5, 6, 7, 8, 10])]
theorem y205_ok : FnE.OK Tryz.prog (Env.gam e0) 205 y205 := execFnC_ok g38_good hmix Tryz.func205 Tryz.call205 (by decide +kernel) rfl
noncomputable def g39 : Env := g38.add 205 y205
theorem g39_good : g39.Good := Env.Good.add g38_good y205_ok
/-- internal/stringslite.Index -/
noncomputable def y186 : FnE := execFnC g39 Tryz.f186 8 [(15, [0, 1, 5, 6, 7, 8, 9, 10])]
theorem y186_ok : FnE.OK Tryz.prog (Env.gam e0) 186 y186 := execFnC_ok g39_good hmix Tryz.func186 Tryz.call186 (by decide +kernel) rfl
noncomputable def g40 : Env := g39.add 186 y186
theorem g40_good : g40.Good := Env.Good.add g39_good y186_ok
/-- strings.Index -/
noncomputable def y185 : FnE := execFnC g40 Tryz.f185 4 []
theorem y185_ok : FnE.OK Tryz.prog (Env.gam e0) 185 y185 := execFnC_ok g40_good hmix Tryz.func185 Tryz.call185 (by decide +kernel) rfl
noncomputable def g41 : Env := g40.add 185 y185
theorem g41_good : g41.Good := Env.Good.add g40_good y185_ok
noncomputable def g42 : Env := g41.addX 201 xCount
theorem g42_good : g42.Good := Env.Good.addX g41_good (xCount_ok Tryz.func201 rfl (by decide +kernel) (by kernel_rfl) (by kernel_rfl))
/-- strings.Count -/
noncomputable def y184 : FnE := execFnC g42 Tryz.f184 6 [(6, [0, 1, 5])]
theorem y184_ok : FnE.OK Tryz.prog (Env.gam e0) 184 y184 := execFnC_ok g42_good hmix Tryz.func184 Tryz.call184 (by decide +kernel) rfl
noncomputable def g43 : Env := g42.add 184 y184
theorem g43_good : g43.Good := Env.Good.add g42_good y184_ok
/-- strings.genSplit -/
noncomputable def y153 : FnE := execFnC g43 Tryz.f153 7 [(11, [0, 1, 2, 3, 9, 10])]
theorem y153_ok : FnE.OK Tryz.prog (Env.gam e0) 153 y153 := execFnC_ok g43_good hmix Tryz.func153 Tryz.call153 (by decide +kernel) rfl
noncomputable def g44 : Env := g43.add 153 y153
theorem g44_good : g44.Good := Env.Good.add g43_good y153_ok
/-- strings.Split -/
noncomputable def y118 : FnE := execFnC g44 Tryz.f118 4 []
theorem y118_ok : FnE.OK Tryz.prog (Env.gam e0) 118 y118 := execFnC_ok g44_good hmix Tryz.func118 Tryz.call118 (by decide +kernel) rfl
noncomputable def g45 : Env := g44.add 118 y118
theorem g45_good : g45.Good := Env.Good.add g44_good y118_ok
/-- mandrel/schema.Then$1 -/
noncomputable def y128 : FnE := execFnC g45 Tryz.f128 3 []
theorem y128_ok : FnE.OK Tryz.prog (Env.gam e0) 128 y128 := execFnC_ok g45_good hmix Tryz.func128 Tryz.call128 (by decide +kernel) rfl
noncomputable def g46 : Env := g45.add 128 y128
theorem g46_good : g46.Good := Env.Good.add g45_good y128_ok
/-- slices.IndexFunc[[]string,string] -/
noncomputable def y119 : FnE := execFnC g46 Tryz.f119 5 [(2, [0, 1, 7, 8])]
theorem y119_ok : FnE.OK Tryz.prog (Env.gam e0) 119 y119 := execFnC_ok g46_good hmix Tryz.func119 Tryz.call119 (by decide +kernel) rfl
noncomputable def g47 : Env := g46.add 119 y119
theorem g47_good : g47.Good := Env.Good.add g46_good y119_ok
/-- mandrel/schema.kindOf -/
noncomputable def y122 : FnE := execFnC g47 Tryz.f122 4 []
theorem y122_ok : FnE.OK Tryz.prog (Env.gam e0) 122 y122 := execFnC_ok g47_good hmix Tryz.func122 Tryz.call122 (by decide +kernel) rfl
noncomputable def g48 : Env := g47.add 122 y122
theorem g48_good : g48.Good := Env.Good.add g47_good y122_ok
/-- slices.ContainsFunc[[]mandrel/api.Attr,mandrel/api.Attr] -/
noncomputable def y123 : FnE := execFnC g48 Tryz.f123 4 []
theorem y123_ok : FnE.OK Tryz.prog (Env.gam e0) 123 y123 := execFnC_ok g48_good hmix Tryz.func123 Tryz.call123 (by decide +kernel) rfl
noncomputable def g49 : Env := g48.add 123 y123
theorem g49_good : g49.Good := Env.Good.add g48_good y123_ok
/-- internal/stringslite.Cut -/
noncomputable def y155 : FnE := execFnC g49 Tryz.f155 5 []
theorem y155_ok : FnE.OK Tryz.prog (Env.gam e0) 155 y155 := execFnC_ok g49_good hmix Tryz.func155 Tryz.call155 (by decide +kernel) rfl
noncomputable def g50 : Env := g49.add 155 y155
theorem g50_good : g50.Good := Env.Good.add g49_good y155_ok
/-- strings.Cut -/
noncomputable def y125 : FnE := execFnC g50 Tryz.f125 4 []
theorem y125_ok : FnE.OK Tryz.prog (Env.gam e0) 125 y125 := execFnC_ok g50_good hmix Tryz.func125 Tryz.call125 (by decide +kernel) rfl
noncomputable def g51 : Env := g50.add 125 y125
theorem g51_good : g51.Good := Env.Good.add g50_good y125_ok
/-- internal/stringslite.HasSuffix -/
noncomputable def y156 : FnE := execFnC g51 Tryz.f156 5 []
theorem y156_ok : FnE.OK Tryz.prog (Env.gam e0) 156 y156 := execFnC_ok g51_good hmix Tryz.func156 Tryz.call156 (by decide +kernel) rfl
noncomputable def g52 : Env := g51.add 156 y156
theorem g52_good : g52.Good := Env.Good.add g51_good y156_ok
/-- strings.HasSuffix -/
noncomputable def y126 : FnE := execFnC g52 Tryz.f126 4 []
theorem y126_ok : FnE.OK Tryz.prog (Env.gam e0) 126 y126 := execFnC_ok g52_good hmix Tryz.func126 Tryz.call126 (by decide +kernel) rfl
noncomputable def g53 : Env := g52.add 126 y126
theorem g53_good : g53.Good := Env.Good.add g52_good y126_ok
/-- mandrel/schema.attrs -/
noncomputable def y86 : FnE := execFnC g53 Tryz.f86 7 [(3, [2, 5, 20, 21, 22]), (14, [2, 63, 64, 65])]
theorem y86_ok : FnE.OK Tryz.prog (Env.gam e0) 86 y86 := execFnC_ok g53_good hmix Tryz.func86 Tryz.call86 (by decide +kernel) rfl
noncomputable def g54 : Env := g53.add 86 y86
theorem g54_good : g54.Good := Env.Good.add g53_good y86_ok
/-- slices.ContainsFunc[[]string,string] -/
noncomputable def y127 : FnE := execFnC g54 Tryz.f127 4 []
theorem y127_ok : FnE.OK Tryz.prog (Env.gam e0) 127 y127 := execFnC_ok g54_good hmix Tryz.func127 Tryz.call127 (by decide +kernel) rfl
noncomputable def g55 : Env := g54.add 127 y127
theorem g55_good : g55.Good := Env.Good.add g54_good y127_ok
/-- mandrel/schema.Then -/
noncomputable def y87 : FnE := execFnC g55 Tryz.f87 5 []
theorem y87_ok : FnE.OK Tryz.prog (Env.gam e0) 87 y87 := execFnC_ok g55_good hmix Tryz.func87 Tryz.call87 (by decide +kernel) rfl
noncomputable def g56 : Env := g55.add 87 y87
theorem g56_good : g56.Good := Env.Good.add g55_good y87_ok
/-- mandrel/schema.Check -/
noncomputable def g57 : Env := g56.add 63 (treeElse sckV x63)
theorem g57_good : g57.Good := Env.Good.add g56_good (treeElse_ok sckV_ok x63_ok)
/-- mandrel/schema.Int -/
noncomputable def y31 : FnE := execFnC g57 Tryz.f31 5 []
theorem y31_ok : FnE.OK Tryz.prog (Env.gam e0) 31 y31 := execFnC_ok g57_good hmix Tryz.func31 Tryz.call31 (by decide +kernel) rfl
noncomputable def g58 : Env := g57.add 31 y31
theorem g58_good : g58.Good := Env.Good.add g57_good y31_ok
/-- mandrel/num.whole -/
noncomputable def y100 : FnE := execFnC g58 Tryz.f100 4 []
theorem y100_ok : FnE.OK Tryz.prog (Env.gam e0) 100 y100 := execFnC_ok g58_good hmix Tryz.func100 Tryz.call100 (by decide +kernel) rfl
noncomputable def g59 : Env := g58.add 100 y100
theorem g59_good : g59.Good := Env.Good.add g58_good y100_ok
/-- mandrel/num.flag -/
noncomputable def y104 : FnE := execFnC g59 Tryz.f104 3 []
theorem y104_ok : FnE.OK Tryz.prog (Env.gam e0) 104 y104 := execFnC_ok g59_good hmix Tryz.func104 Tryz.call104 (by decide +kernel) rfl
noncomputable def g60 : Env := g59.add 104 y104
theorem g60_good : g60.Good := Env.Good.add g59_good y104_ok
/-- mandrel/num.cut -/
noncomputable def y108 : FnE := execFnC g60 Tryz.f108 4 []
theorem y108_ok : FnE.OK Tryz.prog (Env.gam e0) 108 y108 := execFnC_ok g60_good hmix Tryz.func108 Tryz.call108 (by decide +kernel) rfl
noncomputable def g61 : Env := g60.add 108 y108
theorem g61_good : g61.Good := Env.Good.add g60_good y108_ok
/-- mandrel/num.wholes -/
noncomputable def y101 : FnE := execFnC g61 Tryz.f101 7 []
theorem y101_ok : FnE.OK Tryz.prog (Env.gam e0) 101 y101 := execFnC_ok g61_good hmix Tryz.func101 Tryz.call101 (by decide +kernel) rfl
noncomputable def g62 : Env := g61.add 101 y101
theorem g62_good : g62.Good := Env.Good.add g61_good y101_ok
noncomputable def g63 : Env := g62.addX 148 (xBits .f32 .u32)
theorem g63_good : g63.Good := Env.Good.addX g62_good (xBits_ok (row := Extern.MathFloatBits.float32bits) (fun _ => rfl) Tryz.func148 rfl (by decide +kernel) (by kernel_rfl) (by kernel_rfl))
/-- mandrel/num.bitsOf -/
noncomputable def y105 : FnE := execFnC g63 Tryz.f105 4 []
theorem y105_ok : FnE.OK Tryz.prog (Env.gam e0) 105 y105 := execFnC_ok g63_good hmix Tryz.func105 Tryz.call105 (by decide +kernel) rfl
noncomputable def g64 : Env := g63.add 105 y105
theorem g64_good : g64.Good := Env.Good.add g63_good y105_ok
noncomputable def g65 : Env := g64.addX 149 (xFrombits .f32 .u32)
theorem g65_good : g65.Good := Env.Good.addX g64_good (xFrombits_ok (row := Extern.MathFloatBits.float32frombits) (fun _ => rfl) Tryz.func149 rfl (by decide +kernel) (by kernel_rfl) (by kernel_rfl))
/-- mandrel/num.number -/
noncomputable def y107 : FnE := execFnC g65 Tryz.f107 3 []
theorem y107_ok : FnE.OK Tryz.prog (Env.gam e0) 107 y107 := execFnC_ok g65_good hmix Tryz.func107 Tryz.call107 (by decide +kernel) rfl
noncomputable def g66 : Env := g65.add 107 y107
theorem g66_good : g66.Good := Env.Good.add g65_good y107_ok
/-- mandrel/num.floats -/
noncomputable def y102 : FnE := execFnC g66 Tryz.f102 7 []
theorem y102_ok : FnE.OK Tryz.prog (Env.gam e0) 102 y102 := execFnC_ok g66_good hmix Tryz.func102 Tryz.call102 (by decide +kernel) rfl
noncomputable def g67 : Env := g66.add 102 y102
theorem g67_good : g67.Good := Env.Good.add g66_good y102_ok
/-- mandrel/num.Binary -/
noncomputable def y72 : FnE := execFnC g67 Tryz.f72 7 []
theorem y72_ok : FnE.OK Tryz.prog (Env.gam e0) 72 y72 := execFnC_ok g67_good hmix Tryz.func72 Tryz.call72 (by decide +kernel) rfl
noncomputable def g68 : Env := g67.add 72 y72
theorem g68_good : g68.Good := Env.Good.add g67_good y72_ok
/-- (mandrel/infer.maker).constant -/
noncomputable def y88 : FnE := execFnC g68 Tryz.f88 4 []
theorem y88_ok : FnE.OK Tryz.prog (Env.gam e0) 88 y88 := execFnC_ok g68_good hmix Tryz.func88 Tryz.call88 (by decide +kernel) rfl
noncomputable def g69 : Env := g68.add 88 y88
theorem g69_good : g69.Good := Env.Good.add g68_good y88_ok
/-- math.Sqrt -/
noncomputable def y157 : FnE := execFnC g69 Tryz.f157 3 []
theorem y157_ok : FnE.OK Tryz.prog (Env.gam e0) 157 y157 := execFnC_ok g69_good hmix Tryz.func157 Tryz.call157 (by decide +kernel) rfl
noncomputable def g70 : Env := g69.add 157 y157
theorem g70_good : g70.Good := Env.Good.add g69_good y157_ok
/-- math.IsNaN -/
noncomputable def y206 : FnE := execFnC g70 Tryz.f206 3 []
theorem y206_ok : FnE.OK Tryz.prog (Env.gam e0) 206 y206 := execFnC_ok g70_good hmix Tryz.func206 Tryz.call206 (by decide +kernel) rfl
noncomputable def g71 : Env := g70.add 206 y206
theorem g71_good : g71.Good := Env.Good.add g70_good y206_ok
noncomputable def g72 : Env := g71.addX 190 (xFrombits .f64 .u64)
theorem g72_good : g72.Good := Env.Good.addX g71_good (xFrombits_ok (row := Extern.MathFloatBits.float64frombits) (fun _ => rfl) Tryz.func190 rfl (by decide +kernel) (by kernel_rfl) (by kernel_rfl))
noncomputable def g73 : Env := g72.addX 217 (xBits .f64 .u64)
theorem g73_good : g73.Good := Env.Good.addX g72_good (xBits_ok (row := Extern.MathFloatBits.float64bits) (fun _ => rfl) Tryz.func217 rfl (by decide +kernel) (by kernel_rfl) (by kernel_rfl))
/-- math.Abs -/
noncomputable def y214 : FnE := execFnC g73 Tryz.f214 3 []
theorem y214_ok : FnE.OK Tryz.prog (Env.gam e0) 214 y214 := execFnC_ok g73_good hmix Tryz.func214 Tryz.call214 (by decide +kernel) rfl
noncomputable def g74 : Env := g73.add 214 y214
theorem g74_good : g74.Good := Env.Good.add g73_good y214_ok
/-- math.IsInf -/
noncomputable def y207 : FnE := execFnC g74 Tryz.f207 4 []
theorem y207_ok : FnE.OK Tryz.prog (Env.gam e0) 207 y207 := execFnC_ok g74_good hmix Tryz.func207 Tryz.call207 (by decide +kernel) rfl
noncomputable def g75 : Env := g74.add 207 y207
theorem g75_good : g75.Good := Env.Good.add g74_good y207_ok
/-- math.Copysign -/
noncomputable def y216 : FnE := execFnC g75 Tryz.f216 4 []
theorem y216_ok : FnE.OK Tryz.prog (Env.gam e0) 216 y216 := execFnC_ok g75_good hmix Tryz.func216 Tryz.call216 (by decide +kernel) rfl
noncomputable def g76 : Env := g75.add 216 y216
theorem g76_good : g76.Good := Env.Good.add g75_good y216_ok
/-- math.trunc -/
noncomputable def y219 : FnE := execFnC g76 Tryz.f219 5 []
theorem y219_ok : FnE.OK Tryz.prog (Env.gam e0) 219 y219 := execFnC_ok g76_good hmix Tryz.func219 Tryz.call219 (by decide +kernel) rfl
noncomputable def g77 : Env := g76.add 219 y219
theorem g77_good : g77.Good := Env.Good.add g76_good y219_ok
/-- math.Trunc -/
noncomputable def y215 : FnE := execFnC g77 Tryz.f215 3 []
theorem y215_ok : FnE.OK Tryz.prog (Env.gam e0) 215 y215 := execFnC_ok g77_good hmix Tryz.func215 Tryz.call215 (by decide +kernel) rfl
noncomputable def g78 : Env := g77.add 215 y215
theorem g78_good : g78.Good := Env.Good.add g77_good y215_ok
/-- math.Modf -/
noncomputable def y208 : FnE := execFnC g78 Tryz.f208 4 []
theorem y208_ok : FnE.OK Tryz.prog (Env.gam e0) 208 y208 := execFnC_ok g78_good hmix Tryz.func208 Tryz.call208 (by decide +kernel) rfl
noncomputable def g79 : Env := g78.add 208 y208
theorem g79_good : g79.Good := Env.Good.add g78_good y208_ok
/-- math.floor -/
noncomputable def y189 : FnE := execFnC g79 Tryz.f189 6 []
theorem y189_ok : FnE.OK Tryz.prog (Env.gam e0) 189 y189 := execFnC_ok g79_good hmix Tryz.func189 Tryz.call189 (by decide +kernel) rfl
noncomputable def g80 : Env := g79.add 189 y189
theorem g80_good : g80.Good := Env.Good.add g79_good y189_ok
/-- math.Floor -/
noncomputable def y158 : FnE := execFnC g80 Tryz.f158 3 []
theorem y158_ok : FnE.OK Tryz.prog (Env.gam e0) 158 y158 := execFnC_ok g80_good hmix Tryz.func158 Tryz.call158 (by decide +kernel) rfl
noncomputable def g81 : Env := g80.add 158 y158
theorem g81_good : g81.Good := Env.Good.add g80_good y158_ok
/-- mandrel/num.exp -/
noncomputable def y159 : FnE := execFnC g81 Tryz.f159 6 [(12, [4, 5, 6, 7])]
theorem y159_ok : FnE.OK Tryz.prog (Env.gam e0) 159 y159 := execFnC_ok g81_good hmix Tryz.func159 Tryz.call159 (by decide +kernel) rfl
noncomputable def g82 : Env := g81.add 159 y159
theorem g82_good : g82.Good := Env.Good.add g81_good y159_ok
/-- mandrel/num.sigmoid -/
noncomputable def y160 : FnE := execFnC g82 Tryz.f160 4 []
theorem y160_ok : FnE.OK Tryz.prog (Env.gam e0) 160 y160 := execFnC_ok g82_good hmix Tryz.func160 Tryz.call160 (by decide +kernel) rfl
noncomputable def g83 : Env := g82.add 160 y160
theorem g83_good : g83.Good := Env.Good.add g82_good y160_ok
/-- mandrel/num.tanh -/
noncomputable def y161 : FnE := execFnC g83 Tryz.f161 6 []
theorem y161_ok : FnE.OK Tryz.prog (Env.gam e0) 161 y161 := execFnC_ok g83_good hmix Tryz.func161 Tryz.call161 (by decide +kernel) rfl
noncomputable def g84 : Env := g83.add 161 y161
theorem g84_good : g84.Good := Env.Good.add g83_good y161_ok
/-- mandrel/num.ofFloat -/
noncomputable def y130 : FnE := execFnC g84 Tryz.f130 6 []
theorem y130_ok : FnE.OK Tryz.prog (Env.gam e0) 130 y130 := execFnC_ok g84_good hmix Tryz.func130 Tryz.call130 (by decide +kernel) rfl
noncomputable def g85 : Env := g84.add 130 y130
theorem g85_good : g85.Good := Env.Good.add g84_good y130_ok
/-- mandrel/num.Unary -/
noncomputable def y89 : FnE := execFnC g85 Tryz.f89 7 []
theorem y89_ok : FnE.OK Tryz.prog (Env.gam e0) 89 y89 := execFnC_ok g85_good hmix Tryz.func89 Tryz.call89 (by decide +kernel) rfl
noncomputable def g86 : Env := g85.add 89 y89
theorem g86_good : g86.Good := Env.Good.add g85_good y89_ok
/-- (mandrel/infer.maker).alike$1 -/
noncomputable def y132 : FnE := execFnC g86 Tryz.f132 4 []
theorem y132_ok : FnE.OK Tryz.prog (Env.gam e0) 132 y132 := execFnC_ok g86_good hmix Tryz.func132 Tryz.call132 (by decide +kernel) rfl
noncomputable def g87 : Env := g86.add 132 y132
theorem g87_good : g87.Good := Env.Good.add g86_good y132_ok
/-- slices.IndexFunc[[]mandrel/api.Value,mandrel/api.Value] -/
noncomputable def y162 : FnE := execFnC g87 Tryz.f162 5 [(2, [0, 1, 7, 8])]
theorem y162_ok : FnE.OK Tryz.prog (Env.gam e0) 162 y162 := execFnC_ok g87_good hmix Tryz.func162 Tryz.call162 (by decide +kernel) rfl
noncomputable def g88 : Env := g87.add 162 y162
theorem g88_good : g88.Good := Env.Good.add g87_good y162_ok
/-- slices.ContainsFunc[[]mandrel/api.Value,mandrel/api.Value] -/
noncomputable def y131 : FnE := execFnC g88 Tryz.f131 4 []
theorem y131_ok : FnE.OK Tryz.prog (Env.gam e0) 131 y131 := execFnC_ok g88_good hmix Tryz.func131 Tryz.call131 (by decide +kernel) rfl
noncomputable def g89 : Env := g88.add 131 y131
theorem g89_good : g89.Good := Env.Good.add g88_good y131_ok
/-- (mandrel/infer.maker).alike -/
noncomputable def y90 : FnE := execFnC g89 Tryz.f90 4 []
theorem y90_ok : FnE.OK Tryz.prog (Env.gam e0) 90 y90 := execFnC_ok g89_good hmix Tryz.func90 Tryz.call90 (by decide +kernel) rfl
noncomputable def g90 : Env := g89.add 90 y90
theorem g90_good : g90.Good := Env.Good.add g89_good y90_ok
/-- (mandrel/infer.maker).typ -/
noncomputable def y65 : FnE := execFnC g90 Tryz.f65 8 []
theorem y65_ok : FnE.OK Tryz.prog (Env.gam e0) 65 y65 := execFnC_ok g90_good hmix Tryz.func65 Tryz.call65 (by decide +kernel) rfl
noncomputable def g91 : Env := g90.add 65 y65
theorem g91_good : g91.Good := Env.Good.add g90_good y65_ok
/-- slices.Equal[[]int,int] -/
noncomputable def y41 : FnE := execFnC g91 Tryz.f41 5 [(4, [0, 1, 12, 13])]
theorem y41_ok : FnE.OK Tryz.prog (Env.gam e0) 41 y41 := execFnC_ok g91_good hmix Tryz.func41 Tryz.call41 (by decide +kernel) rfl
noncomputable def g92 : Env := g91.add 41 y41
theorem g92_good : g92.Good := Env.Good.add g91_good y41_ok
/-- slices.Clone[[]int,int] -/
noncomputable def bb68 : FnE := execFnC g92 Tryz.f68 4 []
noncomputable def y68 : FnE := cloneE bb68
theorem y68_ok : FnE.OK Tryz.prog (Env.gam e0) 68 y68 := cloneE_ok (execFnC_ok g92_good hmix Tryz.func68 Tryz.call68 (by decide +kernel) rfl) Tryz.call68 cn68 ce68
noncomputable def g93 : Env := g92.add 68 y68
theorem g93_good : g93.Good := Env.Good.add g92_good y68_ok
/-- mandrel/shape.Broadcast -/
noncomputable def y40 : FnE := execFnC g93 Tryz.f40 7 [(2, [0, 1, 18, 19, 20]), (13, [1, 10, 11, 48, 49])]
theorem y40_ok : FnE.OK Tryz.prog (Env.gam e0) 40 y40 := execFnC_ok g93_good hmix Tryz.func40 Tryz.call40 (by decide +kernel) rfl
noncomputable def g94 : Env := g93.add 40 y40
theorem g94_good : g94.Good := Env.Good.add g93_good y40_ok
/-- mandrel/infer.spread -/
noncomputable def y91 : FnE := execFnC g94 Tryz.f91 5 []
theorem y91_ok : FnE.OK Tryz.prog (Env.gam e0) 91 y91 := execFnC_ok g94_good hmix Tryz.func91 Tryz.call91 (by decide +kernel) rfl
noncomputable def g95 : Env := g94.add 91 y91
theorem g95_good : g95.Good := Env.Good.add g94_good y91_ok
/-- mandrel/infer.axis -/
noncomputable def y92 : FnE := execFnC g95 Tryz.f92 5 []
theorem y92_ok : FnE.OK Tryz.prog (Env.gam e0) 92 y92 := execFnC_ok g95_good hmix Tryz.func92 Tryz.call92 (by decide +kernel) rfl
noncomputable def g96 : Env := g95.add 92 y92
theorem g96_good : g96.Good := Env.Good.add g95_good y92_ok
/-- slices.Clone[[]int64,int64] -/
noncomputable def bb15 : FnE := execFnC g96 Tryz.f15 4 []
noncomputable def y15 : FnE := cloneE bb15
theorem y15_ok : FnE.OK Tryz.prog (Env.gam e0) 15 y15 := cloneE_ok (execFnC_ok g96_good hmix Tryz.func15 Tryz.call15 (by decide +kernel) rfl) Tryz.call15 cn15 ce15
noncomputable def g97 : Env := g96.add 15 y15
theorem g97_good : g97.Good := Env.Good.add g96_good y15_ok
/-- mandrel/schema.Ints -/
noncomputable def y11 : FnE := execFnC g97 Tryz.f11 5 []
theorem y11_ok : FnE.OK Tryz.prog (Env.gam e0) 11 y11 := execFnC_ok g97_good hmix Tryz.func11 Tryz.call11 (by decide +kernel) rfl
noncomputable def g98 : Env := g97.add 11 y11
theorem g98_good : g98.Good := Env.Good.add g97_good y11_ok
/-- mandrel/infer.upTo -/
noncomputable def y133 : FnE := execFnC g98 Tryz.f133 4 [(3, [3, 5, 6])]
theorem y133_ok : FnE.OK Tryz.prog (Env.gam e0) 133 y133 := execFnC_ok g98_good hmix Tryz.func133 Tryz.call133 (by decide +kernel) rfl
noncomputable def g99 : Env := g98.add 133 y133
theorem g99_good : g99.Good := Env.Good.add g98_good y133_ok
/-- slices.Index[[]int,int] -/
noncomputable def y163 : FnE := execFnC g99 Tryz.f163 5 [(2, [0, 1, 7, 8])]
theorem y163_ok : FnE.OK Tryz.prog (Env.gam e0) 163 y163 := execFnC_ok g99_good hmix Tryz.func163 Tryz.call163 (by decide +kernel) rfl
noncomputable def g100 : Env := g99.add 163 y163
theorem g100_good : g100.Good := Env.Good.add g99_good y163_ok
/-- slices.Contains[[]int,int] -/
noncomputable def y135 : FnE := execFnC g100 Tryz.f135 4 []
theorem y135_ok : FnE.OK Tryz.prog (Env.gam e0) 135 y135 := execFnC_ok g100_good hmix Tryz.func135 Tryz.call135 (by decide +kernel) rfl
noncomputable def g101 : Env := g100.add 135 y135
theorem g101_good : g101.Good := Env.Good.add g100_good y135_ok
/-- mandrel/infer.axes -/
noncomputable def y134 : FnE := execFnC g101 Tryz.f134 5 [(3, [1, 5, 9, 10, 11])]
theorem y134_ok : FnE.OK Tryz.prog (Env.gam e0) 134 y134 := execFnC_ok g101_good hmix Tryz.func134 Tryz.call134 (by decide +kernel) rfl
noncomputable def g102 : Env := g101.add 134 y134
theorem g102_good : g102.Good := Env.Good.add g101_good y134_ok
/-- (mandrel/infer.maker).reduced -/
noncomputable def y93 : FnE := execFnC g102 Tryz.f93 6 [(9, [6, 7, 8, 39, 40, 41])]
theorem y93_ok : FnE.OK Tryz.prog (Env.gam e0) 93 y93 := execFnC_ok g102_good hmix Tryz.func93 Tryz.call93 (by decide +kernel) rfl
noncomputable def g103 : Env := g102.add 93 y93
theorem g103_good : g103.Good := Env.Good.add g102_good y93_ok
/-- mandrel/infer.product -/
noncomputable def y94 : FnE := execFnC g103 Tryz.f94 6 []
theorem y94_ok : FnE.OK Tryz.prog (Env.gam e0) 94 y94 := execFnC_ok g103_good hmix Tryz.func94 Tryz.call94 (by decide +kernel) rfl
noncomputable def g104 : Env := g103.add 94 y94
theorem g104_good : g104.Good := Env.Good.add g103_good y94_ok
/-- (mandrel/infer.maker).turned -/
noncomputable def y136 : FnE := execFnC g104 Tryz.f136 6 []
theorem y136_ok : FnE.OK Tryz.prog (Env.gam e0) 136 y136 := execFnC_ok g104_good hmix Tryz.func136 Tryz.call136 (by decide +kernel) rfl
noncomputable def g105 : Env := g104.add 136 y136
theorem g105_good : g105.Good := Env.Good.add g104_good y136_ok
/-- (mandrel/infer.maker).gemm -/
noncomputable def y95 : FnE := execFnC g105 Tryz.f95 6 []
theorem y95_ok : FnE.OK Tryz.prog (Env.gam e0) 95 y95 := execFnC_ok g105_good hmix Tryz.func95 Tryz.call95 (by decide +kernel) rfl
noncomputable def g106 : Env := g105.add 95 y95
theorem g106_good : g106.Good := Env.Good.add g105_good y95_ok
/-- mandrel/infer.numbers -/
noncomputable def y138 : FnE := execFnC g106 Tryz.f138 6 [(4, [3, 4, 5, 14, 21, 22, 23])]
theorem y138_ok : FnE.OK Tryz.prog (Env.gam e0) 138 y138 := execFnC_ok g106_good hmix Tryz.func138 Tryz.call138 (by decide +kernel) rfl
noncomputable def g107 : Env := g106.add 138 y138
theorem g107_good : g107.Good := Env.Good.add g106_good y138_ok
/-- (mandrel/infer.maker).window -/
noncomputable def y137 : FnE := execFnC g107 Tryz.f137 5 []
theorem y137_ok : FnE.OK Tryz.prog (Env.gam e0) 137 y137 := execFnC_ok g107_good hmix Tryz.func137 Tryz.call137 (by decide +kernel) rfl
noncomputable def g108 : Env := g107.add 137 y137
theorem g108_good : g108.Good := Env.Good.add g107_good y137_ok
/-- (mandrel/infer.maker).conv -/
noncomputable def y96 : FnE := execFnC g108 Tryz.f96 7 []
theorem y96_ok : FnE.OK Tryz.prog (Env.gam e0) 96 y96 := execFnC_ok g108_good hmix Tryz.func96 Tryz.call96 (by decide +kernel) rfl
noncomputable def g109 : Env := g108.add 96 y96
theorem g109_good : g109.Good := Env.Good.add g108_good y96_ok
/-- (mandrel/infer.maker).pool -/
noncomputable def y97 : FnE := execFnC g109 Tryz.f97 6 [(5, [1, 5, 6, 7, 26, 27, 28])]
theorem y97_ok : FnE.OK Tryz.prog (Env.gam e0) 97 y97 := execFnC_ok g109_good hmix Tryz.func97 Tryz.call97 (by decide +kernel) rfl
noncomputable def g110 : Env := g109.add 97 y97
theorem g110_good : g110.Good := Env.Good.add g109_good y97_ok
/-- mandrel/infer.count -/
noncomputable def y165 : FnE := execFnC g110 Tryz.f165 4 []
theorem y165_ok : FnE.OK Tryz.prog (Env.gam e0) 165 y165 := execFnC_ok g110_good hmix Tryz.func165 Tryz.call165 (by decide +kernel) rfl
noncomputable def g111 : Env := g110.add 165 y165
theorem g111_good : g111.Good := Env.Good.add g110_good y165_ok
/-- (mandrel/infer.maker).reshape -/
noncomputable def y139 : FnE := execFnC g111 Tryz.f139 7 [(4, [1, 5, 6, 7, 13, 14, 15])]
theorem y139_ok : FnE.OK Tryz.prog (Env.gam e0) 139 y139 := execFnC_ok g111_good hmix Tryz.func139 Tryz.call139 (by decide +kernel) rfl
noncomputable def g112 : Env := g111.add 139 y139
theorem g112_good : g112.Good := Env.Good.add g111_good y139_ok
/-- slices.Reverse[[]int64,int64] -/
noncomputable def y166 : FnE := execFnC g112 Tryz.f166 5 [(1, [0, 2, 3])]
theorem y166_ok : FnE.OK Tryz.prog (Env.gam e0) 166 y166 := execFnC_ok g112_good hmix Tryz.func166 Tryz.call166 (by decide +kernel) rfl
noncomputable def g113 : Env := g112.add 166 y166
theorem g113_good : g113.Good := Env.Good.add g112_good y166_ok
/-- (mandrel/infer.maker).transpose -/
noncomputable def y140 : FnE := execFnC g113 Tryz.f140 6 [(6, [1, 6, 7, 24, 25, 26])]
theorem y140_ok : FnE.OK Tryz.prog (Env.gam e0) 140 y140 := execFnC_ok g113_good hmix Tryz.func140 Tryz.call140 (by decide +kernel) rfl
noncomputable def g114 : Env := g113.add 140 y140
theorem g114_good : g114.Good := Env.Good.add g113_good y140_ok
/-- (mandrel/infer.maker).concat -/
noncomputable def y141 : FnE := execFnC g114 Tryz.f141 6 [(4, [1, 5, 6, 21, 22, 23]), (8, [1, 5, 6, 21, 22, 23, 35, 36, 37])]
theorem y141_ok : FnE.OK Tryz.prog (Env.gam e0) 141 y141 := execFnC_ok g114_good hmix Tryz.func141 Tryz.call141 (by decide +kernel) rfl
noncomputable def g115 : Env := g114.add 141 y141
theorem g115_good : g115.Good := Env.Good.add g114_good y141_ok
/-- mandrel/infer.bound -/
noncomputable def y167 : FnE := execFnC g115 Tryz.f167 4 []
theorem y167_ok : FnE.OK Tryz.prog (Env.gam e0) 167 y167 := execFnC_ok g115_good hmix Tryz.func167 Tryz.call167 (by decide +kernel) rfl
noncomputable def g116 : Env := g115.add 167 y167
theorem g116_good : g116.Good := Env.Good.add g115_good y167_ok
/-- (mandrel/infer.maker).slice -/
noncomputable def y142 : FnE := execFnC g116 Tryz.f142 7 [(6, [1, 5, 6, 8, 41, 42, 43])]
theorem y142_ok : FnE.OK Tryz.prog (Env.gam e0) 142 y142 := execFnC_ok g116_good hmix Tryz.func142 Tryz.call142 (by decide +kernel) rfl
noncomputable def g117 : Env := g116.add 142 y142
theorem g117_good : g117.Good := Env.Good.add g116_good y142_ok
/-- slices.Grow[[]int,int] -/
noncomputable def y168 : FnE := execFnC g117 Tryz.f168 5 []
theorem y168_ok : FnE.OK Tryz.prog (Env.gam e0) 168 y168 := execFnC_ok g117_good hmix Tryz.func168 Tryz.call168 (by decide +kernel) rfl
noncomputable def g118 : Env := g117.add 168 y168
theorem g118_good : g118.Good := Env.Good.add g117_good y168_ok
/-- slices.Concat[[]int,int] -/
noncomputable def g119 : Env := g118.add 143 (treeElse catT x143)
theorem g119_good : g119.Good := Env.Good.add g118_good (treeElse_ok catT_ok x143_ok)
/-- (mandrel/infer.maker).pad -/
noncomputable def y144 : FnE := execFnC g119 Tryz.f144 6 [(4, [1, 5, 6, 17, 18])]
theorem y144_ok : FnE.OK Tryz.prog (Env.gam e0) 144 y144 := execFnC_ok g119_good hmix Tryz.func144 Tryz.call144 (by decide +kernel) rfl
noncomputable def g120 : Env := g119.add 144 y144
theorem g120_good : g120.Good := Env.Good.add g119_good y144_ok
/-- cmp.isNaN[int] -/
noncomputable def y198 : FnE := execFnC g120 Tryz.f198 3 []
theorem y198_ok : FnE.OK Tryz.prog (Env.gam e0) 198 y198 := execFnC_ok g120_good hmix Tryz.func198 Tryz.call198 (by decide +kernel) rfl
noncomputable def g121 : Env := g120.add 198 y198
theorem g121_good : g121.Good := Env.Good.add g120_good y198_ok
/-- cmp.Less[int] -/
noncomputable def y178 : FnE := execFnC g121 Tryz.f178 5 []
theorem y178_ok : FnE.OK Tryz.prog (Env.gam e0) 178 y178 := execFnC_ok g121_good hmix Tryz.func178 Tryz.call178 (by decide +kernel) rfl
noncomputable def g122 : Env := g121.add 178 y178
theorem g122_good : g122.Good := Env.Good.add g121_good y178_ok
/-- slices.insertionSortOrdered[int] -/
noncomputable def y172 : FnE := execFnC g122 Tryz.f172 6 [(1, [0, 1, 2, 6]), (4, [0, 1, 2, 6, 7])]
theorem y172_ok : FnE.OK Tryz.prog (Env.gam e0) 172 y172 := execFnC_ok g122_good hmix Tryz.func172 Tryz.call172 (by decide +kernel) rfl
noncomputable def g123 : Env := g122.add 172 y172
theorem g123_good : g123.Good := Env.Good.add g122_good y172_ok
/-- slices.siftDownOrdered[int] -/
noncomputable def y193 : FnE := execFnC g123 Tryz.f193 7 [(1, [0, 2, 3, 8])]
theorem y193_ok : FnE.OK Tryz.prog (Env.gam e0) 193 y193 := execFnC_ok g123_good hmix Tryz.func193 Tryz.call193 (by decide +kernel) rfl
noncomputable def g124 : Env := g123.add 193 y193
theorem g124_good : g124.Good := Env.Good.add g123_good y193_ok
/-- slices.heapSortOrdered[int] -/
noncomputable def y173 : FnE := execFnC g124 Tryz.f173 6 [(4, [0, 6, 7, 8, 9]), (8, [0, 6, 7, 10])]
theorem y173_ok : FnE.OK Tryz.prog (Env.gam e0) 173 y173 := execFnC_ok g124_good hmix Tryz.func173 Tryz.call173 (by decide +kernel) rfl
noncomputable def g125 : Env := g124.add 173 y173
theorem g125_good : g125.Good := Env.Good.add g124_good y173_ok
/-- math/bits.Len32 -/
noncomputable def y181 : FnE := execFnC g125 Tryz.f181 5 []
theorem y181_ok : FnE.OK Tryz.prog (Env.gam e0) 181 y181 := execFnC_ok g125_good hmix Tryz.func181 Tryz.call181 (by decide +kernel) rfl
noncomputable def g126 : Env := g125.add 181 y181
theorem g126_good : g126.Good := Env.Good.add g125_good y181_ok
/-- math/bits.Len64 -/
noncomputable def y182 : FnE := execFnC g126 Tryz.f182 5 []
theorem y182_ok : FnE.OK Tryz.prog (Env.gam e0) 182 y182 := execFnC_ok g126_good hmix Tryz.func182 Tryz.call182 (by decide +kernel) rfl
noncomputable def g127 : Env := g126.add 182 y182
theorem g127_good : g127.Good := Env.Good.add g126_good y182_ok
/-- math/bits.Len -/
noncomputable def y152 : FnE := execFnC g127 Tryz.f152 4 []
theorem y152_ok : FnE.OK Tryz.prog (Env.gam e0) 152 y152 := execFnC_ok g127_good hmix Tryz.func152 Tryz.call152 (by decide +kernel) rfl
noncomputable def g128 : Env := g127.add 152 y152
theorem g128_good : g128.Good := Env.Good.add g127_good y152_ok
/-- slices.nextPowerOfTwo -/
noncomputable def y194 : FnE := execFnC g128 Tryz.f194 3 []
theorem y194_ok : FnE.OK Tryz.prog (Env.gam e0) 194 y194 := execFnC_ok g128_good hmix Tryz.func194 Tryz.call194 (by decide +kernel) rfl
noncomputable def g129 : Env := g128.add 194 y194
theorem g129_good : g129.Good := Env.Good.add g128_good y194_ok
/-- (*slices.xorshift).Next -/
noncomputable def y195 : FnE := execFnC g129 Tryz.f195 6 []
theorem y195_ok : FnE.OK Tryz.prog (Env.gam e0) 195 y195 := execFnC_ok g129_good hmix Tryz.func195 Tryz.call195 (by decide +kernel) rfl
noncomputable def g130 : Env := g129.add 195 y195
theorem g130_good : g130.Good := Env.Good.add g129_good y195_ok
/-- slices.breakPatternsOrdered[int] -/
noncomputable def y174 : FnE := execFnC g130 Tryz.f174 7 [(5, [0, 1, 6, 7, 8, 9])]
theorem y174_ok : FnE.OK Tryz.prog (Env.gam e0) 174 y174 := execFnC_ok g130_good hmix Tryz.func174 Tryz.call174 (by decide +kernel) rfl
noncomputable def g131 : Env := g130.add 174 y174
theorem g131_good : g131.Good := Env.Good.add g130_good y174_ok
/-- slices.order2Ordered[int] -/
noncomputable def y210 : FnE := execFnC g131 Tryz.f210 5 []
theorem y210_ok : FnE.OK Tryz.prog (Env.gam e0) 210 y210 := execFnC_ok g131_good hmix Tryz.func210 Tryz.call210 (by decide +kernel) rfl
noncomputable def g132 : Env := g131.add 210 y210
theorem g132_good : g132.Good := Env.Good.add g131_good y210_ok
/-- slices.medianOrdered[int] -/
noncomputable def y197 : FnE := execFnC g132 Tryz.f197 6 []
theorem y197_ok : FnE.OK Tryz.prog (Env.gam e0) 197 y197 := execFnC_ok g132_good hmix Tryz.func197 Tryz.call197 (by decide +kernel) rfl
noncomputable def g133 : Env := g132.add 197 y197
theorem g133_good : g133.Good := Env.Good.add g132_good y197_ok
/-- slices.medianAdjacentOrdered[int] -/
noncomputable def y196 : FnE := execFnC g133 Tryz.f196 4 []
theorem y196_ok : FnE.OK Tryz.prog (Env.gam e0) 196 y196 := execFnC_ok g133_good hmix Tryz.func196 Tryz.call196 (by decide +kernel) rfl
noncomputable def g134 : Env := g133.add 196 y196
theorem g134_good : g134.Good := Env.Good.add g133_good y196_ok
/-- slices.choosePivotOrdered[int] -/
noncomputable def y175 : FnE := execFnC g134 Tryz.f175 6 []
theorem y175_ok : FnE.OK Tryz.prog (Env.gam e0) 175 y175 := execFnC_ok g134_good hmix Tryz.func175 Tryz.call175 (by decide +kernel) rfl
noncomputable def g135 : Env := g134.add 175 y175
theorem g135_good : g135.Good := Env.Good.add g134_good y175_ok
/-- slices.reverseRangeOrdered[int] -/
noncomputable def y176 : FnE := execFnC g135 Tryz.f176 6 [(2, [0, 6, 7])]
theorem y176_ok : FnE.OK Tryz.prog (Env.gam e0) 176 y176 := execFnC_ok g135_good hmix Tryz.func176 Tryz.call176 (by decide +kernel) rfl
noncomputable def g136 : Env := g135.add 176 y176
theorem g136_good : g136.Good := Env.Good.add g135_good y176_ok
/-- slices.partialInsertionSortOrdered[int] -/
noncomputable def y177 : FnE := execFnC g136 Tryz.f177 8 [(3, [0, 1, 2, 7, 8]), (5, [0, 1, 2, 7, 8]), (14, [0, 1, 2, 7, 8, 9]), (20, [0, 1, 2, 7, 8, 10])]
theorem y177_ok : FnE.OK Tryz.prog (Env.gam e0) 177 y177 := execFnC_ok g136_good hmix Tryz.func177 Tryz.call177 (by decide +kernel) rfl
noncomputable def g137 : Env := g136.add 177 y177
theorem g137_good : g137.Good := Env.Good.add g136_good y177_ok
/-- slices.partitionEqualOrdered[int] -/
noncomputable def y179 : FnE := execFnC g137 Tryz.f179 7 [(3, [0, 1, 9, 10]), (3, [0, 1, 9, 10]), (5, [0, 1, 9, 10])]
theorem y179_ok : FnE.OK Tryz.prog (Env.gam e0) 179 y179 := execFnC_ok g137_good hmix Tryz.func179 Tryz.call179 (by decide +kernel) rfl
noncomputable def g138 : Env := g137.add 179 y179
theorem g138_good : g138.Good := Env.Good.add g137_good y179_ok
/-- slices.partitionOrdered[int] -/
noncomputable def y180 : FnE := execFnC g138 Tryz.f180 8 [(3, [0, 1, 10, 11]), (5, [0, 1, 10, 11]), (13, [0, 1, 10, 11]), (13, [0, 1, 10, 11]), (15, [0, 1, 10, 11])]
theorem y180_ok : FnE.OK Tryz.prog (Env.gam e0) 180 y180 := execFnC_ok g138_good hmix Tryz.func180 Tryz.call180 (by decide +kernel) rfl
noncomputable def g139 : Env := g138.add 180 y180
theorem g139_good : g139.Good := Env.Good.add g138_good y180_ok
/-- slices.pdqsortOrdered[int] -/
noncomputable def y151 : FnE := execFnC g139 Tryz.f151 8 [(2, [0, 1, 2, 3, 8, 9])]
theorem y151_ok : FnE.OK Tryz.prog (Env.gam e0) 151 y151 := execFnC_ok g139_good hmix Tryz.func151 Tryz.call151 (by decide +kernel) rfl
noncomputable def g140 : Env := g139.add 151 y151
theorem g140_good : g140.Good := Env.Good.add g139_good y151_ok
/-- slices.Sort[[]int,int] -/
noncomputable def y111 : FnE := execFnC g140 Tryz.f111 4 []
theorem y111_ok : FnE.OK Tryz.prog (Env.gam e0) 111 y111 := execFnC_ok g140_good hmix Tryz.func111 Tryz.call111 (by decide +kernel) rfl
noncomputable def g141 : Env := g140.add 111 y111
theorem g141_good : g141.Good := Env.Good.add g140_good y111_ok
/-- slices.Reverse[[]int,int] -/
noncomputable def y169 : FnE := execFnC g141 Tryz.f169 5 [(1, [0, 2, 3])]
theorem y169_ok : FnE.OK Tryz.prog (Env.gam e0) 169 y169 := execFnC_ok g141_good hmix Tryz.func169 Tryz.call169 (by decide +kernel) rfl
noncomputable def g142 : Env := g141.add 169 y169
theorem g142_good : g142.Good := Env.Good.add g141_good y169_ok
/-- slices.Delete[[]int,int] -/
noncomputable def y170 : FnE := execFnC g142 Tryz.f170 6 []
theorem y170_ok : FnE.OK Tryz.prog (Env.gam e0) 170 y170 := execFnC_ok g142_good hmix Tryz.func170 Tryz.call170 (by decide +kernel) rfl
noncomputable def g143 : Env := g142.add 170 y170
theorem g143_good : g143.Good := Env.Good.add g142_good y170_ok
/-- (mandrel/infer.maker).squeeze -/
noncomputable def y145 : FnE := execFnC g143 Tryz.f145 6 [(6, [6, 21, 22, 23])]
theorem y145_ok : FnE.OK Tryz.prog (Env.gam e0) 145 y145 := execFnC_ok g143_good hmix Tryz.func145 Tryz.call145 (by decide +kernel) rfl
noncomputable def g144 : Env := g143.add 145 y145
theorem g144_good : g144.Good := Env.Good.add g143_good y145_ok
/-- slices.rotateLeft[int] -/
noncomputable def y209 : FnE := execFnC g144 Tryz.f209 4 []
theorem y209_ok : FnE.OK Tryz.prog (Env.gam e0) 209 y209 := execFnC_ok g144_good hmix Tryz.func209 Tryz.call209 (by decide +kernel) rfl
noncomputable def g145 : Env := g144.add 209 y209
theorem g145_good : g145.Good := Env.Good.add g144_good y209_ok
/-- slices.rotateRight[int] -/
noncomputable def y192 : FnE := execFnC g145 Tryz.f192 4 []
theorem y192_ok : FnE.OK Tryz.prog (Env.gam e0) 192 y192 := execFnC_ok g145_good hmix Tryz.func192 Tryz.call192 (by decide +kernel) rfl
noncomputable def g146 : Env := g145.add 192 y192
theorem g146_good : g146.Good := Env.Good.add g145_good y192_ok
/-- slices.Insert[[]int,int] -/
noncomputable def y171 : FnE := execFnC g146 Tryz.f171 7 []
theorem y171_ok : FnE.OK Tryz.prog (Env.gam e0) 171 y171 := execFnC_ok g146_good hmix Tryz.func171 Tryz.call171 (by decide +kernel) rfl
noncomputable def g147 : Env := g146.add 171 y171
theorem g147_good : g147.Good := Env.Good.add g146_good y171_ok
/-- (mandrel/infer.maker).unsqueeze -/
noncomputable def y146 : FnE := execFnC g147 Tryz.f146 6 [(6, [7, 24, 25, 26])]
theorem y146_ok : FnE.OK Tryz.prog (Env.gam e0) 146 y146 := execFnC_ok g147_good hmix Tryz.func146 Tryz.call146 (by decide +kernel) rfl
noncomputable def g148 : Env := g147.add 146 y146
theorem g148_good : g148.Good := Env.Good.add g147_good y146_ok
/-- (mandrel/infer.maker).flatten -/
noncomputable def y147 : FnE := execFnC g148 Tryz.f147 6 []
theorem y147_ok : FnE.OK Tryz.prog (Env.gam e0) 147 y147 := execFnC_ok g148_good hmix Tryz.func147 Tryz.call147 (by decide +kernel) rfl
noncomputable def g149 : Env := g148.add 147 y147
theorem g149_good : g149.Good := Env.Good.add g148_good y147_ok
/-- (mandrel/infer.maker).moved -/
noncomputable def y98 : FnE := execFnC g149 Tryz.f98 7 []
theorem y98_ok : FnE.OK Tryz.prog (Env.gam e0) 98 y98 := execFnC_ok g149_good hmix Tryz.func98 Tryz.call98 (by decide +kernel) rfl
noncomputable def g150 : Env := g149.add 98 y98
theorem g150_good : g150.Good := Env.Good.add g149_good y98_ok
/-- (mandrel/infer.maker).dims -/
noncomputable def y66 : FnE := execFnC g150 Tryz.f66 8 [(56, [3, 132, 133, 134])]
theorem y66_ok : FnE.OK Tryz.prog (Env.gam e0) 66 y66 := execFnC_ok g150_good hmix Tryz.func66 Tryz.call66 (by decide +kernel) rfl
noncomputable def g151 : Env := g150.add 66 y66
theorem g151_good : g151.Good := Env.Good.add g150_good y66_ok
/-- (mandrel/infer.maker).then -/
noncomputable def y67 : FnE := execFnC g151 Tryz.f67 6 [(3, [1, 16, 17, 18])]
theorem y67_ok : FnE.OK Tryz.prog (Env.gam e0) 67 y67 := execFnC_ok g151_good hmix Tryz.func67 Tryz.call67 (by decide +kernel) rfl
noncomputable def g152 : Env := g151.add 67 y67
theorem g152_good : g152.Good := Env.Good.add g151_good y67_ok
/-- mandrel/infer.Out -/
noncomputable def dd30 : DefC := ⟨61, Tryz.f61, 5, [], 5, 2, 15, [.tmp 4, .tmp 5]⟩
noncomputable def y30 : FnE := execFnDC g152 Tryz.f30 7 [(5, [1, 2, 4, 5, 26, 27, 28])] dd30
theorem y30_ok : FnE.OK Tryz.prog (Env.gam e0) 30 y30 := execFnDC_ok g152_good (execFnD_ok (D := dd30) g152_good hmix Tryz.func30 Tryz.call30 rfl rfl (by decide +kernel) rfl Tryz.func61 Tryz.call61 rfl rfl (by decide +kernel))
noncomputable def g153 : Env := g152.add 30 y30
theorem g153_good : g153.Good := Env.Good.add g152_good y30_ok
/-- mandrel/conv.begin -/
noncomputable def y9 : FnE := execFnC g153 Tryz.f9 6 [(3, [2, 4, 6, 9, 10, 11])]
theorem y9_ok : FnE.OK Tryz.prog (Env.gam e0) 9 y9 := execFnC_ok g153_good hmix Tryz.func9 Tryz.call9 (by decide +kernel) rfl
noncomputable def g154 : Env := g153.add 9 y9
theorem g154_good : g154.Good := Env.Good.add g153_good y9_ok
/-- mandrel/conv.pair -/
noncomputable def y38 : FnE := execFnC g154 Tryz.f38 5 []
theorem y38_ok : FnE.OK Tryz.prog (Env.gam e0) 38 y38 := execFnC_ok g154_good hmix Tryz.func38 Tryz.call38 (by decide +kernel) rfl
noncomputable def g155 : Env := g154.add 38 y38
theorem g155_good : g155.Good := Env.Good.add g154_good y38_ok
/-- mandrel/conv.look -/
noncomputable def y13 : FnE := execFnC g155 Tryz.f13 6 []
theorem y13_ok : FnE.OK Tryz.prog (Env.gam e0) 13 y13 := execFnC_ok g155_good hmix Tryz.func13 Tryz.call13 (by decide +kernel) rfl
noncomputable def g156 : Env := g155.add 13 y13
theorem g156_good : g156.Good := Env.Good.add g155_good y13_ok
/-- mandrel/shape.Strides -/
noncomputable def y50 : FnE := execFnC g156 Tryz.f50 6 [(7, [0, 6, 7, 22, 23])]
theorem y50_ok : FnE.OK Tryz.prog (Env.gam e0) 50 y50 := execFnC_ok g156_good hmix Tryz.func50 Tryz.call50 (by decide +kernel) rfl
noncomputable def g157 : Env := g156.add 50 y50
theorem g157_good : g157.Good := Env.Good.add g156_good y50_ok
/-- mandrel/shape.Coords -/
noncomputable def y33 : FnE := execFnC g157 Tryz.f33 6 [(9, [1, 10, 36, 37, 38])]
theorem y33_ok : FnE.OK Tryz.prog (Env.gam e0) 33 y33 := execFnC_ok g157_good hmix Tryz.func33 Tryz.call33 (by decide +kernel) rfl
noncomputable def g158 : Env := g157.add 33 y33
theorem g158_good : g158.Good := Env.Good.add g157_good y33_ok
/-- mandrel/conv.two -/
noncomputable def y35 : FnE := execFnC g158 Tryz.f35 5 []
theorem y35_ok : FnE.OK Tryz.prog (Env.gam e0) 35 y35 := execFnC_ok g158_good hmix Tryz.func35 Tryz.call35 (by decide +kernel) rfl
noncomputable def g159 : Env := g158.add 35 y35
theorem g159_good : g159.Good := Env.Good.add g158_good y35_ok
noncomputable def g160 : Env := g159.withRound (roundC g159 [])
theorem g160_good : g160.Good := Env.Good.withRound g159_good (roundC_ok g159_good hmix [])
/-- (mandrel/conv.window).places$1 -/
noncomputable def y71 : FnE := execFnC g160 Tryz.f71 7 [(1, [0, 1, 2, 3, 12, 13])]
theorem y71_ok : FnE.OK Tryz.prog (Env.gam e0) 71 y71 := execFnC_ok g160_good hmix Tryz.func71 Tryz.call71 (by decide +kernel) rfl
noncomputable def g161 : Env := g160.add 71 y71
theorem g161_good : g161.Good := Env.Good.add g160_good y71_ok
/-- (mandrel/conv.window).places -/
noncomputable def y34 : FnE := execFnC g161 Tryz.f34 4 []
theorem y34_ok : FnE.OK Tryz.prog (Env.gam e0) 34 y34 := execFnC_ok g161_good hmix Tryz.func34 Tryz.call34 (by decide +kernel) rfl
noncomputable def g162 : Env := g161.add 34 y34
theorem g162_good : g162.Good := Env.Good.add g161_good y34_ok
noncomputable def g163 : Env := g162.withRound (roundC g162 [])
theorem g163_good : g163.Good := Env.Good.withRound g162_good (roundC_ok g162_good hmix [])
/-- mandrel/view.places$1 -/
noncomputable def y109 : FnE := execFnC g163 Tryz.f109 6 [(2, [0, 1, 3, 4]), (4, [0, 1, 3, 4, 5])]
theorem y109_ok : FnE.OK Tryz.prog (Env.gam e0) 109 y109 := execFnC_ok g163_good hmix Tryz.func109 Tryz.call109 (by decide +kernel) rfl
noncomputable def g164 : Env := g163.add 109 y109
theorem g164_good : g164.Good := Env.Good.add g163_good y109_ok
noncomputable def g165 : Env := g164.withRound (roundC g164 [])
theorem g165_good : g165.Good := Env.Good.withRound g164_good (roundC_ok g164_good hmix [])
/-- slices.Values[[]int,int]$1 -/
noncomputable def y112 : FnE := execFnC g165 Tryz.f112 5 [(1, [0, 5, 6, 7])]
theorem y112_ok : FnE.OK Tryz.prog (Env.gam e0) 112 y112 := execFnC_ok g165_good hmix Tryz.func112 Tryz.call112 (by decide +kernel) rfl
noncomputable def g166 : Env := g165.add 112 y112
theorem g166_good : g166.Good := Env.Good.add g165_good y112_ok
/-- mandrel/conv.conv -/
noncomputable def y10 : FnE := execFnC g166 Tryz.f10 8 [(9, [1, 2, 7, 8, 9, 11, 12, 13, 16, 69, 70]), (15, [1, 2, 7, 8, 9, 11, 12, 13, 16, 17, 18, 20, 21, 69, 70, 82, 83]), (20, [0, 1, 2, 3, 9, 21, 23, 24, 25, 65, 76, 77, 100, 108, 117, 131, 132, 133, 134, 135, 136, 137, 138, 139, 140, 141, 142, 143, 144])]
theorem y10_ok : FnE.OK Tryz.prog (Env.gam e0) 10 y10 := execFnC_ok g166_good hmix Tryz.func10 Tryz.call10 (by decide +kernel) rfl
noncomputable def g167 : Env := g166.add 10 y10
theorem g167_good : g167.Good := Env.Good.add g166_good y10_ok
/-- mandrel/num.toWhole -/
noncomputable def y106 : FnE := execFnC g167 Tryz.f106 5 []
theorem y106_ok : FnE.OK Tryz.prog (Env.gam e0) 106 y106 := execFnC_ok g167_good hmix Tryz.func106 Tryz.call106 (by decide +kernel) rfl
noncomputable def g168 : Env := g167.add 106 y106
theorem g168_good : g168.Good := Env.Good.add g167_good y106_ok
/-- mandrel/num.Cast -/
noncomputable def y74 : FnE := execFnC g168 Tryz.f74 6 []
theorem y74_ok : FnE.OK Tryz.prog (Env.gam e0) 74 y74 := execFnC_ok g168_good hmix Tryz.func74 Tryz.call74 (by decide +kernel) rfl
noncomputable def g169 : Env := g168.add 74 y74
theorem g169_good : g169.Good := Env.Good.add g168_good y74_ok
/-- mandrel/conv.together -/
noncomputable def y37 : FnE := execFnC g169 Tryz.f37 6 [(3, [0, 1, 2, 3, 4, 7, 8, 9, 14, 15, 16, 17, 18, 20, 21, 22, 23, 24, 26, 27, 28, 29, 30, 32, 33, 34])]
theorem y37_ok : FnE.OK Tryz.prog (Env.gam e0) 37 y37 := execFnC_ok g169_good hmix Tryz.func37 Tryz.call37 (by decide +kernel) rfl
noncomputable def g170 : Env := g169.add 37 y37
theorem g170_good : g170.Good := Env.Good.add g169_good y37_ok
/-- mandrel/conv.pool -/
noncomputable def y12 : FnE := execFnC g170 Tryz.f12 6 [(3, [3, 4, 5, 6, 9, 15, 16]), (7, [3, 4, 5, 6, 9, 11, 15, 16, 31, 32]), (10, [3, 4, 5, 6, 9, 11, 12, 15, 16, 31, 32, 37, 38])]
theorem y12_ok : FnE.OK Tryz.prog (Env.gam e0) 12 y12 := execFnC_ok g170_good hmix Tryz.func12 Tryz.call12 (by decide +kernel) rfl
noncomputable def g171 : Env := g170.add 12 y12
theorem g171_good : g171.Good := Env.Good.add g170_good y12_ok
/-- mandrel/conv.Do -/
noncomputable def y6 : FnE := execFnC g171 Tryz.f6 7 []
theorem y6_ok : FnE.OK Tryz.prog (Env.gam e0) 6 y6 := execFnC_ok g171_good hmix Tryz.func6 Tryz.call6 (by decide +kernel) rfl
noncomputable def g172 : Env := g171.add 6 y6
theorem g172_good : g172.Good := Env.Good.add g171_good y6_ok
/-- mandrel/mandrellaw13.live -/
noncomputable def y5 : FnE := execFnC g172 Tryz.f5 7 []
theorem y5_ok : FnE.OK Tryz.prog (Env.gam e0) 5 y5 := execFnC_ok g172_good hmix Tryz.func5 Tryz.call5 (by decide +kernel) rfl
noncomputable def g173 : Env := g172.add 5 y5
theorem g173_good : g173.Good := Env.Good.add g172_good y5_ok
/-- mandrel/move.begin -/
noncomputable def y14 : FnE := execFnC g173 Tryz.f14 6 [(3, [2, 4, 6, 9, 10, 11])]
theorem y14_ok : FnE.OK Tryz.prog (Env.gam e0) 14 y14 := execFnC_ok g173_good hmix Tryz.func14 Tryz.call14 (by decide +kernel) rfl
noncomputable def g174 : Env := g173.add 14 y14
theorem g174_good : g174.Good := Env.Good.add g173_good y14_ok
/-- mandrel/view.fine -/
noncomputable def y39 : FnE := execFnC g174 Tryz.f39 6 []
theorem y39_ok : FnE.OK Tryz.prog (Env.gam e0) 39 y39 := execFnC_ok g174_good hmix Tryz.func39 Tryz.call39 (by decide +kernel) rfl
noncomputable def g175 : Env := g174.add 39 y39
theorem g175_good : g175.Good := Env.Good.add g174_good y39_ok
/-- mandrel/view.Spread -/
noncomputable def y16 : FnE := execFnC g175 Tryz.f16 7 [(10, [2, 4, 6, 8, 38, 39, 40])]
theorem y16_ok : FnE.OK Tryz.prog (Env.gam e0) 16 y16 := execFnC_ok g175_good hmix Tryz.func16 Tryz.call16 (by decide +kernel) rfl
noncomputable def g176 : Env := g175.add 16 y16
theorem g176_good : g176.Good := Env.Good.add g175_good y16_ok
/-- mandrel/view.Whole -/
noncomputable def y42 : FnE := execFnC g176 Tryz.f42 5 []
theorem y42_ok : FnE.OK Tryz.prog (Env.gam e0) 42 y42 := execFnC_ok g176_good hmix Tryz.func42 Tryz.call42 (by decide +kernel) rfl
noncomputable def g177 : Env := g176.add 42 y42
theorem g177_good : g177.Good := Env.Good.add g176_good y42_ok
/-- mandrel/move.whole -/
noncomputable def y17 : FnE := execFnC g177 Tryz.f17 4 []
theorem y17_ok : FnE.OK Tryz.prog (Env.gam e0) 17 y17 := execFnC_ok g177_good hmix Tryz.func17 Tryz.call17 (by decide +kernel) rfl
noncomputable def g178 : Env := g177.add 17 y17
theorem g178_good : g178.Good := Env.Good.add g177_good y17_ok
/-- mandrel/view.places -/
noncomputable def y76 : FnE := execFnC g178 Tryz.f76 3 []
theorem y76_ok : FnE.OK Tryz.prog (Env.gam e0) 76 y76 := execFnC_ok g178_good hmix Tryz.func76 Tryz.call76 (by decide +kernel) rfl
noncomputable def g179 : Env := g178.add 76 y76
theorem g179_good : g179.Good := Env.Good.add g178_good y76_ok
/-- mandrel/view.Read -/
noncomputable def y43 : FnE := execFnC g179 Tryz.f43 5 [(5, [0, 1, 2, 3, 4, 5, 6, 14, 15, 16, 17, 18, 19, 20, 21, 22, 23, 24])]
theorem y43_ok : FnE.OK Tryz.prog (Env.gam e0) 43 y43 := execFnC_ok g179_good hmix Tryz.func43 Tryz.call43 (by decide +kernel) rfl
noncomputable def g180 : Env := g179.add 43 y43
theorem g180_good : g180.Good := Env.Good.add g179_good y43_ok
/-- mandrel/move.read -/
noncomputable def y18 : FnE := execFnC g180 Tryz.f18 4 []
theorem y18_ok : FnE.OK Tryz.prog (Env.gam e0) 18 y18 := execFnC_ok g180_good hmix Tryz.func18 Tryz.call18 (by decide +kernel) rfl
noncomputable def g181 : Env := g180.add 18 y18
theorem g181_good : g181.Good := Env.Good.add g180_good y18_ok
/-- slices.AppendSeq[[]int,int] -/
noncomputable def y150 : FnE := execFnC g181 Tryz.f150 4 [(2, [0, 1, 2, 8, 9, 10, 11])]
theorem y150_ok : FnE.OK Tryz.prog (Env.gam e0) 150 y150 := execFnC_ok g181_good hmix Tryz.func150 Tryz.call150 (by decide +kernel) rfl
noncomputable def g182 : Env := g181.add 150 y150
theorem g182_good : g182.Good := Env.Good.add g181_good y150_ok
/-- slices.Collect[int] -/
noncomputable def y110 : FnE := execFnC g182 Tryz.f110 3 []
theorem y110_ok : FnE.OK Tryz.prog (Env.gam e0) 110 y110 := execFnC_ok g182_good hmix Tryz.func110 Tryz.call110 (by decide +kernel) rfl
noncomputable def g183 : Env := g182.add 110 y110
theorem g183_good : g183.Good := Env.Good.add g182_good y110_ok
/-- slices.Sorted[int] -/
noncomputable def y77 : FnE := execFnC g183 Tryz.f77 4 []
theorem y77_ok : FnE.OK Tryz.prog (Env.gam e0) 77 y77 := execFnC_ok g183_good hmix Tryz.func77 Tryz.call77 (by decide +kernel) rfl
noncomputable def g184 : Env := g183.add 77 y77
theorem g184_good : g184.Good := Env.Good.add g183_good y77_ok
/-- slices.Values[[]int,int] -/
noncomputable def y78 : FnE := execFnC g184 Tryz.f78 3 []
theorem y78_ok : FnE.OK Tryz.prog (Env.gam e0) 78 y78 := execFnC_ok g184_good hmix Tryz.func78 Tryz.call78 (by decide +kernel) rfl
noncomputable def g185 : Env := g184.add 78 y78
theorem g185_good : g185.Good := Env.Good.add g184_good y78_ok
/-- mandrel/view.own -/
noncomputable def y79 : FnE := execFnC g185 Tryz.f79 4 []
theorem y79_ok : FnE.OK Tryz.prog (Env.gam e0) 79 y79 := execFnC_ok g185_good hmix Tryz.func79 Tryz.call79 (by decide +kernel) rfl
noncomputable def g186 : Env := g185.add 79 y79
theorem g186_good : g186.Good := Env.Good.add g185_good y79_ok
/-- mandrel/view.Transpose -/
noncomputable def y44 : FnE := execFnC g186 Tryz.f44 7 [(4, [1, 2, 4, 17, 18, 19]), (13, [2, 4, 8, 38, 39, 40])]
theorem y44_ok : FnE.OK Tryz.prog (Env.gam e0) 44 y44 := execFnC_ok g186_good hmix Tryz.func44 Tryz.call44 (by decide +kernel) rfl
noncomputable def g187 : Env := g186.add 44 y44
theorem g187_good : g187.Good := Env.Good.add g186_good y44_ok
/-- mandrel/move.transpose -/
noncomputable def y19 : FnE := execFnC g187 Tryz.f19 6 [(3, [2, 3, 5, 14, 15]), (9, [3, 7, 25, 26, 27])]
theorem y19_ok : FnE.OK Tryz.prog (Env.gam e0) 19 y19 := execFnC_ok g187_good hmix Tryz.func19 Tryz.call19 (by decide +kernel) rfl
noncomputable def g188 : Env := g187.add 19 y19
theorem g188_good : g188.Good := Env.Good.add g187_good y19_ok
/-- mandrel/move.axis -/
noncomputable def y45 : FnE := execFnC g188 Tryz.f45 4 []
theorem y45_ok : FnE.OK Tryz.prog (Env.gam e0) 45 y45 := execFnC_ok g188_good hmix Tryz.func45 Tryz.call45 (by decide +kernel) rfl
noncomputable def g189 : Env := g188.add 45 y45
theorem g189_good : g189.Good := Env.Good.add g188_good y45_ok
/-- mandrel/view.Slice -/
noncomputable def y46 : FnE := execFnC g189 Tryz.f46 7 []
theorem y46_ok : FnE.OK Tryz.prog (Env.gam e0) 46 y46 := execFnC_ok g189_good hmix Tryz.func46 Tryz.call46 (by decide +kernel) rfl
noncomputable def g190 : Env := g189.add 46 y46
theorem g190_good : g190.Good := Env.Good.add g189_good y46_ok
/-- mandrel/move.slice -/
noncomputable def y20 : FnE := execFnC g190 Tryz.f20 7 [(4, [2, 3, 4, 7, 8, 19, 20]), (10, [2, 4, 7, 10, 32, 33, 34])]
theorem y20_ok : FnE.OK Tryz.prog (Env.gam e0) 20 y20 := execFnC_ok g190_good hmix Tryz.func20 Tryz.call20 (by decide +kernel) rfl
noncomputable def g191 : Env := g190.add 20 y20
theorem g191_good : g191.Good := Env.Good.add g190_good y20_ok
/-- mandrel/move.blocks -/
noncomputable def y47 : FnE := execFnC g191 Tryz.f47 5 []
theorem y47_ok : FnE.OK Tryz.prog (Env.gam e0) 47 y47 := execFnC_ok g191_good hmix Tryz.func47 Tryz.call47 (by decide +kernel) rfl
noncomputable def g192 : Env := g191.add 47 y47
theorem g192_good : g192.Good := Env.Good.add g191_good y47_ok
/-- mandrel/move.concat -/
noncomputable def y21 : FnE := execFnC g192 Tryz.f21 7 [(6, [7, 8, 9, 10, 11, 32, 33, 34]), (10, [7, 8, 9, 10, 11, 13, 15, 32, 33, 34, 45, 46])]
theorem y21_ok : FnE.OK Tryz.prog (Env.gam e0) 21 y21 := execFnC_ok g192_good hmix Tryz.func21 Tryz.call21 (by decide +kernel) rfl
noncomputable def g193 : Env := g192.add 21 y21
theorem g193_good : g193.Good := Env.Good.add g192_good y21_ok
/-- mandrel/move.gather -/
noncomputable def y22 : FnE := execFnC g193 Tryz.f22 7 [(8, [1, 6, 9, 10, 11, 12, 41, 42]), (11, [1, 6, 9, 10, 11, 12, 13, 41, 42, 48, 49, 50])]
theorem y22_ok : FnE.OK Tryz.prog (Env.gam e0) 22 y22 := execFnC_ok g193_good hmix Tryz.func22 Tryz.call22 (by decide +kernel) rfl
noncomputable def g194 : Env := g193.add 22 y22
theorem g194_good : g194.Good := Env.Good.add g193_good y22_ok
/-- math/bits.Mul32 -/
noncomputable def y113 : FnE := execFnC g194 Tryz.f113 5 []
theorem y113_ok : FnE.OK Tryz.prog (Env.gam e0) 113 y113 := execFnC_ok g194_good hmix Tryz.func113 Tryz.call113 (by decide +kernel) rfl
noncomputable def g195 : Env := g194.add 113 y113
theorem g195_good : g195.Good := Env.Good.add g194_good y113_ok
/-- math/bits.Mul64 -/
noncomputable def y114 : FnE := execFnC g195 Tryz.f114 6 []
theorem y114_ok : FnE.OK Tryz.prog (Env.gam e0) 114 y114 := execFnC_ok g195_good hmix Tryz.func114 Tryz.call114 (by decide +kernel) rfl
noncomputable def g196 : Env := g195.add 114 y114
theorem g196_good : g196.Good := Env.Good.add g195_good y114_ok
/-- math/bits.Mul -/
noncomputable def y80 : FnE := execFnC g196 Tryz.f80 5 []
theorem y80_ok : FnE.OK Tryz.prog (Env.gam e0) 80 y80 := execFnC_ok g196_good hmix Tryz.func80 Tryz.call80 (by decide +kernel) rfl
noncomputable def g197 : Env := g196.add 80 y80
theorem g197_good : g197.Good := Env.Good.add g196_good y80_ok
/-- slices.Repeat[[]int64,int64] -/
noncomputable def y48 : FnE := execFnC g197 Tryz.f48 6 [(8, [7, 8])]
theorem y48_ok : FnE.OK Tryz.prog (Env.gam e0) 48 y48 := execFnC_ok g197_good hmix Tryz.func48 Tryz.call48 (by decide +kernel) rfl
noncomputable def g198 : Env := g197.add 48 y48
theorem g198_good : g198.Good := Env.Good.add g197_good y48_ok
/-- mandrel/schema.Bits -/
noncomputable def y49 : FnE := execFnC g198 Tryz.f49 5 []
theorem y49_ok : FnE.OK Tryz.prog (Env.gam e0) 49 y49 := execFnC_ok g198_good hmix Tryz.func49 Tryz.call49 (by decide +kernel) rfl
noncomputable def g199 : Env := g198.add 49 y49
theorem g199_good : g199.Good := Env.Good.add g198_good y49_ok
/-- mandrel/move.pad -/
noncomputable def y23 : FnE := execFnC g199 Tryz.f23 7 [(6, [4, 7, 10, 11, 37, 38, 39]), (11, [4, 7, 10, 11, 14, 15, 16, 37, 38, 39, 52, 53])]
theorem y23_ok : FnE.OK Tryz.prog (Env.gam e0) 23 y23 := execFnC_ok g199_good hmix Tryz.func23 Tryz.call23 (by decide +kernel) rfl
noncomputable def g200 : Env := g199.add 23 y23
theorem g200_good : g200.Good := Env.Good.add g199_good y23_ok
/-- mandrel/move.Do -/
noncomputable def y7 : FnE := execFnC g200 Tryz.f7 7 []
theorem y7_ok : FnE.OK Tryz.prog (Env.gam e0) 7 y7 := execFnC_ok g200_good hmix Tryz.func7 Tryz.call7 (by decide +kernel) rfl
noncomputable def g201 : Env := g200.add 7 y7
theorem g201_good : g201.Good := Env.Good.add g200_good y7_ok
/-- mandrel/linear.begin -/
noncomputable def y26 : FnE := execFnC g201 Tryz.f26 6 [(3, [2, 4, 6, 9, 10, 11])]
theorem y26_ok : FnE.OK Tryz.prog (Env.gam e0) 26 y26 := execFnC_ok g201_good hmix Tryz.func26 Tryz.call26 (by decide +kernel) rfl
noncomputable def g202 : Env := g201.add 26 y26
theorem g202_good : g202.Good := Env.Good.add g201_good y26_ok
/-- mandrel/linear.matrices -/
noncomputable def y51 : FnE := execFnC g202 Tryz.f51 7 [(7, [2, 6, 7, 8, 10, 56, 57]), (14, [2, 6, 7, 14, 71, 72, 73])]
theorem y51_ok : FnE.OK Tryz.prog (Env.gam e0) 51 y51 := execFnC_ok g202_good hmix Tryz.func51 Tryz.call51 (by decide +kernel) rfl
noncomputable def g203 : Env := g202.add 51 y51
theorem g203_good : g203.Good := Env.Good.add g202_good y51_ok
/-- slices.Grow[[]int64,int64] -/
noncomputable def y81 : FnE := execFnC g203 Tryz.f81 5 []
theorem y81_ok : FnE.OK Tryz.prog (Env.gam e0) 81 y81 := execFnC_ok g203_good hmix Tryz.func81 Tryz.call81 (by decide +kernel) rfl
noncomputable def g204 : Env := g203.add 81 y81
theorem g204_good : g204.Good := Env.Good.add g203_good y81_ok
/-- slices.Concat[[]int64,int64] -/
noncomputable def y52 : FnE := execFnC g204 Tryz.f52 6 [(3, [0, 3, 9, 10, 11]), (11, [6, 25, 26, 27])]
theorem y52_ok : FnE.OK Tryz.prog (Env.gam e0) 52 y52 := execFnC_ok g204_good hmix Tryz.func52 Tryz.call52 (by decide +kernel) rfl
noncomputable def g205 : Env := g204.add 52 y52
theorem g205_good : g205.Good := Env.Good.add g204_good y52_ok
/-- mandrel/linear.two -/
noncomputable def y55 : FnE := execFnC g205 Tryz.f55 5 []
theorem y55_ok : FnE.OK Tryz.prog (Env.gam e0) 55 y55 := execFnC_ok g205_good hmix Tryz.func55 Tryz.call55 (by decide +kernel) rfl
noncomputable def g206 : Env := g205.add 55 y55
theorem g206_good : g206.Good := Env.Good.add g205_good y55_ok
/-- (mandrel/linear.matrix).row -/
noncomputable def y115 : FnE := execFnC g206 Tryz.f115 4 []
theorem y115_ok : FnE.OK Tryz.prog (Env.gam e0) 115 y115 := execFnC_ok g206_good hmix Tryz.func115 Tryz.call115 (by decide +kernel) rfl
noncomputable def g207 : Env := g206.add 115 y115
theorem g207_good : g207.Good := Env.Good.add g206_good y115_ok
/-- (mandrel/linear.matrix).block -/
noncomputable def y82 : FnE := execFnC g207 Tryz.f82 7 [(2, [3, 4, 5, 6, 7, 10]), (6, [3, 4, 5, 6, 7, 10, 11, 12, 33, 34]), (10, [3, 4, 5, 6, 7, 10, 11, 12, 13, 14, 15, 33, 34])]
theorem y82_ok : FnE.OK Tryz.prog (Env.gam e0) 82 y82 := execFnC_ok g207_good hmix Tryz.func82 Tryz.call82 (by decide +kernel) rfl
noncomputable def g208 : Env := g207.add 82 y82
theorem g208_good : g208.Good := Env.Good.add g207_good y82_ok
/-- mandrel/linear.product -/
noncomputable def y53 : FnE := execFnC g208 Tryz.f53 6 [(3, [2, 3, 5, 6]), (6, [2, 3, 5, 6, 7])]
theorem y53_ok : FnE.OK Tryz.prog (Env.gam e0) 53 y53 := execFnC_ok g208_good hmix Tryz.func53 Tryz.call53 (by decide +kernel) rfl
noncomputable def g209 : Env := g208.add 53 y53
theorem g209_good : g209.Good := Env.Good.add g208_good y53_ok
/-- mandrel/linear.matmul -/
noncomputable def y27 : FnE := execFnC g209 Tryz.f27 6 [(6, [8, 9, 10, 32, 33])]
theorem y27_ok : FnE.OK Tryz.prog (Env.gam e0) 27 y27 := execFnC_ok g209_good hmix Tryz.func27 Tryz.call27 (by decide +kernel) rfl
noncomputable def g210 : Env := g209.add 27 y27
theorem g210_good : g210.Good := Env.Good.add g209_good y27_ok
/-- mandrel/linear.turned -/
noncomputable def y54 : FnE := execFnC g210 Tryz.f54 6 []
theorem y54_ok : FnE.OK Tryz.prog (Env.gam e0) 54 y54 := execFnC_ok g210_good hmix Tryz.func54 Tryz.call54 (by decide +kernel) rfl
noncomputable def g211 : Env := g210.add 54 y54
theorem g211_good : g211.Good := Env.Good.add g210_good y54_ok
/-- mandrel/linear.spread -/
noncomputable def y56 : FnE := execFnC g211 Tryz.f56 5 []
theorem y56_ok : FnE.OK Tryz.prog (Env.gam e0) 56 y56 := execFnC_ok g211_good hmix Tryz.func56 Tryz.call56 (by decide +kernel) rfl
noncomputable def g212 : Env := g211.add 56 y56
theorem g212_good : g212.Good := Env.Good.add g211_good y56_ok
/-- mandrel/linear.gemm -/
noncomputable def y28 : FnE := execFnC g212 Tryz.f28 7 [(6, [1, 2, 9, 10, 11, 37, 38]), (12, [9, 11, 58, 59, 60])]
theorem y28_ok : FnE.OK Tryz.prog (Env.gam e0) 28 y28 := execFnC_ok g212_good hmix Tryz.func28 Tryz.call28 (by decide +kernel) rfl
noncomputable def g213 : Env := g212.add 28 y28
theorem g213_good : g213.Good := Env.Good.add g212_good y28_ok
/-- mandrel/linear.Do -/
noncomputable def y8 : FnE := execFnC g213 Tryz.f8 6 []
theorem y8_ok : FnE.OK Tryz.prog (Env.gam e0) 8 y8 := execFnC_ok g213_good hmix Tryz.func8 Tryz.call8 (by decide +kernel) rfl
noncomputable def g214 : Env := g213.add 8 y8
theorem g214_good : g214.Good := Env.Good.add g213_good y8_ok
/-- mandrel/mandrellaw13.ConvProduct -/
noncomputable def y3 : FnE := execFnC g214 Tryz.f3 8 [(17, [5, 17, 19])]
end Go.Proofs.XPT
namespace Go.Proofs.XPT
open Go.Vm Go
set_option maxRecDepth 100000
set_option maxHeartbeats 4000000
/-- the word of a number that came in -/
def cw (x : Int) : Nat := canonF FloatKind.f32 (IntKind.u32.wrap x).toNat
def resW (z : Nat) : Int := bif fNaN .f32 z then 2143289344 else IntKind.i64.wrap (Int.ofNat z)
/-- what a sum (quotient) of two words is, told of their numbers -/
def binW (op : BinOp) (x y : Int) : Int := bif numOk 1 x && numOk 1 y then resW (fop op .f32 (cw x) (cw y)) else 0
theorem order_self (d : Ieee.Datum) : (d.order d != some Ordering.eq) = d.isNaN := by
  cases d with
  | number s m e =>
    simp [Ieee.Datum.order, Ieee.Datum.isNaN, Int.min_self, Std.ReflCmp.compare_self]
  | infinity s =>
    cases s <;> simp [Ieee.Datum.order, Ieee.Datum.isNaN]
  | _ => simp [Ieee.Datum.order, Ieee.Datum.isNaN]
theorem bin_fin (op : BinOp) (x y : Int) : (bif (FloatKind.f32.format.read (fop op .f32 (cw x) (cw y))).order (FloatKind.f32.format.read (fop op .f32 (cw x) (cw y))) != some Ordering.eq then (some (AEnd.ret [I 2143289344], []) : Option (AEnd × LHp)) else bif fNaN .f32 (fop op .f32 (cw x) (cw y)) then none else some (AEnd.ret [I (IntKind.i64.wrap (Int.ofNat (fop op .f32 (cw x) (cw y))))], [])) = some (.ret [I (resW (fop op .f32 (cw x) (cw y)))], []) := by
  rw [order_self]
  unfold resW
  show (bif fNaN .f32 _ then _ else bif fNaN .f32 _ then _ else _) = _
  cases fNaN .f32 (fop op .f32 (cw x) (cw y)) <;> rfl
end Go.Proofs.XPT
namespace Go.Proofs.XPT
open Go.Vm Go
set_option maxRecDepth 100000
set_option maxHeartbeats 4000000
theorem ladd_eq (x y : Int) : runC g205 Tryz.f55 5 [] [.d .str [65, 100, 100], I x, I y] [] ah = bif !numOk 1 x then some (AEnd.ret [I 0], []) else  bif !numOk 1 y then some (AEnd.ret [I 0], []) else  bif (FloatKind.f32.format.read (canonF FloatKind.f32 (IntKind.u32.wrap x).toNat)).order (FloatKind.f32.format.read (canonF FloatKind.f32 (IntKind.u32.wrap x).toNat)) != some Ordering.eq then  bif (FloatKind.f32.format.read (fop BinOp.add FloatKind.f32 (canonF FloatKind.f32 (IntKind.u32.wrap x).toNat) (canonF FloatKind.f32 (IntKind.u32.wrap y).toNat))).order (FloatKind.f32.format.read (fop BinOp.add FloatKind.f32 (canonF FloatKind.f32 (IntKind.u32.wrap x).toNat) (canonF FloatKind.f32 (IntKind.u32.wrap y).toNat))) != some Ordering.eq then some (AEnd.ret [I 2143289344], []) else  bif fNaN FloatKind.f32 (fop BinOp.add FloatKind.f32 (canonF FloatKind.f32 (IntKind.u32.wrap x).toNat) (canonF FloatKind.f32 (IntKind.u32.wrap y).toNat)) then none else some (AEnd.ret [I (IntKind.i64.wrap (Int.ofNat (fop BinOp.add FloatKind.f32 (canonF FloatKind.f32 (IntKind.u32.wrap x).toNat) (canonF FloatKind.f32 (IntKind.u32.wrap y).toNat))))], []) else  bif (FloatKind.f32.format.read (fop BinOp.add FloatKind.f32 (canonF FloatKind.f32 (IntKind.u32.wrap x).toNat) (canonF FloatKind.f32 (IntKind.u32.wrap y).toNat))).order (FloatKind.f32.format.read (fop BinOp.add FloatKind.f32 (canonF FloatKind.f32 (IntKind.u32.wrap x).toNat) (canonF FloatKind.f32 (IntKind.u32.wrap y).toNat))) != some Ordering.eq then some (AEnd.ret [I 2143289344], []) else  bif fNaN FloatKind.f32 (fop BinOp.add FloatKind.f32 (canonF FloatKind.f32 (IntKind.u32.wrap x).toNat) (canonF FloatKind.f32 (IntKind.u32.wrap y).toNat)) then none else some (AEnd.ret [I (IntKind.i64.wrap (Int.ofNat (fop BinOp.add FloatKind.f32 (canonF FloatKind.f32 (IntKind.u32.wrap x).toNat) (canonF FloatKind.f32 (IntKind.u32.wrap y).toNat))))], []) := by kernel_rfl
theorem lmul_eq (x y : Int) : runC g205 Tryz.f55 5 [] [.d .str [77, 117, 108], I x, I y] [] ah = bif !numOk 1 x then some (AEnd.ret [I 0], []) else  bif !numOk 1 y then some (AEnd.ret [I 0], []) else  bif (FloatKind.f32.format.read (canonF FloatKind.f32 (IntKind.u32.wrap x).toNat)).order (FloatKind.f32.format.read (canonF FloatKind.f32 (IntKind.u32.wrap x).toNat)) != some Ordering.eq then  bif (FloatKind.f32.format.read (fop BinOp.mul FloatKind.f32 (canonF FloatKind.f32 (IntKind.u32.wrap x).toNat) (canonF FloatKind.f32 (IntKind.u32.wrap y).toNat))).order (FloatKind.f32.format.read (fop BinOp.mul FloatKind.f32 (canonF FloatKind.f32 (IntKind.u32.wrap x).toNat) (canonF FloatKind.f32 (IntKind.u32.wrap y).toNat))) != some Ordering.eq then some (AEnd.ret [I 2143289344], []) else  bif fNaN FloatKind.f32 (fop BinOp.mul FloatKind.f32 (canonF FloatKind.f32 (IntKind.u32.wrap x).toNat) (canonF FloatKind.f32 (IntKind.u32.wrap y).toNat)) then none else some (AEnd.ret [I (IntKind.i64.wrap (Int.ofNat (fop BinOp.mul FloatKind.f32 (canonF FloatKind.f32 (IntKind.u32.wrap x).toNat) (canonF FloatKind.f32 (IntKind.u32.wrap y).toNat))))], []) else  bif (FloatKind.f32.format.read (fop BinOp.mul FloatKind.f32 (canonF FloatKind.f32 (IntKind.u32.wrap x).toNat) (canonF FloatKind.f32 (IntKind.u32.wrap y).toNat))).order (FloatKind.f32.format.read (fop BinOp.mul FloatKind.f32 (canonF FloatKind.f32 (IntKind.u32.wrap x).toNat) (canonF FloatKind.f32 (IntKind.u32.wrap y).toNat))) != some Ordering.eq then some (AEnd.ret [I 2143289344], []) else  bif fNaN FloatKind.f32 (fop BinOp.mul FloatKind.f32 (canonF FloatKind.f32 (IntKind.u32.wrap x).toNat) (canonF FloatKind.f32 (IntKind.u32.wrap y).toNat)) then none else some (AEnd.ret [I (IntKind.i64.wrap (Int.ofNat (fop BinOp.mul FloatKind.f32 (canonF FloatKind.f32 (IntKind.u32.wrap x).toNat) (canonF FloatKind.f32 (IntKind.u32.wrap y).toNat))))], []) := by kernel_rfl
theorem ladd_run (x y : Int) : runC g205 Tryz.f55 5 [] [.d .str [65, 100, 100], I x, I y] [] ah = some (.ret [I (binW .add x y)], []) := by
  rw [ladd_eq]
  have h := bin_fin .add x y
  unfold cw at h
  unfold binW cw
  cases numOk 1 x with
  | false => rfl
  | true =>
    cases numOk 1 y with
    | false => rfl
    | true =>
      simp only [Bool.not_true, cond_false, Bool.and_true, cond_true]
      cases _ != some Ordering.eq with
      | false => exact h
      | true => exact h
theorem lmul_run (x y : Int) : runC g205 Tryz.f55 5 [] [.d .str [77, 117, 108], I x, I y] [] ah = some (.ret [I (binW .mul x y)], []) := by
  rw [lmul_eq]
  have h := bin_fin .mul x y
  unfold cw at h
  unfold binW cw
  cases numOk 1 x with
  | false => rfl
  | true =>
    cases numOk 1 y with
    | false => rfl
    | true =>
      simp only [Bool.not_true, cond_false, Bool.and_true, cond_true]
      cases _ != some Ordering.eq with
      | false => exact h
      | true => exact h
def ltwF : List AV → LHp → Option (AEnd × LHp)
  | [.d .str op, .d (.int .i64) x, .d (.int .i64) y], [] => bif op == [65, 100, 100] then some (.ret [I (binW .add x y)], []) else bif op == [77, 117, 108] then some (.ret [I (binW .mul x y)], []) else none
  | _, _ => none
theorem ltwE_ok : FnE.OK e0.P e0.gam 55 (fnE ltwF) := by
  have h1 : FnE.OK e0.P e0.gam 55 (execFnC g205 Tryz.f55 5 []) := y55_ok
  refine ⟨fun args hs k => ?_, fun args hs ae hs' h => ?_⟩
  · simp only [fnE]
    cases ltwF args hs <;> rfl
  · have h' : (ltwF args hs).bind (fun p => ah p.1 p.2) = some (ae, hs') := h
    clear h
    unfold ltwF at h'
    split at h'
    · rename_i op x y
      cases hb : op == [65, 100, 100] with
      | true =>
        rw [hb] at h'
        rw [eq_of_beq hb]
        exact h1.okC ((ladd_run x y).trans h')
      | false =>
        rw [hb] at h'
        cases hb2 : op == [77, 117, 108] with
        | true =>
          rw [hb2] at h'
          rw [eq_of_beq hb2]
          exact h1.okC ((lmul_run x y).trans h')
        | false => rw [hb2] at h'; cases h'
    · cases h'
end Go.Proofs.XPT
namespace Go.Proofs.XPT
open Go.Vm Go
set_option maxRecDepth 100000
set_option maxHeartbeats 4000000
theorem cadd_eq (x y : Int) : runC g158 Tryz.f35 5 [] [.d .str [65, 100, 100], I x, I y] [] ah = bif !numOk 1 x then some (AEnd.ret [I 0], []) else  bif !numOk 1 y then some (AEnd.ret [I 0], []) else  bif (FloatKind.f32.format.read (canonF FloatKind.f32 (IntKind.u32.wrap x).toNat)).order (FloatKind.f32.format.read (canonF FloatKind.f32 (IntKind.u32.wrap x).toNat)) != some Ordering.eq then  bif (FloatKind.f32.format.read (fop BinOp.add FloatKind.f32 (canonF FloatKind.f32 (IntKind.u32.wrap x).toNat) (canonF FloatKind.f32 (IntKind.u32.wrap y).toNat))).order (FloatKind.f32.format.read (fop BinOp.add FloatKind.f32 (canonF FloatKind.f32 (IntKind.u32.wrap x).toNat) (canonF FloatKind.f32 (IntKind.u32.wrap y).toNat))) != some Ordering.eq then some (AEnd.ret [I 2143289344], []) else  bif fNaN FloatKind.f32 (fop BinOp.add FloatKind.f32 (canonF FloatKind.f32 (IntKind.u32.wrap x).toNat) (canonF FloatKind.f32 (IntKind.u32.wrap y).toNat)) then none else some (AEnd.ret [I (IntKind.i64.wrap (Int.ofNat (fop BinOp.add FloatKind.f32 (canonF FloatKind.f32 (IntKind.u32.wrap x).toNat) (canonF FloatKind.f32 (IntKind.u32.wrap y).toNat))))], []) else  bif (FloatKind.f32.format.read (fop BinOp.add FloatKind.f32 (canonF FloatKind.f32 (IntKind.u32.wrap x).toNat) (canonF FloatKind.f32 (IntKind.u32.wrap y).toNat))).order (FloatKind.f32.format.read (fop BinOp.add FloatKind.f32 (canonF FloatKind.f32 (IntKind.u32.wrap x).toNat) (canonF FloatKind.f32 (IntKind.u32.wrap y).toNat))) != some Ordering.eq then some (AEnd.ret [I 2143289344], []) else  bif fNaN FloatKind.f32 (fop BinOp.add FloatKind.f32 (canonF FloatKind.f32 (IntKind.u32.wrap x).toNat) (canonF FloatKind.f32 (IntKind.u32.wrap y).toNat)) then none else some (AEnd.ret [I (IntKind.i64.wrap (Int.ofNat (fop BinOp.add FloatKind.f32 (canonF FloatKind.f32 (IntKind.u32.wrap x).toNat) (canonF FloatKind.f32 (IntKind.u32.wrap y).toNat))))], []) := by kernel_rfl
theorem cmul_eq (x y : Int) : runC g158 Tryz.f35 5 [] [.d .str [77, 117, 108], I x, I y] [] ah = bif !numOk 1 x then some (AEnd.ret [I 0], []) else  bif !numOk 1 y then some (AEnd.ret [I 0], []) else  bif (FloatKind.f32.format.read (canonF FloatKind.f32 (IntKind.u32.wrap x).toNat)).order (FloatKind.f32.format.read (canonF FloatKind.f32 (IntKind.u32.wrap x).toNat)) != some Ordering.eq then  bif (FloatKind.f32.format.read (fop BinOp.mul FloatKind.f32 (canonF FloatKind.f32 (IntKind.u32.wrap x).toNat) (canonF FloatKind.f32 (IntKind.u32.wrap y).toNat))).order (FloatKind.f32.format.read (fop BinOp.mul FloatKind.f32 (canonF FloatKind.f32 (IntKind.u32.wrap x).toNat) (canonF FloatKind.f32 (IntKind.u32.wrap y).toNat))) != some Ordering.eq then some (AEnd.ret [I 2143289344], []) else  bif fNaN FloatKind.f32 (fop BinOp.mul FloatKind.f32 (canonF FloatKind.f32 (IntKind.u32.wrap x).toNat) (canonF FloatKind.f32 (IntKind.u32.wrap y).toNat)) then none else some (AEnd.ret [I (IntKind.i64.wrap (Int.ofNat (fop BinOp.mul FloatKind.f32 (canonF FloatKind.f32 (IntKind.u32.wrap x).toNat) (canonF FloatKind.f32 (IntKind.u32.wrap y).toNat))))], []) else  bif (FloatKind.f32.format.read (fop BinOp.mul FloatKind.f32 (canonF FloatKind.f32 (IntKind.u32.wrap x).toNat) (canonF FloatKind.f32 (IntKind.u32.wrap y).toNat))).order (FloatKind.f32.format.read (fop BinOp.mul FloatKind.f32 (canonF FloatKind.f32 (IntKind.u32.wrap x).toNat) (canonF FloatKind.f32 (IntKind.u32.wrap y).toNat))) != some Ordering.eq then some (AEnd.ret [I 2143289344], []) else  bif fNaN FloatKind.f32 (fop BinOp.mul FloatKind.f32 (canonF FloatKind.f32 (IntKind.u32.wrap x).toNat) (canonF FloatKind.f32 (IntKind.u32.wrap y).toNat)) then none else some (AEnd.ret [I (IntKind.i64.wrap (Int.ofNat (fop BinOp.mul FloatKind.f32 (canonF FloatKind.f32 (IntKind.u32.wrap x).toNat) (canonF FloatKind.f32 (IntKind.u32.wrap y).toNat))))], []) := by kernel_rfl
theorem cadd_run (x y : Int) : runC g158 Tryz.f35 5 [] [.d .str [65, 100, 100], I x, I y] [] ah = some (.ret [I (binW .add x y)], []) := by
  rw [cadd_eq]
  have h := bin_fin .add x y
  unfold cw at h
  unfold binW cw
  cases numOk 1 x with
  | false => rfl
  | true =>
    cases numOk 1 y with
    | false => rfl
    | true =>
      simp only [Bool.not_true, cond_false, Bool.and_true, cond_true]
      cases _ != some Ordering.eq with
      | false => exact h
      | true => exact h
theorem cmul_run (x y : Int) : runC g158 Tryz.f35 5 [] [.d .str [77, 117, 108], I x, I y] [] ah = some (.ret [I (binW .mul x y)], []) := by
  rw [cmul_eq]
  have h := bin_fin .mul x y
  unfold cw at h
  unfold binW cw
  cases numOk 1 x with
  | false => rfl
  | true =>
    cases numOk 1 y with
    | false => rfl
    | true =>
      simp only [Bool.not_true, cond_false, Bool.and_true, cond_true]
      cases _ != some Ordering.eq with
      | false => exact h
      | true => exact h
theorem ctwE_ok : FnE.OK e0.P e0.gam 35 (fnE ltwF) := by
  have h1 : FnE.OK e0.P e0.gam 35 (execFnC g158 Tryz.f35 5 []) := y35_ok
  refine ⟨fun args hs k => ?_, fun args hs ae hs' h => ?_⟩
  · simp only [fnE]
    cases ltwF args hs <;> rfl
  · have h' : (ltwF args hs).bind (fun p => ah p.1 p.2) = some (ae, hs') := h
    clear h
    unfold ltwF at h'
    split at h'
    · rename_i op x y
      cases hb : op == [65, 100, 100] with
      | true =>
        rw [hb] at h'
        rw [eq_of_beq hb]
        exact h1.okC ((cadd_run x y).trans h')
      | false =>
        rw [hb] at h'
        cases hb2 : op == [77, 117, 108] with
        | true =>
          rw [hb2] at h'
          rw [eq_of_beq hb2]
          exact h1.okC ((cmul_run x y).trans h')
        | false => rw [hb2] at h'; cases h'
    · cases h'
end Go.Proofs.XPT
namespace Go.Proofs.XPT
open Go.Vm Go
set_option maxRecDepth 100000
set_option maxHeartbeats 4000000
noncomputable def C_cnv : Code := codeOf Tryz.f10
noncomputable def cf_cnv : Cfg := ⟨164, 8, 3, [(9, [1, 2, 7, 8, 9, 11, 12, 13, 16, 69, 70]), (15, [1, 2, 7, 8, 9, 11, 12, 13, 16, 17, 18, 20, 21, 69, 70, 82, 83]), (20, [0, 1, 2, 3, 9, 21, 23, 24, 25, 65, 76, 77, 100, 108, 117, 131, 132, 133, 134, 135, 136, 137, 138, 139, 140, 141, 142, 143, 144])], true⟩
noncomputable def gCw : Env := g158.add 35 (fnE ltwF)
theorem gCw_good : gCw.Good := g158_good.add ctwE_ok
noncomputable def gCr : Env := gCw.withRound (roundC gCw [])
theorem gCr_good : gCr.Good := gCw_good.withRound (roundC_ok gCw_good hmix [])
noncomputable def cplE : FnE := execFnC gCr Tryz.f71 7 [(1, [0, 1, 2, 3, 12, 13])]
theorem cplE_ok : FnE.OK e0.P e0.gam 71 cplE := execFnC_ok gCr_good hmix Tryz.func71 Tryz.call71 (by decide +kernel) rfl
noncomputable def gCv : Env := (g166.add 35 (fnE ltwF)).add 71 cplE
theorem gCv_good : gCv.Good := (g166_good.add ctwE_ok).add cplE_ok
def hpCv (z : Bool) (t1 : Int) (d1 x : List Int) (t2 : Int) (d2 y : List Int) (d3 : List Int) : LHp := [(0, .arr 3 i64T 0 false d3), (1, .arr 25 (Y0) 0 z [(t1, d1, x, ()), (t2, d2, y, ())]), (2, .arr 9 .str 0 false [[120], [119]])]
theorem cnv_eqH (hl : Hl) (t1 c h w t2 m : Int) (x y : List Int) : runH gCv Tryz.f10 8 [(9, [1, 2, 7, 8, 9, 11, 12, 13, 16, 69, 70]), (15, [1, 2, 7, 8, 9, 11, 12, 13, 16, 17, 18, 20, 21, 69, 70, 82, 83]), (20, [0, 1, 2, 3, 9, 21, 23, 24, 25, 65, 76, 77, 100, 108, 117, 131, 132, 133, 134, 135, 136, 137, 138, 139, 140, 141, 142, 143, 144])] [9, 15] hl [nodeA strCV [] [122] (.os 2 0) .nils, .os 1 0, .os 0 0] (hpCv false t1 [1, c, h, w] x t2 [m, c, 1, 1] y [1, m, h, w]) ah = (if 0 ≤ countN [1, m, h, w] ∧ countN [1, m, h, w] ≤ 4294967296 then some (List.replicate (countN [1, m, h, w]).toNat 0) else none).bind fun v0 => hl (cL (cL (cR (cL (cR (cR (cR (cR (cR (cR (cR (cR C_cnv)))))))))))) _ { fr := mkFr 8 [(1, AV.os 1 0), (2, AV.os 0 0), (7, AV.op 3 [] 0), (8, AV.op 4 [] 0), (9, AV.op 5 [] 0), (11, I c), (12, I 1), (13, I (IntKind.i64.wrap (m.tdiv 1))), (16, AV.os 6 0), (69, I (Int.ofNat v0.length)), (70, I 0)], hp := [(0, AObj.arr 3 (i64T) 0 false [1, m, h, w]), (1, AObj.arr 25 Y0 0 false [(t1, [1, c, h, w], x, ()), (t2, [m, c, 1, 1], y, ())]), (2, AObj.arr 9 Ty.str 0 false [[120], [119]]), (3, AObj.box (AV.d Y0 (t1, [1, c, h, w], x, ()))), (4, AObj.box (AV.d Y0 (t2, [m, c, 1, 1], y, ()))), (5, AObj.box (AV.d ((i64T).pair ((i64T).pair ((i64T).pair ((i64T).pair ((Ty.arr 2 (i64T)).pair ((Ty.arr 2 (i64T)).pair ((i64T).pair ((i64T).pair ((i64T).pair ((i64T).pair Ty.unit)))))))))) (h, w, 1, 1, [1, 1], [1, 1], 0, 0, IntKind.i64.wrap (1 * c), IntKind.i64.wrap (h * w), ()))), (6, AObj.arr 2 (i64T) 0 false v0)], nx := 10 } (blkK 0 (seqH gCv cf_cnv [9, 15] hl (cR (cR (cR (cR (cR (cR (cR (cR (cR C_cnv))))))))) (endC Tryz.prog 3 Tryz.f10.results.toList ah))) := by kernel_rfl
theorem cnv_eq (t1 c h w t2 m : Int) (x y : List Int) : runC gCv Tryz.f10 8 [(9, [1, 2, 7, 8, 9, 11, 12, 13, 16, 69, 70]), (15, [1, 2, 7, 8, 9, 11, 12, 13, 16, 17, 18, 20, 21, 69, 70, 82, 83]), (20, [0, 1, 2, 3, 9, 21, 23, 24, 25, 65, 76, 77, 100, 108, 117, 131, 132, 133, 134, 135, 136, 137, 138, 139, 140, 141, 142, 143, 144])] [nodeA strCV [] [122] (.os 2 0) .nils, .os 1 0, .os 0 0] (hpCv false t1 [1, c, h, w] x t2 [m, c, 1, 1] y [1, m, h, w]) ah = (if 0 ≤ countN [1, m, h, w] ∧ countN [1, m, h, w] ≤ 4294967296 then some (List.replicate (countN [1, m, h, w]).toNat 0) else none).bind fun v0 => (hlp gCv cf_cnv) (cL (cL (cR (cL (cR (cR (cR (cR (cR (cR (cR (cR C_cnv)))))))))))) _ { fr := mkFr 8 [(1, AV.os 1 0), (2, AV.os 0 0), (7, AV.op 3 [] 0), (8, AV.op 4 [] 0), (9, AV.op 5 [] 0), (11, I c), (12, I 1), (13, I (IntKind.i64.wrap (m.tdiv 1))), (16, AV.os 6 0), (69, I (Int.ofNat v0.length)), (70, I 0)], hp := [(0, AObj.arr 3 (i64T) 0 false [1, m, h, w]), (1, AObj.arr 25 Y0 0 false [(t1, [1, c, h, w], x, ()), (t2, [m, c, 1, 1], y, ())]), (2, AObj.arr 9 Ty.str 0 false [[120], [119]]), (3, AObj.box (AV.d Y0 (t1, [1, c, h, w], x, ()))), (4, AObj.box (AV.d Y0 (t2, [m, c, 1, 1], y, ()))), (5, AObj.box (AV.d ((i64T).pair ((i64T).pair ((i64T).pair ((i64T).pair ((Ty.arr 2 (i64T)).pair ((Ty.arr 2 (i64T)).pair ((i64T).pair ((i64T).pair ((i64T).pair ((i64T).pair Ty.unit)))))))))) (h, w, 1, 1, [1, 1], [1, 1], 0, 0, IntKind.i64.wrap (1 * c), IntKind.i64.wrap (h * w), ()))), (6, AObj.arr 2 (i64T) 0 false v0)], nx := 10 } (blkK 0 (seqH gCv cf_cnv [9, 15] (hlp gCv cf_cnv) (cR (cR (cR (cR (cR (cR (cR (cR (cR C_cnv))))))))) (endC Tryz.prog 3 Tryz.f10.results.toList ah))) := runH_runC.trans (cnv_eqH (hlp gCv cf_cnv) t1 c h w t2 m x y)
def winC (h w pl pe : Int) : AV := .d (Y4) (h, w, 1, 1, [1, 1], [1, 1], 0, 0, pl, pe, ())
def hpCi (t1 c h w t2 m pl pe : Int) (x y o : List Int) : LHp := hpCv false t1 [1, c, h, w] x t2 [m, c, 1, 1] y [1, m, h, w] ++ [(3, .box (.d (Y0) (t1, [1, c, h, w], x, ()))), (4, .box (.d (Y0) (t2, [m, c, 1, 1], y, ()))), (5, .box (winC h w pl pe)), (6, .arr 2 i64T 0 false o)]
def stC0 (t1 c h w t2 m pl pe per : Int) (x y o : List Int) (N i : Int) : LSt := { fr := mkFr 8 [(1, AV.os 1 0), (2, AV.os 0 0), (7, AV.op 3 [] 0), (8, AV.op 4 [] 0), (9, AV.op 5 [] 0), (11, I c), (12, I 1), (13, I per), (16, AV.os 6 0), (69, I N), (70, I i)], hp := hpCi t1 c h w t2 m pl pe x y o, nx := 10 }
theorem cnv_s0H (hl : Hl) (t1 c h w t2 m pl pe per : Int) (x y o : List Int) (N i : Int) (n : Nat) {R : Type} (k : AEx → LSt → Option R) : lpH gCv cf_cnv [9, 15] hl (cL (cL (cR (cL (cR (cR (cR (cR (cR (cR (cR (cR C_cnv)))))))))))) (n + 1) (stC0 t1 c h w t2 m pl pe per x y o N i) k = bif decide (i < N) then  bif countE [1, m, h, w] != 0 then none else  bif decide (i < 0) then none else  bif decide (i ≥ countN [1, m, h, w]) then none else  bif countE [1, m, h, w] != 0 then hl (cL (cL (cR (cL (cR (cR (cR (cR (cL (cL (cR (cR (cL (cL (cR (cL (cR (cR (cR (cR (cR (cR (cR (cR C_cnv)))))))))))))))))))))))) _ { fr := mkFr 8 [(1, AV.os 1 0), (2, AV.os 0 0), (7, AV.op 3 [] 0), (8, AV.op 4 [] 0), (9, AV.op 5 [] 0), (11, I c), (12, I 1), (13, I per), (16, AV.os 6 0), (17, I i), (18, AV.os 7 0), (20, I 0), (21, AV.op 8 [] 0), (69, I N), (70, I i), (82, I c), (83, I 0)], hp := [(0, AObj.arr 3 (i64T) 0 false [1, m, h, w]), (1, AObj.arr 25 Y0 0 false [(t1, [1, c, h, w], x, ()), (t2, [m, c, 1, 1], y, ())]), (2, AObj.arr 9 Ty.str 0 false [[120], [119]]), (3, AObj.box (AV.d Y0 (t1, [1, c, h, w], x, ()))), (4, AObj.box (AV.d Y0 (t2, [m, c, 1, 1], y, ()))), (5, AObj.box (AV.d ((i64T).pair ((i64T).pair ((i64T).pair ((i64T).pair ((Ty.arr 2 (i64T)).pair ((Ty.arr 2 (i64T)).pair ((i64T).pair ((i64T).pair ((i64T).pair ((i64T).pair Ty.unit)))))))))) (h, w, 1, 1, [1, 1], [1, 1], 0, 0, pl, pe, ()))), (6, AObj.arr 2 (i64T) 0 false o), (7, AObj.arr 3 (i64T) 0 false [0, 0, 0, 0]), (8, AObj.box (I 0))], nx := 12 } (blkK 2 (seqH gCv cf_cnv [9, 15] hl (cR (cR (cR (cR (cR (cL (cL (cR (cR (cL (cL (cR (cL (cR (cR (cR (cR (cR (cR (cR (cR C_cnv))))))))))))))))))))) (blkK 1 (seqH gCv cf_cnv [9, 15] hl (cR (cR (cR (cL (cL (cR (cL (cR (cR (cR (cR (cR (cR (cR (cR C_cnv))))))))))))))) (nxtH gCv cf_cnv [9, 15] hl (cL (cL (cR (cL (cR (cR (cR (cR (cR (cR (cR (cR C_cnv)))))))))))) n k))))) else (if IntKind.i64.wrap (IntKind.i64.wrap (IntKind.i64.wrap (1 * w) * h) * m) = 0 then none else some (IntKind.i64.wrap (i.tdiv (IntKind.i64.wrap (IntKind.i64.wrap (IntKind.i64.wrap (1 * w) * h) * m))))).bind fun v5 => (if IntKind.i64.wrap (IntKind.i64.wrap (IntKind.i64.wrap (1 * w) * h) * m) = 0 then none else some (i.tmod (IntKind.i64.wrap (IntKind.i64.wrap (IntKind.i64.wrap (1 * w) * h) * m)))).bind fun v6 => (if IntKind.i64.wrap (IntKind.i64.wrap (1 * w) * h) = 0 then none else some (IntKind.i64.wrap (v6.tdiv (IntKind.i64.wrap (IntKind.i64.wrap (1 * w) * h))))).bind fun v7 => (if IntKind.i64.wrap (IntKind.i64.wrap (1 * w) * h) = 0 then none else some (v6.tmod (IntKind.i64.wrap (IntKind.i64.wrap (1 * w) * h)))).bind fun v8 => (if IntKind.i64.wrap (1 * w) = 0 then none else some (IntKind.i64.wrap (v8.tdiv (IntKind.i64.wrap (1 * w))))).bind fun v9 => (if IntKind.i64.wrap (1 * w) = 0 then none else some (v8.tmod (IntKind.i64.wrap (1 * w)))).bind fun v10 => hl (cL (cL (cR (cL (cR (cR (cR (cR (cL (cL (cR (cR (cL (cL (cR (cL (cR (cR (cR (cR (cR (cR (cR (cR C_cnv)))))))))))))))))))))))) _ { fr := mkFr 8 [(1, AV.os 1 0), (2, AV.os 0 0), (7, AV.op 3 [] 0), (8, AV.op 4 [] 0), (9, AV.op 5 [] 0), (11, I c), (12, I 1), (13, I per), (16, AV.os 6 0), (17, I i), (18, AV.os 7 0), (20, I v7), (21, AV.op 8 [] 0), (69, I N), (70, I i), (82, I c), (83, I 0)], hp := [(0, AObj.arr 3 (i64T) 0 false [1, m, h, w]), (1, AObj.arr 25 Y0 0 false [(t1, [1, c, h, w], x, ()), (t2, [m, c, 1, 1], y, ())]), (2, AObj.arr 9 Ty.str 0 false [[120], [119]]), (3, AObj.box (AV.d Y0 (t1, [1, c, h, w], x, ()))), (4, AObj.box (AV.d Y0 (t2, [m, c, 1, 1], y, ()))), (5, AObj.box (AV.d ((i64T).pair ((i64T).pair ((i64T).pair ((i64T).pair ((Ty.arr 2 (i64T)).pair ((Ty.arr 2 (i64T)).pair ((i64T).pair ((i64T).pair ((i64T).pair ((i64T).pair Ty.unit)))))))))) (h, w, 1, 1, [1, 1], [1, 1], 0, 0, pl, pe, ()))), (6, AObj.arr 2 (i64T) 0 false o), (7, AObj.arr 3 (i64T) 0 false [v5, v7, v9, IntKind.i64.wrap (v10.tdiv 1)]), (8, AObj.box (I 0))], nx := 12 } (blkK 2 (seqH gCv cf_cnv [9, 15] hl (cR (cR (cR (cR (cR (cL (cL (cR (cR (cL (cL (cR (cL (cR (cR (cR (cR (cR (cR (cR (cR C_cnv))))))))))))))))))))) (blkK 1 (seqH gCv cf_cnv [9, 15] hl (cR (cR (cR (cL (cL (cR (cL (cR (cR (cR (cR (cR (cR (cR (cR C_cnv))))))))))))))) (nxtH gCv cf_cnv [9, 15] hl (cL (cL (cR (cL (cR (cR (cR (cR (cR (cR (cR (cR C_cnv)))))))))))) n k))))) else k (AEx.exit 0) { fr := mkFr 8 [(1, AV.os 1 0), (2, AV.os 0 0), (7, AV.op 3 [] 0), (8, AV.op 4 [] 0), (9, AV.op 5 [] 0), (11, I c), (12, I 1), (13, I per), (16, AV.os 6 0), (69, I N), (70, I i), (71, B false)], hp := [(0, AObj.arr 3 (i64T) 0 false [1, m, h, w]), (1, AObj.arr 25 Y0 0 false [(t1, [1, c, h, w], x, ()), (t2, [m, c, 1, 1], y, ())]), (2, AObj.arr 9 Ty.str 0 false [[120], [119]]), (3, AObj.box (AV.d Y0 (t1, [1, c, h, w], x, ()))), (4, AObj.box (AV.d Y0 (t2, [m, c, 1, 1], y, ()))), (5, AObj.box (AV.d ((i64T).pair ((i64T).pair ((i64T).pair ((i64T).pair ((Ty.arr 2 (i64T)).pair ((Ty.arr 2 (i64T)).pair ((i64T).pair ((i64T).pair ((i64T).pair ((i64T).pair Ty.unit)))))))))) (h, w, 1, 1, [1, 1], [1, 1], 0, 0, pl, pe, ()))), (6, AObj.arr 2 (i64T) 0 false o)], nx := 10 } := by kernel_rfl
theorem cnv_s0 (t1 c h w t2 m pl pe per : Int) (x y o : List Int) (N i : Int) (n : Nat) {R : Type} (k : AEx → LSt → Option R) : lp gCv cf_cnv (cL (cL (cR (cL (cR (cR (cR (cR (cR (cR (cR (cR C_cnv)))))))))))) (n + 1) (stC0 t1 c h w t2 m pl pe per x y o N i) k = bif decide (i < N) then  bif countE [1, m, h, w] != 0 then none else  bif decide (i < 0) then none else  bif decide (i ≥ countN [1, m, h, w]) then none else  bif countE [1, m, h, w] != 0 then (hlp gCv cf_cnv) (cL (cL (cR (cL (cR (cR (cR (cR (cL (cL (cR (cR (cL (cL (cR (cL (cR (cR (cR (cR (cR (cR (cR (cR C_cnv)))))))))))))))))))))))) _ { fr := mkFr 8 [(1, AV.os 1 0), (2, AV.os 0 0), (7, AV.op 3 [] 0), (8, AV.op 4 [] 0), (9, AV.op 5 [] 0), (11, I c), (12, I 1), (13, I per), (16, AV.os 6 0), (17, I i), (18, AV.os 7 0), (20, I 0), (21, AV.op 8 [] 0), (69, I N), (70, I i), (82, I c), (83, I 0)], hp := [(0, AObj.arr 3 (i64T) 0 false [1, m, h, w]), (1, AObj.arr 25 Y0 0 false [(t1, [1, c, h, w], x, ()), (t2, [m, c, 1, 1], y, ())]), (2, AObj.arr 9 Ty.str 0 false [[120], [119]]), (3, AObj.box (AV.d Y0 (t1, [1, c, h, w], x, ()))), (4, AObj.box (AV.d Y0 (t2, [m, c, 1, 1], y, ()))), (5, AObj.box (AV.d ((i64T).pair ((i64T).pair ((i64T).pair ((i64T).pair ((Ty.arr 2 (i64T)).pair ((Ty.arr 2 (i64T)).pair ((i64T).pair ((i64T).pair ((i64T).pair ((i64T).pair Ty.unit)))))))))) (h, w, 1, 1, [1, 1], [1, 1], 0, 0, pl, pe, ()))), (6, AObj.arr 2 (i64T) 0 false o), (7, AObj.arr 3 (i64T) 0 false [0, 0, 0, 0]), (8, AObj.box (I 0))], nx := 12 } (blkK 2 (seqH gCv cf_cnv [9, 15] (hlp gCv cf_cnv) (cR (cR (cR (cR (cR (cL (cL (cR (cR (cL (cL (cR (cL (cR (cR (cR (cR (cR (cR (cR (cR C_cnv))))))))))))))))))))) (blkK 1 (seqH gCv cf_cnv [9, 15] (hlp gCv cf_cnv) (cR (cR (cR (cL (cL (cR (cL (cR (cR (cR (cR (cR (cR (cR (cR C_cnv))))))))))))))) (nxtH gCv cf_cnv [9, 15] (hlp gCv cf_cnv) (cL (cL (cR (cL (cR (cR (cR (cR (cR (cR (cR (cR C_cnv)))))))))))) n k))))) else (if IntKind.i64.wrap (IntKind.i64.wrap (IntKind.i64.wrap (1 * w) * h) * m) = 0 then none else some (IntKind.i64.wrap (i.tdiv (IntKind.i64.wrap (IntKind.i64.wrap (IntKind.i64.wrap (1 * w) * h) * m))))).bind fun v5 => (if IntKind.i64.wrap (IntKind.i64.wrap (IntKind.i64.wrap (1 * w) * h) * m) = 0 then none else some (i.tmod (IntKind.i64.wrap (IntKind.i64.wrap (IntKind.i64.wrap (1 * w) * h) * m)))).bind fun v6 => (if IntKind.i64.wrap (IntKind.i64.wrap (1 * w) * h) = 0 then none else some (IntKind.i64.wrap (v6.tdiv (IntKind.i64.wrap (IntKind.i64.wrap (1 * w) * h))))).bind fun v7 => (if IntKind.i64.wrap (IntKind.i64.wrap (1 * w) * h) = 0 then none else some (v6.tmod (IntKind.i64.wrap (IntKind.i64.wrap (1 * w) * h)))).bind fun v8 => (if IntKind.i64.wrap (1 * w) = 0 then none else some (IntKind.i64.wrap (v8.tdiv (IntKind.i64.wrap (1 * w))))).bind fun v9 => (if IntKind.i64.wrap (1 * w) = 0 then none else some (v8.tmod (IntKind.i64.wrap (1 * w)))).bind fun v10 => (hlp gCv cf_cnv) (cL (cL (cR (cL (cR (cR (cR (cR (cL (cL (cR (cR (cL (cL (cR (cL (cR (cR (cR (cR (cR (cR (cR (cR C_cnv)))))))))))))))))))))))) _ { fr := mkFr 8 [(1, AV.os 1 0), (2, AV.os 0 0), (7, AV.op 3 [] 0), (8, AV.op 4 [] 0), (9, AV.op 5 [] 0), (11, I c), (12, I 1), (13, I per), (16, AV.os 6 0), (17, I i), (18, AV.os 7 0), (20, I v7), (21, AV.op 8 [] 0), (69, I N), (70, I i), (82, I c), (83, I 0)], hp := [(0, AObj.arr 3 (i64T) 0 false [1, m, h, w]), (1, AObj.arr 25 Y0 0 false [(t1, [1, c, h, w], x, ()), (t2, [m, c, 1, 1], y, ())]), (2, AObj.arr 9 Ty.str 0 false [[120], [119]]), (3, AObj.box (AV.d Y0 (t1, [1, c, h, w], x, ()))), (4, AObj.box (AV.d Y0 (t2, [m, c, 1, 1], y, ()))), (5, AObj.box (AV.d ((i64T).pair ((i64T).pair ((i64T).pair ((i64T).pair ((Ty.arr 2 (i64T)).pair ((Ty.arr 2 (i64T)).pair ((i64T).pair ((i64T).pair ((i64T).pair ((i64T).pair Ty.unit)))))))))) (h, w, 1, 1, [1, 1], [1, 1], 0, 0, pl, pe, ()))), (6, AObj.arr 2 (i64T) 0 false o), (7, AObj.arr 3 (i64T) 0 false [v5, v7, v9, IntKind.i64.wrap (v10.tdiv 1)]), (8, AObj.box (I 0))], nx := 12 } (blkK 2 (seqH gCv cf_cnv [9, 15] (hlp gCv cf_cnv) (cR (cR (cR (cR (cR (cL (cL (cR (cR (cL (cL (cR (cL (cR (cR (cR (cR (cR (cR (cR (cR C_cnv))))))))))))))))))))) (blkK 1 (seqH gCv cf_cnv [9, 15] (hlp gCv cf_cnv) (cR (cR (cR (cL (cL (cR (cL (cR (cR (cR (cR (cR (cR (cR (cR C_cnv))))))))))))))) (nxtH gCv cf_cnv [9, 15] (hlp gCv cf_cnv) (cL (cL (cR (cL (cR (cR (cR (cR (cR (cR (cR (cR C_cnv)))))))))))) n k))))) else k (AEx.exit 0) { fr := mkFr 8 [(1, AV.os 1 0), (2, AV.os 0 0), (7, AV.op 3 [] 0), (8, AV.op 4 [] 0), (9, AV.op 5 [] 0), (11, I c), (12, I 1), (13, I per), (16, AV.os 6 0), (69, I N), (70, I i), (71, B false)], hp := [(0, AObj.arr 3 (i64T) 0 false [1, m, h, w]), (1, AObj.arr 25 Y0 0 false [(t1, [1, c, h, w], x, ()), (t2, [m, c, 1, 1], y, ())]), (2, AObj.arr 9 Ty.str 0 false [[120], [119]]), (3, AObj.box (AV.d Y0 (t1, [1, c, h, w], x, ()))), (4, AObj.box (AV.d Y0 (t2, [m, c, 1, 1], y, ()))), (5, AObj.box (AV.d ((i64T).pair ((i64T).pair ((i64T).pair ((i64T).pair ((Ty.arr 2 (i64T)).pair ((Ty.arr 2 (i64T)).pair ((i64T).pair ((i64T).pair ((i64T).pair ((i64T).pair Ty.unit)))))))))) (h, w, 1, 1, [1, 1], [1, 1], 0, 0, pl, pe, ()))), (6, AObj.arr 2 (i64T) 0 false o)], nx := 10 } := by
  have h := cnv_s0H (hlp gCv cf_cnv) t1 c h w t2 m pl pe per x y o N i n k
  simp only [lpH_lp] at h
  exact h
def stC1 (t1 c h w t2 m pl pe per : Int) (x y o : List Int) (N i q a b s ch : Int) : LSt := { fr := mkFr 8 [(1, AV.os 1 0), (2, AV.os 0 0), (7, AV.op 3 [] 0), (8, AV.op 4 [] 0), (9, AV.op 5 [] 0), (11, I c), (12, I 1), (13, I per), (16, AV.os 6 0), (17, I i), (18, AV.os 7 0), (20, I q), (21, AV.op 8 [] 0), (69, I N), (70, I i), (82, I c), (83, I ch)], hp := hpCi t1 c h w t2 m pl pe x y o ++ [(7, .arr 3 i64T 0 false [0, q, a, b]), (8, .box (I s))], nx := 12 }
theorem cnv_s1H (hl : Hl) (t1 c h w t2 m pl pe per : Int) (x y o : List Int) (N i q a b s ch : Int) (n : Nat) {R : Type} (k : AEx → LSt → Option R) : lpH gCv cf_cnv [9, 15] hl (cL (cL (cR (cL (cR (cR (cR (cR (cL (cL (cR (cR (cL (cL (cR (cL (cR (cR (cR (cR (cR (cR (cR (cR C_cnv)))))))))))))))))))))))) (n + 1) (stC1 t1 c h w t2 m pl pe per x y o N i q a b s ch) k = bif decide (ch < c) then (if per = 0 then none else some (IntKind.i64.wrap (q.tdiv per))).bind fun v1 => (if 0 ≤ IntKind.i64.wrap (IntKind.i64.wrap (IntKind.i64.wrap (IntKind.i64.wrap (0 * c) + IntKind.i64.wrap (v1 * c)) + ch) * pe) ∧ IntKind.i64.wrap (IntKind.i64.wrap (IntKind.i64.wrap (IntKind.i64.wrap (0 * c) + IntKind.i64.wrap (v1 * c)) + ch) * pe) ≤ Int.ofNat x.length ∧ Int.ofNat x.length ≤ Int.ofNat x.length then some (List.drop (IntKind.i64.wrap (IntKind.i64.wrap (IntKind.i64.wrap (IntKind.i64.wrap (0 * c) + IntKind.i64.wrap (v1 * c)) + ch) * pe)).toNat (List.take (Int.ofNat x.length).toNat x)) else none).bind fun v2 => (if (0 : Int) ≤ 0 ∧ 0 ≤ pe ∧ pe ≤ Int.ofNat v2.length then some (List.drop 0 (List.take pe.toNat v2)) else none).bind fun v3 => (if 0 ≤ IntKind.i64.wrap (IntKind.i64.wrap (IntKind.i64.wrap (q * c) + ch) * 1) ∧ IntKind.i64.wrap (IntKind.i64.wrap (IntKind.i64.wrap (q * c) + ch) * 1) ≤ Int.ofNat y.length ∧ Int.ofNat y.length ≤ Int.ofNat y.length then some (List.drop (IntKind.i64.wrap (IntKind.i64.wrap (IntKind.i64.wrap (q * c) + ch) * 1)).toNat (List.take (Int.ofNat y.length).toNat y)) else none).bind fun v4 => (if (0 : Int) ≤ 0 ∧ (0 : Int) ≤ 1 ∧ 1 ≤ Int.ofNat v4.length then some (List.drop 0 (List.take 1 v4)) else none).bind fun v5 => bif decide (IntKind.i64.wrap (IntKind.i64.wrap (IntKind.i64.wrap (a * 1) - 0) + 0) < 0) then lpH gCv cf_cnv [9, 15] hl (cL (cL (cR (cL (cR (cR (cR (cR (cL (cL (cR (cR (cL (cL (cR (cL (cR (cR (cR (cR (cR (cR (cR (cR C_cnv)))))))))))))))))))))))) n { fr := mkFr 8 [(1, AV.os 1 0), (2, AV.os 0 0), (7, AV.op 3 [] 0), (8, AV.op 4 [] 0), (9, AV.op 5 [] 0), (11, I c), (12, I 1), (13, I per), (16, AV.os 6 0), (17, I i), (18, AV.os 7 0), (20, I q), (21, AV.op 8 [] 0), (69, I N), (70, I i), (82, I c), (83, I (IntKind.i64.wrap (ch + 1)))], hp := [(0, AObj.arr 3 (i64T) 0 false [1, m, h, w]), (1, AObj.arr 25 Y0 0 false [(t1, [1, c, h, w], x, ()), (t2, [m, c, 1, 1], y, ())]), (2, AObj.arr 9 Ty.str 0 false [[120], [119]]), (3, AObj.box (AV.d Y0 (t1, [1, c, h, w], x, ()))), (4, AObj.box (AV.d Y0 (t2, [m, c, 1, 1], y, ()))), (5, AObj.box (AV.d ((i64T).pair ((i64T).pair ((i64T).pair ((i64T).pair ((Ty.arr 2 (i64T)).pair ((Ty.arr 2 (i64T)).pair ((i64T).pair ((i64T).pair ((i64T).pair ((i64T).pair Ty.unit)))))))))) (h, w, 1, 1, [1, 1], [1, 1], 0, 0, pl, pe, ()))), (6, AObj.arr 2 (i64T) 0 false o), (7, AObj.arr 3 (i64T) 0 false [0, q, a, b]), (8, AObj.box (I s))], nx := 12 } k else  bif decide (IntKind.i64.wrap (IntKind.i64.wrap (IntKind.i64.wrap (a * 1) - 0) + 0) ≥ h) then lpH gCv cf_cnv [9, 15] hl (cL (cL (cR (cL (cR (cR (cR (cR (cL (cL (cR (cR (cL (cL (cR (cL (cR (cR (cR (cR (cR (cR (cR (cR C_cnv)))))))))))))))))))))))) n { fr := mkFr 8 [(1, AV.os 1 0), (2, AV.os 0 0), (7, AV.op 3 [] 0), (8, AV.op 4 [] 0), (9, AV.op 5 [] 0), (11, I c), (12, I 1), (13, I per), (16, AV.os 6 0), (17, I i), (18, AV.os 7 0), (20, I q), (21, AV.op 8 [] 0), (69, I N), (70, I i), (82, I c), (83, I (IntKind.i64.wrap (ch + 1)))], hp := [(0, AObj.arr 3 (i64T) 0 false [1, m, h, w]), (1, AObj.arr 25 Y0 0 false [(t1, [1, c, h, w], x, ()), (t2, [m, c, 1, 1], y, ())]), (2, AObj.arr 9 Ty.str 0 false [[120], [119]]), (3, AObj.box (AV.d Y0 (t1, [1, c, h, w], x, ()))), (4, AObj.box (AV.d Y0 (t2, [m, c, 1, 1], y, ()))), (5, AObj.box (AV.d ((i64T).pair ((i64T).pair ((i64T).pair ((i64T).pair ((Ty.arr 2 (i64T)).pair ((Ty.arr 2 (i64T)).pair ((i64T).pair ((i64T).pair ((i64T).pair ((i64T).pair Ty.unit)))))))))) (h, w, 1, 1, [1, 1], [1, 1], 0, 0, pl, pe, ()))), (6, AObj.arr 2 (i64T) 0 false o), (7, AObj.arr 3 (i64T) 0 false [0, q, a, b]), (8, AObj.box (I s))], nx := 12 } k else  bif decide (IntKind.i64.wrap (IntKind.i64.wrap (IntKind.i64.wrap (b * 1) - 0) + 0) < 0) then lpH gCv cf_cnv [9, 15] hl (cL (cL (cR (cL (cR (cR (cR (cR (cL (cL (cR (cR (cL (cL (cR (cL (cR (cR (cR (cR (cR (cR (cR (cR C_cnv)))))))))))))))))))))))) n { fr := mkFr 8 [(1, AV.os 1 0), (2, AV.os 0 0), (7, AV.op 3 [] 0), (8, AV.op 4 [] 0), (9, AV.op 5 [] 0), (11, I c), (12, I 1), (13, I per), (16, AV.os 6 0), (17, I i), (18, AV.os 7 0), (20, I q), (21, AV.op 8 [] 0), (69, I N), (70, I i), (82, I c), (83, I (IntKind.i64.wrap (ch + 1)))], hp := [(0, AObj.arr 3 (i64T) 0 false [1, m, h, w]), (1, AObj.arr 25 Y0 0 false [(t1, [1, c, h, w], x, ()), (t2, [m, c, 1, 1], y, ())]), (2, AObj.arr 9 Ty.str 0 false [[120], [119]]), (3, AObj.box (AV.d Y0 (t1, [1, c, h, w], x, ()))), (4, AObj.box (AV.d Y0 (t2, [m, c, 1, 1], y, ()))), (5, AObj.box (AV.d ((i64T).pair ((i64T).pair ((i64T).pair ((i64T).pair ((Ty.arr 2 (i64T)).pair ((Ty.arr 2 (i64T)).pair ((i64T).pair ((i64T).pair ((i64T).pair ((i64T).pair Ty.unit)))))))))) (h, w, 1, 1, [1, 1], [1, 1], 0, 0, pl, pe, ()))), (6, AObj.arr 2 (i64T) 0 false o), (7, AObj.arr 3 (i64T) 0 false [0, q, a, b]), (8, AObj.box (I s))], nx := 12 } k else  bif decide (IntKind.i64.wrap (IntKind.i64.wrap (IntKind.i64.wrap (b * 1) - 0) + 0) ≥ w) then lpH gCv cf_cnv [9, 15] hl (cL (cL (cR (cL (cR (cR (cR (cR (cL (cL (cR (cR (cL (cL (cR (cL (cR (cR (cR (cR (cR (cR (cR (cR C_cnv)))))))))))))))))))))))) n { fr := mkFr 8 [(1, AV.os 1 0), (2, AV.os 0 0), (7, AV.op 3 [] 0), (8, AV.op 4 [] 0), (9, AV.op 5 [] 0), (11, I c), (12, I 1), (13, I per), (16, AV.os 6 0), (17, I i), (18, AV.os 7 0), (20, I q), (21, AV.op 8 [] 0), (69, I N), (70, I i), (82, I c), (83, I (IntKind.i64.wrap (ch + 1)))], hp := [(0, AObj.arr 3 (i64T) 0 false [1, m, h, w]), (1, AObj.arr 25 Y0 0 false [(t1, [1, c, h, w], x, ()), (t2, [m, c, 1, 1], y, ())]), (2, AObj.arr 9 Ty.str 0 false [[120], [119]]), (3, AObj.box (AV.d Y0 (t1, [1, c, h, w], x, ()))), (4, AObj.box (AV.d Y0 (t2, [m, c, 1, 1], y, ()))), (5, AObj.box (AV.d ((i64T).pair ((i64T).pair ((i64T).pair ((i64T).pair ((Ty.arr 2 (i64T)).pair ((Ty.arr 2 (i64T)).pair ((i64T).pair ((i64T).pair ((i64T).pair ((i64T).pair Ty.unit)))))))))) (h, w, 1, 1, [1, 1], [1, 1], 0, 0, pl, pe, ()))), (6, AObj.arr 2 (i64T) 0 false o), (7, AObj.arr 3 (i64T) 0 false [0, q, a, b]), (8, AObj.box (I s))], nx := 12 } k else (idx v3 (IntKind.i64.wrap (IntKind.i64.wrap (IntKind.i64.wrap (IntKind.i64.wrap (IntKind.i64.wrap (a * 1) - 0) + 0) * w) + IntKind.i64.wrap (IntKind.i64.wrap (IntKind.i64.wrap (b * 1) - 0) + 0)))).bind fun v10 => (idx v5 0).bind fun v11 => lpH gCv cf_cnv [9, 15] hl (cL (cL (cR (cL (cR (cR (cR (cR (cL (cL (cR (cR (cL (cL (cR (cL (cR (cR (cR (cR (cR (cR (cR (cR C_cnv)))))))))))))))))))))))) n { fr := mkFr 8 [(1, AV.os 1 0), (2, AV.os 0 0), (7, AV.op 3 [] 0), (8, AV.op 4 [] 0), (9, AV.op 5 [] 0), (11, I c), (12, I 1), (13, I per), (16, AV.os 6 0), (17, I i), (18, AV.os 7 0), (20, I q), (21, AV.op 8 [] 0), (69, I N), (70, I i), (82, I c), (83, I (IntKind.i64.wrap (ch + 1)))], hp := [(0, AObj.arr 3 (i64T) 0 false [1, m, h, w]), (1, AObj.arr 25 Y0 0 false [(t1, [1, c, h, w], x, ()), (t2, [m, c, 1, 1], y, ())]), (2, AObj.arr 9 Ty.str 0 false [[120], [119]]), (3, AObj.box (AV.d Y0 (t1, [1, c, h, w], x, ()))), (4, AObj.box (AV.d Y0 (t2, [m, c, 1, 1], y, ()))), (5, AObj.box (AV.d ((i64T).pair ((i64T).pair ((i64T).pair ((i64T).pair ((Ty.arr 2 (i64T)).pair ((Ty.arr 2 (i64T)).pair ((i64T).pair ((i64T).pair ((i64T).pair ((i64T).pair Ty.unit)))))))))) (h, w, 1, 1, [1, 1], [1, 1], 0, 0, pl, pe, ()))), (6, AObj.arr 2 (i64T) 0 false o), (7, AObj.arr 3 (i64T) 0 false [0, q, a, b]), (8, AObj.box (I (binW BinOp.add s (binW BinOp.mul v10 v11))))], nx := 12 } k else k (AEx.exit 2) { fr := mkFr 8 [(1, AV.os 1 0), (2, AV.os 0 0), (7, AV.op 3 [] 0), (8, AV.op 4 [] 0), (9, AV.op 5 [] 0), (11, I c), (12, I 1), (13, I per), (16, AV.os 6 0), (17, I i), (18, AV.os 7 0), (20, I q), (21, AV.op 8 [] 0), (69, I N), (70, I i), (82, I c), (83, I ch), (84, B false)], hp := [(0, AObj.arr 3 (i64T) 0 false [1, m, h, w]), (1, AObj.arr 25 Y0 0 false [(t1, [1, c, h, w], x, ()), (t2, [m, c, 1, 1], y, ())]), (2, AObj.arr 9 Ty.str 0 false [[120], [119]]), (3, AObj.box (AV.d Y0 (t1, [1, c, h, w], x, ()))), (4, AObj.box (AV.d Y0 (t2, [m, c, 1, 1], y, ()))), (5, AObj.box (AV.d ((i64T).pair ((i64T).pair ((i64T).pair ((i64T).pair ((Ty.arr 2 (i64T)).pair ((Ty.arr 2 (i64T)).pair ((i64T).pair ((i64T).pair ((i64T).pair ((i64T).pair Ty.unit)))))))))) (h, w, 1, 1, [1, 1], [1, 1], 0, 0, pl, pe, ()))), (6, AObj.arr 2 (i64T) 0 false o), (7, AObj.arr 3 (i64T) 0 false [0, q, a, b]), (8, AObj.box (I s))], nx := 12 } := by kernel_rfl
theorem cnv_s1 (t1 c h w t2 m pl pe per : Int) (x y o : List Int) (N i q a b s ch : Int) (n : Nat) {R : Type} (k : AEx → LSt → Option R) : lp gCv cf_cnv (cL (cL (cR (cL (cR (cR (cR (cR (cL (cL (cR (cR (cL (cL (cR (cL (cR (cR (cR (cR (cR (cR (cR (cR C_cnv)))))))))))))))))))))))) (n + 1) (stC1 t1 c h w t2 m pl pe per x y o N i q a b s ch) k = bif decide (ch < c) then (if per = 0 then none else some (IntKind.i64.wrap (q.tdiv per))).bind fun v1 => (if 0 ≤ IntKind.i64.wrap (IntKind.i64.wrap (IntKind.i64.wrap (IntKind.i64.wrap (0 * c) + IntKind.i64.wrap (v1 * c)) + ch) * pe) ∧ IntKind.i64.wrap (IntKind.i64.wrap (IntKind.i64.wrap (IntKind.i64.wrap (0 * c) + IntKind.i64.wrap (v1 * c)) + ch) * pe) ≤ Int.ofNat x.length ∧ Int.ofNat x.length ≤ Int.ofNat x.length then some (List.drop (IntKind.i64.wrap (IntKind.i64.wrap (IntKind.i64.wrap (IntKind.i64.wrap (0 * c) + IntKind.i64.wrap (v1 * c)) + ch) * pe)).toNat (List.take (Int.ofNat x.length).toNat x)) else none).bind fun v2 => (if (0 : Int) ≤ 0 ∧ 0 ≤ pe ∧ pe ≤ Int.ofNat v2.length then some (List.drop 0 (List.take pe.toNat v2)) else none).bind fun v3 => (if 0 ≤ IntKind.i64.wrap (IntKind.i64.wrap (IntKind.i64.wrap (q * c) + ch) * 1) ∧ IntKind.i64.wrap (IntKind.i64.wrap (IntKind.i64.wrap (q * c) + ch) * 1) ≤ Int.ofNat y.length ∧ Int.ofNat y.length ≤ Int.ofNat y.length then some (List.drop (IntKind.i64.wrap (IntKind.i64.wrap (IntKind.i64.wrap (q * c) + ch) * 1)).toNat (List.take (Int.ofNat y.length).toNat y)) else none).bind fun v4 => (if (0 : Int) ≤ 0 ∧ (0 : Int) ≤ 1 ∧ 1 ≤ Int.ofNat v4.length then some (List.drop 0 (List.take 1 v4)) else none).bind fun v5 => bif decide (IntKind.i64.wrap (IntKind.i64.wrap (IntKind.i64.wrap (a * 1) - 0) + 0) < 0) then lp gCv cf_cnv (cL (cL (cR (cL (cR (cR (cR (cR (cL (cL (cR (cR (cL (cL (cR (cL (cR (cR (cR (cR (cR (cR (cR (cR C_cnv)))))))))))))))))))))))) n { fr := mkFr 8 [(1, AV.os 1 0), (2, AV.os 0 0), (7, AV.op 3 [] 0), (8, AV.op 4 [] 0), (9, AV.op 5 [] 0), (11, I c), (12, I 1), (13, I per), (16, AV.os 6 0), (17, I i), (18, AV.os 7 0), (20, I q), (21, AV.op 8 [] 0), (69, I N), (70, I i), (82, I c), (83, I (IntKind.i64.wrap (ch + 1)))], hp := [(0, AObj.arr 3 (i64T) 0 false [1, m, h, w]), (1, AObj.arr 25 Y0 0 false [(t1, [1, c, h, w], x, ()), (t2, [m, c, 1, 1], y, ())]), (2, AObj.arr 9 Ty.str 0 false [[120], [119]]), (3, AObj.box (AV.d Y0 (t1, [1, c, h, w], x, ()))), (4, AObj.box (AV.d Y0 (t2, [m, c, 1, 1], y, ()))), (5, AObj.box (AV.d ((i64T).pair ((i64T).pair ((i64T).pair ((i64T).pair ((Ty.arr 2 (i64T)).pair ((Ty.arr 2 (i64T)).pair ((i64T).pair ((i64T).pair ((i64T).pair ((i64T).pair Ty.unit)))))))))) (h, w, 1, 1, [1, 1], [1, 1], 0, 0, pl, pe, ()))), (6, AObj.arr 2 (i64T) 0 false o), (7, AObj.arr 3 (i64T) 0 false [0, q, a, b]), (8, AObj.box (I s))], nx := 12 } k else  bif decide (IntKind.i64.wrap (IntKind.i64.wrap (IntKind.i64.wrap (a * 1) - 0) + 0) ≥ h) then lp gCv cf_cnv (cL (cL (cR (cL (cR (cR (cR (cR (cL (cL (cR (cR (cL (cL (cR (cL (cR (cR (cR (cR (cR (cR (cR (cR C_cnv)))))))))))))))))))))))) n { fr := mkFr 8 [(1, AV.os 1 0), (2, AV.os 0 0), (7, AV.op 3 [] 0), (8, AV.op 4 [] 0), (9, AV.op 5 [] 0), (11, I c), (12, I 1), (13, I per), (16, AV.os 6 0), (17, I i), (18, AV.os 7 0), (20, I q), (21, AV.op 8 [] 0), (69, I N), (70, I i), (82, I c), (83, I (IntKind.i64.wrap (ch + 1)))], hp := [(0, AObj.arr 3 (i64T) 0 false [1, m, h, w]), (1, AObj.arr 25 Y0 0 false [(t1, [1, c, h, w], x, ()), (t2, [m, c, 1, 1], y, ())]), (2, AObj.arr 9 Ty.str 0 false [[120], [119]]), (3, AObj.box (AV.d Y0 (t1, [1, c, h, w], x, ()))), (4, AObj.box (AV.d Y0 (t2, [m, c, 1, 1], y, ()))), (5, AObj.box (AV.d ((i64T).pair ((i64T).pair ((i64T).pair ((i64T).pair ((Ty.arr 2 (i64T)).pair ((Ty.arr 2 (i64T)).pair ((i64T).pair ((i64T).pair ((i64T).pair ((i64T).pair Ty.unit)))))))))) (h, w, 1, 1, [1, 1], [1, 1], 0, 0, pl, pe, ()))), (6, AObj.arr 2 (i64T) 0 false o), (7, AObj.arr 3 (i64T) 0 false [0, q, a, b]), (8, AObj.box (I s))], nx := 12 } k else  bif decide (IntKind.i64.wrap (IntKind.i64.wrap (IntKind.i64.wrap (b * 1) - 0) + 0) < 0) then lp gCv cf_cnv (cL (cL (cR (cL (cR (cR (cR (cR (cL (cL (cR (cR (cL (cL (cR (cL (cR (cR (cR (cR (cR (cR (cR (cR C_cnv)))))))))))))))))))))))) n { fr := mkFr 8 [(1, AV.os 1 0), (2, AV.os 0 0), (7, AV.op 3 [] 0), (8, AV.op 4 [] 0), (9, AV.op 5 [] 0), (11, I c), (12, I 1), (13, I per), (16, AV.os 6 0), (17, I i), (18, AV.os 7 0), (20, I q), (21, AV.op 8 [] 0), (69, I N), (70, I i), (82, I c), (83, I (IntKind.i64.wrap (ch + 1)))], hp := [(0, AObj.arr 3 (i64T) 0 false [1, m, h, w]), (1, AObj.arr 25 Y0 0 false [(t1, [1, c, h, w], x, ()), (t2, [m, c, 1, 1], y, ())]), (2, AObj.arr 9 Ty.str 0 false [[120], [119]]), (3, AObj.box (AV.d Y0 (t1, [1, c, h, w], x, ()))), (4, AObj.box (AV.d Y0 (t2, [m, c, 1, 1], y, ()))), (5, AObj.box (AV.d ((i64T).pair ((i64T).pair ((i64T).pair ((i64T).pair ((Ty.arr 2 (i64T)).pair ((Ty.arr 2 (i64T)).pair ((i64T).pair ((i64T).pair ((i64T).pair ((i64T).pair Ty.unit)))))))))) (h, w, 1, 1, [1, 1], [1, 1], 0, 0, pl, pe, ()))), (6, AObj.arr 2 (i64T) 0 false o), (7, AObj.arr 3 (i64T) 0 false [0, q, a, b]), (8, AObj.box (I s))], nx := 12 } k else  bif decide (IntKind.i64.wrap (IntKind.i64.wrap (IntKind.i64.wrap (b * 1) - 0) + 0) ≥ w) then lp gCv cf_cnv (cL (cL (cR (cL (cR (cR (cR (cR (cL (cL (cR (cR (cL (cL (cR (cL (cR (cR (cR (cR (cR (cR (cR (cR C_cnv)))))))))))))))))))))))) n { fr := mkFr 8 [(1, AV.os 1 0), (2, AV.os 0 0), (7, AV.op 3 [] 0), (8, AV.op 4 [] 0), (9, AV.op 5 [] 0), (11, I c), (12, I 1), (13, I per), (16, AV.os 6 0), (17, I i), (18, AV.os 7 0), (20, I q), (21, AV.op 8 [] 0), (69, I N), (70, I i), (82, I c), (83, I (IntKind.i64.wrap (ch + 1)))], hp := [(0, AObj.arr 3 (i64T) 0 false [1, m, h, w]), (1, AObj.arr 25 Y0 0 false [(t1, [1, c, h, w], x, ()), (t2, [m, c, 1, 1], y, ())]), (2, AObj.arr 9 Ty.str 0 false [[120], [119]]), (3, AObj.box (AV.d Y0 (t1, [1, c, h, w], x, ()))), (4, AObj.box (AV.d Y0 (t2, [m, c, 1, 1], y, ()))), (5, AObj.box (AV.d ((i64T).pair ((i64T).pair ((i64T).pair ((i64T).pair ((Ty.arr 2 (i64T)).pair ((Ty.arr 2 (i64T)).pair ((i64T).pair ((i64T).pair ((i64T).pair ((i64T).pair Ty.unit)))))))))) (h, w, 1, 1, [1, 1], [1, 1], 0, 0, pl, pe, ()))), (6, AObj.arr 2 (i64T) 0 false o), (7, AObj.arr 3 (i64T) 0 false [0, q, a, b]), (8, AObj.box (I s))], nx := 12 } k else (idx v3 (IntKind.i64.wrap (IntKind.i64.wrap (IntKind.i64.wrap (IntKind.i64.wrap (IntKind.i64.wrap (a * 1) - 0) + 0) * w) + IntKind.i64.wrap (IntKind.i64.wrap (IntKind.i64.wrap (b * 1) - 0) + 0)))).bind fun v10 => (idx v5 0).bind fun v11 => lp gCv cf_cnv (cL (cL (cR (cL (cR (cR (cR (cR (cL (cL (cR (cR (cL (cL (cR (cL (cR (cR (cR (cR (cR (cR (cR (cR C_cnv)))))))))))))))))))))))) n { fr := mkFr 8 [(1, AV.os 1 0), (2, AV.os 0 0), (7, AV.op 3 [] 0), (8, AV.op 4 [] 0), (9, AV.op 5 [] 0), (11, I c), (12, I 1), (13, I per), (16, AV.os 6 0), (17, I i), (18, AV.os 7 0), (20, I q), (21, AV.op 8 [] 0), (69, I N), (70, I i), (82, I c), (83, I (IntKind.i64.wrap (ch + 1)))], hp := [(0, AObj.arr 3 (i64T) 0 false [1, m, h, w]), (1, AObj.arr 25 Y0 0 false [(t1, [1, c, h, w], x, ()), (t2, [m, c, 1, 1], y, ())]), (2, AObj.arr 9 Ty.str 0 false [[120], [119]]), (3, AObj.box (AV.d Y0 (t1, [1, c, h, w], x, ()))), (4, AObj.box (AV.d Y0 (t2, [m, c, 1, 1], y, ()))), (5, AObj.box (AV.d ((i64T).pair ((i64T).pair ((i64T).pair ((i64T).pair ((Ty.arr 2 (i64T)).pair ((Ty.arr 2 (i64T)).pair ((i64T).pair ((i64T).pair ((i64T).pair ((i64T).pair Ty.unit)))))))))) (h, w, 1, 1, [1, 1], [1, 1], 0, 0, pl, pe, ()))), (6, AObj.arr 2 (i64T) 0 false o), (7, AObj.arr 3 (i64T) 0 false [0, q, a, b]), (8, AObj.box (I (binW BinOp.add s (binW BinOp.mul v10 v11))))], nx := 12 } k else k (AEx.exit 2) { fr := mkFr 8 [(1, AV.os 1 0), (2, AV.os 0 0), (7, AV.op 3 [] 0), (8, AV.op 4 [] 0), (9, AV.op 5 [] 0), (11, I c), (12, I 1), (13, I per), (16, AV.os 6 0), (17, I i), (18, AV.os 7 0), (20, I q), (21, AV.op 8 [] 0), (69, I N), (70, I i), (82, I c), (83, I ch), (84, B false)], hp := [(0, AObj.arr 3 (i64T) 0 false [1, m, h, w]), (1, AObj.arr 25 Y0 0 false [(t1, [1, c, h, w], x, ()), (t2, [m, c, 1, 1], y, ())]), (2, AObj.arr 9 Ty.str 0 false [[120], [119]]), (3, AObj.box (AV.d Y0 (t1, [1, c, h, w], x, ()))), (4, AObj.box (AV.d Y0 (t2, [m, c, 1, 1], y, ()))), (5, AObj.box (AV.d ((i64T).pair ((i64T).pair ((i64T).pair ((i64T).pair ((Ty.arr 2 (i64T)).pair ((Ty.arr 2 (i64T)).pair ((i64T).pair ((i64T).pair ((i64T).pair ((i64T).pair Ty.unit)))))))))) (h, w, 1, 1, [1, 1], [1, 1], 0, 0, pl, pe, ()))), (6, AObj.arr 2 (i64T) 0 false o), (7, AObj.arr 3 (i64T) 0 false [0, q, a, b]), (8, AObj.box (I s))], nx := 12 } := by
  have h := cnv_s1H (hlp gCv cf_cnv) t1 c h w t2 m pl pe per x y o N i q a b s ch n k
  simp only [lpH_lp] at h
  exact h
noncomputable def CKH (hl : Hl) (nn : Nat) (k : AEx → LSt → Option (AEnd × LHp)) : AEx → LSt → Option (AEnd × LHp) := (blkK 2 (seqH gCv cf_cnv [9, 15] hl (cR (cR (cR (cR (cR (cL (cL (cR (cR (cL (cL (cR (cL (cR (cR (cR (cR (cR (cR (cR (cR C_cnv))))))))))))))))))))) (blkK 1 (seqH gCv cf_cnv [9, 15] hl (cR (cR (cR (cL (cL (cR (cL (cR (cR (cR (cR (cR (cR (cR (cR C_cnv))))))))))))))) (nxtH gCv cf_cnv [9, 15] hl (cL (cL (cR (cL (cR (cR (cR (cR (cR (cR (cR (cR C_cnv)))))))))))) nn k)))))
def stC1e (t1 c h w t2 m pl pe per : Int) (x y o : List Int) (N i q a b s ch : Int) : LSt := { fr := mkFr 8 [(1, AV.os 1 0), (2, AV.os 0 0), (7, AV.op 3 [] 0), (8, AV.op 4 [] 0), (9, AV.op 5 [] 0), (11, I c), (12, I 1), (13, I per), (16, AV.os 6 0), (17, I i), (18, AV.os 7 0), (20, I q), (21, AV.op 8 [] 0), (69, I N), (70, I i), (82, I c), (83, I ch), (84, B false)], hp := hpCi t1 c h w t2 m pl pe x y o ++ [(7, .arr 3 i64T 0 false [0, q, a, b]), (8, .box (I s))], nx := 12 }
theorem cnv_k1 (nn : Nat) (k : AEx → LSt → Option (AEnd × LHp)) (t1 c h w t2 m pl pe per : Int) (x y o : List Int) (N i q a b s ch : Int) : CKH (hlp gCv cf_cnv) nn k (.exit 2) (stC1e t1 c h w t2 m pl pe per x y o N i q a b s ch) =
    (idx o i).bind fun _ => (setN o i.toNat s).bind fun v1 => lp gCv cf_cnv (cL (cL (cR (cL (cR (cR (cR (cR (cR (cR (cR (cR C_cnv)))))))))))) nn (stC0 t1 c h w t2 m pl pe per x y v1 N (IntKind.i64.wrap (i + 1))) k :=
  Eq.trans (b := (idx o i).bind fun _ => (setN o i.toNat s).bind fun v1 => lpH gCv cf_cnv [9, 15] (hlp gCv cf_cnv) (cL (cL (cR (cL (cR (cR (cR (cR (cR (cR (cR (cR C_cnv)))))))))))) nn (stC0 t1 c h w t2 m pl pe per x y v1 N (IntKind.i64.wrap (i + 1))) k) (by kernel_rfl) (by simp only [lpH_lp])
noncomputable def CK0 : AEx → LSt → Option (AEnd × LHp) := (blkK 0 (seqH gCv cf_cnv [9, 15] (hlp gCv cf_cnv) (cR (cR (cR (cR (cR (cR (cR (cR (cR C_cnv))))))))) (endC Tryz.prog 3 Tryz.f10.results.toList ah)))
theorem cnv_k0 (t1 c h w t2 m pl pe per : Int) (x y o : List Int) (N i : Int) : CK0 (.exit 0) { fr := mkFr 8 [(1, AV.os 1 0), (2, AV.os 0 0), (7, AV.op 3 [] 0), (8, AV.op 4 [] 0), (9, AV.op 5 [] 0), (11, I c), (12, I 1), (13, I per), (16, AV.os 6 0), (69, I N), (70, I i), (71, B false)], hp := hpCi t1 c h w t2 m pl pe x y o, nx := 10 } = some (AEnd.ret [AV.os 3 0], [(0, AObj.arr 3 (i64T) 0 false [1, m, h, w]), (1, AObj.arr 25 Y0 0 false [(t1, [1, c, h, w], x, ()), (t2, [m, c, 1, 1], y, ())]), (2, AObj.arr 9 Ty.str 0 false [[120], [119]]), (3, AObj.arr 2 (i64T) 0 false o)]) := by kernel_rfl
end Go.Proofs.XPT
namespace Go.Proofs.XPT
open Go.Vm Go
set_option maxRecDepth 100000
set_option maxHeartbeats 4000000
theorem count_ok {xs : List Int} (h : countE xs = 0) : (∀ x ∈ xs, 1 ≤ x) ∧ xs.length ≤ 6 ∧ prodI xs ≤ 65536 ∧ countN xs = prodI xs := by
  unfold countE at h
  unfold countN
  cases h1 : decide (idxP (fun d => decide (d < 1)) xs ≥ 0) with
  | true => rw [h1] at h; exact absurd (show (4 : Int) = 0 from h) (by decide)
  | false =>
    rw [h1] at h
    cases h2 : decide (Int.ofNat xs.length > 6) with
    | true => rw [h2] at h; exact absurd (show (6 : Int) = 0 from h) (by decide)
    | false =>
      rw [h2] at h
      cases h3 : bigI xs with
      | true => rw [h3] at h; exact absurd (show (6 : Int) = 0 from h) (by decide)
      | false =>
        refine ⟨fun x hx => ?_, ?_, ?_, rfl⟩
        · rw [idxP_ge, List.any_eq_false] at h1
          have := h1 x hx
          simp only [decide_eq_true_eq] at this
          omega
        · have := of_decide_eq_false h2
          have e : Int.ofNat xs.length = (xs.length : Int) := rfl
          omega
        · have := of_decide_eq_false h3
          omega
theorem ten_ok {t : Int} {xd dt : List Int} (h : tenE t xd dt = 0) : numOk t 0 = true ∧ countE xd = 0 ∧ (dt.length : Int) = countN xd ∧ ∀ x ∈ dt, numOk t x = true := by
  unfold tenE at h
  cases h1 : numOk t 0 with
  | false => rw [h1] at h; exact absurd (show (5 : Int) = 0 from h) (by decide)
  | true =>
    rw [h1] at h
    cases h2 : countE xd != 0 with
    | true =>
      rw [h2] at h
      have h' : countE xd = 0 := h
      rw [h'] at h2
      exact absurd h2 (by decide)
    | false =>
      rw [h2] at h
      cases h3 : Int.ofNat dt.length != countN xd with
      | true => rw [h3] at h; exact absurd (show (4 : Int) = 0 from h) (by decide)
      | false =>
        rw [h3] at h
        cases h4 : dt.any (fun x => !numOk t x) with
        | true => rw [h4] at h; exact absurd (show (4 : Int) = 0 from h) (by decide)
        | false =>
          refine ⟨rfl, by simpa using h2, by simpa using h3, fun x hx => ?_⟩
          rw [List.any_eq_false] at h4
          simpa using h4 x hx
structure Four (a b c d : Int) : Prop where
  a1 : 1 ≤ a
  b1 : 1 ≤ b
  c1 : 1 ≤ c
  d1 : 1 ≤ d
  ab : 1 ≤ a * b ∧ a * b ≤ 65536
  cd : 1 ≤ c * d ∧ c * d ≤ 65536
  all : a * b * (c * d) ≤ 65536
  c2 : c ≤ 65536
  d2 : d ≤ 65536
end Go.Proofs.XPT
namespace Go.Proofs.XPT
open Go.Vm Go
set_option maxRecDepth 100000
set_option maxHeartbeats 4000000
/-! ### the anchor -/
theorem live_run : runC g172 Tryz.f5 7 [] [] [] ah = some (.ret [B true], []) := by kernel_rfl
def liveF : List AV → LHp → Option (AEnd × LHp)
  | [], [] => some (.ret [B true], [])
  | _, _ => none
theorem liveE_ok : FnE.OK e0.P e0.gam 5 (fnE liveF) := by
  have h1 : FnE.OK e0.P e0.gam 5 (execFnC g172 Tryz.f5 7 []) := y5_ok
  refine ⟨fun args hs k => ?_, fun args hs ae hs' h => ?_⟩
  · simp only [fnE]
    cases liveF args hs <;> rfl
  · have h' : (liveF args hs).bind (fun p => ah p.1 p.2) = some (ae, hs') := h
    unfold liveF at h'
    split at h'
    · cases h'
      exact h1.okC live_run
    · cases h'

end Go.Proofs.XPT
namespace Go.Proofs.XPT
open Go.Vm Go
set_option maxRecDepth 100000
set_option maxHeartbeats 400000
def vR (r : Nat) : Nat := if r < 8388608 then r else (8388608 + r % 8388608) * 2 ^ (r / 8388608 - 1)
/-- a word's sign and rung -/
def negW (x : Nat) : Bool := x / 2147483648 % 2 == 1
def rungW (x : Nat) : Nat := x % 2147483648
theorem read_low {x : Nat} (h : rungW x < 8388608) : FloatKind.f32.format.read x = .number (negW x) (rungW x) (-149 + ((0 : Nat) : Int)) := by
  show (if rungW x < 8388608 then _ else _) = _
  rw [if_pos h]
  rfl
theorem read_mid {x : Nat} (h : ¬ rungW x < 8388608) (h2 : rungW x < 2139095040) : FloatKind.f32.format.read x = .number (negW x) (8388608 + rungW x % 8388608) (-149 + ((rungW x / 8388608 - 1 : Nat) : Int)) := by
  show (if rungW x < 8388608 then _ else if rungW x < 2139095040 then _ else _) = _
  rw [if_neg h, if_pos h2]
  rfl
theorem read_inf {x : Nat} (h : rungW x = 2139095040) : FloatKind.f32.format.read x = .infinity (negW x) := by
  show (if rungW x < 8388608 then _ else if rungW x < 2139095040 then _ else if rungW x = 2139095040 then _ else _) = _
  rw [if_neg (by omega), if_neg (by omega), if_pos h]
  rfl
theorem read_num {x : Nat} (h : rungW x < 2139095040) : ∃ m d, FloatKind.f32.format.read x = .number (negW x) m (-149 + (d : Nat)) ∧ m * 2 ^ d = vR (rungW x) := by
  by_cases h1 : rungW x < 8388608
  · exact ⟨_, 0, read_low h1, by simp [vR, h1]⟩
  · exact ⟨_, _, read_mid h1 h, by simp [vR, h1]⟩
end Go.Proofs.XPT
namespace Go.Proofs.XPT
open Go.Vm Go
set_option maxRecDepth 100000
set_option maxHeartbeats 1000000
def good (x : Int) : Prop := numOk 1 x = true ∧ x ≠ 2143289344
theorem and_lo (n : Nat) : n &&& 8388607 = n % 8388608 := Nat.and_two_pow_sub_one_eq_mod n 23
theorem and_hi (n : Nat) : n &&& 2139095040 = n / 8388608 % 256 * 8388608 := by
  have e : (2139095040 : Nat) = 255 <<< 23 := by decide
  have h1 : n / 8388608 % 256 * 8388608 = ((n >>> 23) &&& 255) <<< 23 := by
    rw [Nat.shiftLeft_eq, Nat.shiftRight_eq_div_pow, show (255 : Nat) = 2 ^ 8 - 1 from rfl, Nat.and_two_pow_sub_one_eq_mod]
  rw [h1, e]
  apply Nat.eq_of_testBit_eq
  intro i
  simp only [Nat.testBit_and, Nat.testBit_shiftLeft, Nat.testBit_shiftRight]
  by_cases h : 23 ≤ i
  · simp only [h, decide_true, Bool.true_and]
    rw [show 23 + (i - 23) = i by omega]
  · simp [h]
theorem bv_and (n m : Nat) (h : n < 4294967296) (h2 : m < 4294967296) : IntKind.i64.wrap (Int.ofNat (BitVec.ofInt 64 (n : Int) &&& BitVec.ofNat 64 m).toNat) = ((n &&& m : Nat) : Int) := by
  have e : (BitVec.ofInt 64 (n : Int) &&& BitVec.ofNat 64 m).toNat = n &&& m := by
    rw [BitVec.toNat_and, BitVec.ofInt_natCast, BitVec.toNat_ofNat, BitVec.toNat_ofNat, Nat.mod_eq_of_lt (by omega), Nat.mod_eq_of_lt (by omega)]
  rw [e]
  have : n &&& m ≤ n := Nat.and_le_left
  exact wrap64 (by simp only [Int.ofNat_eq_natCast]; omega) (by simp only [Int.ofNat_eq_natCast]; omega)
theorem not_nan {n : Nat} (h : rungW n ≤ 2139095040) : (FloatKind.f32.format.read n).isNaN = false := by
  by_cases h1 : rungW n < 2139095040
  · obtain ⟨m, d, e, _⟩ := read_num h1
    rw [e]; rfl
  · rw [read_inf (by omega)]; rfl
end Go.Proofs.XPT
namespace Go.Proofs.XPT
open Go.Vm Go
set_option maxRecDepth 100000
set_option maxHeartbeats 1000000
def okN (n : Nat) : Prop := n < 4294967296 ∧ rungW n ≤ 2139095040
/-- a word: the NaN, or a number's -/
def gw (x : Int) : Prop := x = 2143289344 ∨ ∃ n : Nat, x = n ∧ okN n
theorem numOk_nat {n : Nat} (h : okN n) : numOk 1 (n : Int) = true := by
  obtain ⟨h1, h2⟩ := h
  unfold numOk
  rw [bv_and n 2139095040 (by omega) (by decide), bv_and n 8388607 (by omega) (by decide), and_lo, and_hi]
  have hd : (((n : Int).fdiv 4294967296) == 0) = true := by
    rw [Int.fdiv_eq_ediv_of_nonneg _ (by decide)]
    simp
    omega
  rw [hd]
  unfold rungW at h2
  by_cases he : n / 8388608 % 256 = 255
  · have hz : n % 8388608 = 0 := by omega
    rw [he, hz]
    rfl
  · have : (((n / 8388608 % 256 * 8388608 : Nat) : Int) == 2139095040) = false := by
      rw [beq_eq_false_iff_ne]
      omega
    rw [this]
    rfl
theorem numOk_gw {x : Int} (h : gw x) : numOk 1 x = true := by
  rcases h with rfl | ⟨n, rfl, h⟩
  · decide
  · exact numOk_nat h
theorem word_ok {s : Bool} {r : Nat} (h : r ≤ 2139095040) : okN (Ieee.single.word s r) ∧ negW (Ieee.single.word s r) = s ∧ rungW (Ieee.single.word s r) = r := by
  unfold Ieee.Format.word
  show okN (if s then 2147483648 + r else r) ∧ negW (if s then 2147483648 + r else r) = s ∧ rungW (if s then 2147483648 + r else r) = r
  unfold okN negW rungW
  cases s with
  | true =>
    simp only [if_true]
    refine ⟨⟨by omega, by omega⟩, ?_, by omega⟩
    rw [beq_iff_eq]
    omega
  | false =>
    simp only [Bool.false_eq_true, if_false]
    refine ⟨⟨by omega, by omega⟩, ?_, by omega⟩
    rw [beq_eq_false_iff_ne]
    omega
theorem near_word (s : Bool) (m : Nat) (p : Int) : ∃ r, r ≤ 2139095040 ∧ Ieee.single.nearest s m p = Ieee.single.word s r := by
  unfold Ieee.Format.nearest
  by_cases h : m = 0
  · rw [if_pos h]
    exact ⟨0, by omega, rfl⟩
  · rw [if_neg h]
    exact ⟨_, Nat.min_le_right _ _, rfl⟩
theorem not_nanN {n : Nat} (h : okN n) : fNaN .f32 n = false := not_nan h.2
theorem resW_ok {n : Nat} (h : okN n) : resW (canonF .f32 n) = n := by
  unfold resW canonF
  rw [not_nanN h]
  simp only [Bool.false_eq_true, if_false, not_nanN h, cond_false]
  exact wrap64 (by simp only [Int.ofNat_eq_natCast]; omega) (by have := h.1; simp only [Int.ofNat_eq_natCast]; omega)
theorem resW_nan : resW (nanW .f32) = 2143289344 := by decide
/-- what comes of an operation is a word -/
theorem bin_gw {op : BinOp} (hop : op = .add ∨ op = .mul) (x y : Int) : gw (binW op x y) := by
  unfold binW
  cases numOk 1 x && numOk 1 y with
  | false => exact .inr ⟨0, rfl, by decide, by decide⟩
  | true =>
    simp only [cond_true]
    have key : ∀ (d : Option Ieee.Datum), (∀ v, d = some v → (∃ s m p, v = .number s m p) ∨ ∃ s, v = .infinity s) → gw (resW (match d.map Ieee.single.write with | some r => canonF .f32 r | none => nanW .f32)) := by
      intro d hd
      cases d with
      | none => exact .inl resW_nan
      | some v =>
        rcases hd v rfl with ⟨s, m, p, rfl⟩ | ⟨s, rfl⟩
        · obtain ⟨r, h1, h2⟩ := near_word s m p
          have hw := (word_ok (s := s) h1).1
          refine .inr ⟨_, ?_, hw⟩
          show resW (canonF .f32 (Ieee.single.nearest s m p)) = _
          rw [h2]
          exact resW_ok hw
        · have hw := (word_ok (s := s) (Nat.le_refl 2139095040)).1
          exact .inr ⟨_, resW_ok hw, hw⟩
    unfold fop fbin
    rcases hop with rfl | rfl
    · refine key _ ?_
      intro v hv
      generalize FloatKind.f32.format.read (cw x) = a at hv
      generalize FloatKind.f32.format.read (cw y) = b at hv
      cases a <;> cases b <;> simp only [Ieee.Datum.sum] at hv <;> first | (cases hv; done) | (cases hv; exact .inl ⟨_, _, _, rfl⟩) | (cases hv; exact .inr ⟨_, rfl⟩) | (split at hv <;> cases hv; exact .inr ⟨_, rfl⟩)
    · refine key _ ?_
      intro v hv
      generalize FloatKind.f32.format.read (cw x) = a at hv
      generalize FloatKind.f32.format.read (cw y) = b at hv
      cases a <;> cases b <;> simp only [Ieee.Datum.product] at hv <;> first | (cases hv; done) | (cases hv; exact .inl ⟨_, _, _, rfl⟩) | (cases hv; exact .inr ⟨_, rfl⟩) | (split at hv <;> cases hv; exact .inr ⟨_, rfl⟩)
end Go.Proofs.XPT
