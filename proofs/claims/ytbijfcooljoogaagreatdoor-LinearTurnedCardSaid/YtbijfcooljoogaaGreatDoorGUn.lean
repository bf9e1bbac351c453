/- printed -/
import Derived.Test.YtbijfcooljoogaaGreatDoorN1
set_option maxRecDepth 100000
set_option maxHeartbeats 4000000
namespace Go.Proofs.XGT
open Go.Vm Go Go.RowKit Go.Lib
/-- mandrel/mandrellaw13.small -/
noncomputable def y15 : FnE := execFnC e0 Tryz.f15 5 [(2, [0, 3])]
theorem y15_ok : FnE.OK Tryz.prog (Env.gam e0) 15 y15 := execFnC_ok e0_good hmix Tryz.func15 Tryz.call15 (by decide +kernel) rfl
noncomputable def g1 : Env := e0.add 15 y15
theorem g1_good : g1.Good := Env.Good.add e0_good y15_ok
/-- mandrel/num.Check -/
noncomputable def g2 : Env := g1.add 34 (fnE chkF)
theorem g2_good : g2.Good := Env.Good.add g1_good chkE_ok
/-- mandrel/pb.Check$1 -/
noncomputable def y88 : FnE := execFnC g2 Tryz.f88 4 []
theorem y88_ok : FnE.OK Tryz.prog (Env.gam e0) 88 y88 := execFnC_ok g2_good hmix Tryz.func88 Tryz.call88 (by decide +kernel) rfl
noncomputable def g3 : Env := g2.add 88 y88
theorem g3_good : g3.Good := Env.Good.add g2_good y88_ok
/-- mandrel/shape.Count$1 -/
noncomputable def y98 : FnE := execFnC g3 Tryz.f98 3 []
theorem y98_ok : FnE.OK Tryz.prog (Env.gam e0) 98 y98 := execFnC_ok g3_good hmix Tryz.func98 Tryz.call98 (by decide +kernel) rfl
noncomputable def g4 : Env := g3.add 98 y98
theorem g4_good : g4.Good := Env.Good.add g3_good y98_ok
/-- mandrel/view.fine$1 -/
noncomputable def y106 : FnE := execFnC g4 Tryz.f106 4 []
theorem y106_ok : FnE.OK Tryz.prog (Env.gam e0) 106 y106 := execFnC_ok g4_good hmix Tryz.func106 Tryz.call106 (by decide +kernel) rfl
noncomputable def g5 : Env := g4.add 106 y106
theorem g5_good : g5.Good := Env.Good.add g4_good y106_ok
/-- mandrel/infer.rule -/
noncomputable def y92 : FnE := execFnC g5 Tryz.f92 3 []
theorem y92_ok : FnE.OK Tryz.prog (Env.gam e0) 92 y92 := execFnC_ok g5_good hmix Tryz.func92 Tryz.call92 (by decide +kernel) rfl
noncomputable def g6 : Env := g5.add 92 y92
theorem g6_good : g6.Good := Env.Good.add g5_good y92_ok
/-- (mandrel/infer.maker).window$1 -/
noncomputable def y184 : FnE := execFnC g6 Tryz.f184 6 []
theorem y184_ok : FnE.OK Tryz.prog (Env.gam e0) 184 y184 := execFnC_ok g6_good hmix Tryz.func184 Tryz.call184 (by decide +kernel) rfl
noncomputable def g7 : Env := g6.add 184 y184
theorem g7_good : g7.Good := Env.Good.add g6_good y184_ok
/-- slices.IndexFunc[[]int,int] -/
noncomputable def y128 : FnE := execFnC g7 Tryz.f128 5 [(2, [0, 1, 7, 8])]
theorem y128_ok : FnE.OK Tryz.prog (Env.gam e0) 128 y128 := execFnC_ok g7_good hmix Tryz.func128 Tryz.call128 (by decide +kernel) rfl
noncomputable def g8 : Env := g7.add 128 y128
theorem g8_good : g8.Good := Env.Good.add g7_good y128_ok
/-- slices.ContainsFunc[[]int,int] -/
noncomputable def y97 : FnE := execFnC g8 Tryz.f97 4 []
theorem y97_ok : FnE.OK Tryz.prog (Env.gam e0) 97 y97 := execFnC_ok g8_good hmix Tryz.func97 Tryz.call97 (by decide +kernel) rfl
noncomputable def g9 : Env := g8.add 97 y97
theorem g9_good : g9.Good := Env.Good.add g8_good y97_ok
/-- mandrel/shape.Count -/
noncomputable def g10 : Env := g9.add 57 (treeE countG)
theorem g10_good : g10.Good := Env.Good.add g9_good countG_ok
/-- mandrel/pb.typed -/
noncomputable def g11 : Env := g10.add 86 (fnE typedF)
theorem g11_good : g11.Good := Env.Good.add g10_good typedE_ok
/-- slices.IndexFunc[[]int64,int64] -/
noncomputable def y112 : FnE := execFnC g11 Tryz.f112 5 [(2, [0, 1, 7, 8])]
theorem y112_ok : FnE.OK Tryz.prog (Env.gam e0) 112 y112 := execFnC_ok g11_good hmix Tryz.func112 Tryz.call112 (by decide +kernel) rfl
noncomputable def g12 : Env := g11.add 112 y112
theorem g12_good : g12.Good := Env.Good.add g11_good y112_ok
/-- slices.ContainsFunc[[]int64,int64] -/
noncomputable def y87 : FnE := execFnC g12 Tryz.f87 4 []
theorem y87_ok : FnE.OK Tryz.prog (Env.gam e0) 87 y87 := execFnC_ok g12_good hmix Tryz.func87 Tryz.call87 (by decide +kernel) rfl
noncomputable def g13 : Env := g12.add 87 y87
theorem g13_good : g13.Good := Env.Good.add g12_good y87_ok
/-- mandrel/pb.Check -/
noncomputable def g14 : Env := g13.add 54 (treeE pbcF)
theorem g14_good : g14.Good := Env.Good.add g13_good pbcE_ok
/-- mandrel/infer.Out$1 -/
noncomputable def y89 : FnE := execFnC g14 Tryz.f89 5 []
theorem y89_ok : FnE.OK Tryz.prog (Env.gam e0) 89 y89 := execFnC_ok g14_good hmix Tryz.func89 Tryz.call89 (by decide +kernel) rfl
noncomputable def g15 : Env := g14.add 89 y89
theorem g15_good : g15.Good := Env.Good.add g14_good y89_ok
/-- mandrel/infer.good -/
noncomputable def y90 : FnE := execFnC g15 Tryz.f90 3 []
theorem y90_ok : FnE.OK Tryz.prog (Env.gam e0) 90 y90 := execFnC_ok g15_good hmix Tryz.func90 Tryz.call90 (by decide +kernel) rfl
noncomputable def g16 : Env := g15.add 90 y90
theorem g16_good : g16.Good := Env.Good.add g15_good y90_ok
/-- mandrel/move.Do$1 -/
noncomputable def y53 : FnE := execFnC g16 Tryz.f53 3 []
theorem y53_ok : FnE.OK Tryz.prog (Env.gam e0) 53 y53 := execFnC_ok g16_good hmix Tryz.func53 Tryz.call53 (by decide +kernel) rfl
noncomputable def g17 : Env := g16.add 53 y53
theorem g17_good : g17.Good := Env.Good.add g16_good y53_ok
/-- mandrel/schema.named$1 -/
noncomputable def y129 : FnE := execFnC g17 Tryz.f129 4 []
theorem y129_ok : FnE.OK Tryz.prog (Env.gam e0) 129 y129 := execFnC_ok g17_good hmix Tryz.func129 Tryz.call129 (by decide +kernel) rfl
noncomputable def g18 : Env := g17.add 129 y129
theorem g18_good : g18.Good := Env.Good.add g17_good y129_ok
/-- mandrel/schema.attrs$2 -/
noncomputable def y146 : FnE := execFnC g18 Tryz.f146 4 []
theorem y146_ok : FnE.OK Tryz.prog (Env.gam e0) 146 y146 := execFnC_ok g18_good hmix Tryz.func146 Tryz.call146 (by decide +kernel) rfl
noncomputable def g19 : Env := g18.add 146 y146
theorem g19_good : g19.Good := Env.Good.add g18_good y146_ok
/-- (mandrel/infer.maker).constant$1 -/
noncomputable def y151 : FnE := execFnC g19 Tryz.f151 3 []
theorem y151_ok : FnE.OK Tryz.prog (Env.gam e0) 151 y151 := execFnC_ok g19_good hmix Tryz.func151 Tryz.call151 (by decide +kernel) rfl
noncomputable def g20 : Env := g19.add 151 y151
theorem g20_good : g20.Good := Env.Good.add g19_good y151_ok
/-- slices.IndexFunc[[]mandrel/api.Attr,mandrel/api.Attr] -/
noncomputable def y52 : FnE := execFnC g20 Tryz.f52 5 [(2, [0, 1, 7, 8])]
theorem y52_ok : FnE.OK Tryz.prog (Env.gam e0) 52 y52 := execFnC_ok g20_good hmix Tryz.func52 Tryz.call52 (by decide +kernel) rfl
noncomputable def g21 : Env := g20.add 52 y52
theorem g21_good : g21.Good := Env.Good.add g20_good y52_ok
/-- mandrel/schema.named -/
noncomputable def y100 : FnE := execFnC g21 Tryz.f100 3 []
theorem y100_ok : FnE.OK Tryz.prog (Env.gam e0) 100 y100 := execFnC_ok g21_good hmix Tryz.func100 Tryz.call100 (by decide +kernel) rfl
noncomputable def g22 : Env := g21.add 100 y100
theorem g22_good : g22.Good := Env.Good.add g21_good y100_ok
/-- mandrel/schema.find -/
noncomputable def g23 : Env := g22.add 61 (treeElse findF x61)
theorem g23_good : g23.Good := Env.Good.add g22_good (treeElse_ok findE_ok x61_ok)
/-- mandrel/schema.ofOne -/
noncomputable def y138 : FnE := execFnC g23 Tryz.f138 4 [(2, [0, 5, 6])]
theorem y138_ok : FnE.OK Tryz.prog (Env.gam e0) 138 y138 := execFnC_ok g23_good hmix Tryz.func138 Tryz.call138 (by decide +kernel) rfl
noncomputable def g24 : Env := g23.add 138 y138
theorem g24_good : g24.Good := Env.Good.add g23_good y138_ok
/-- mandrel/schema.ruleOf -/
noncomputable def y113 : FnE := execFnC g24 Tryz.f113 7 []
theorem y113_ok : FnE.OK Tryz.prog (Env.gam e0) 113 y113 := execFnC_ok g24_good hmix Tryz.func113 Tryz.call113 (by decide +kernel) rfl
noncomputable def g25 : Env := g24.add 113 y113
theorem g25_good : g25.Good := Env.Good.add g24_good y113_ok
/-- slices.Index[[]string,string] -/
noncomputable def y139 : FnE := execFnC g25 Tryz.f139 5 [(2, [0, 1, 7, 8])]
theorem y139_ok : FnE.OK Tryz.prog (Env.gam e0) 139 y139 := execFnC_ok g25_good hmix Tryz.func139 Tryz.call139 (by decide +kernel) rfl
noncomputable def g26 : Env := g25.add 139 y139
theorem g26_good : g26.Good := Env.Good.add g25_good y139_ok
/-- slices.Contains[[]string,string] -/
noncomputable def y114 : FnE := execFnC g26 Tryz.f114 4 []
theorem y114_ok : FnE.OK Tryz.prog (Env.gam e0) 114 y114 := execFnC_ok g26_good hmix Tryz.func114 Tryz.call114 (by decide +kernel) rfl
noncomputable def g27 : Env := g26.add 114 y114
theorem g27_good : g27.Good := Env.Good.add g26_good y114_ok
/-- internal/stringslite.HasPrefix -/
noncomputable def y174 : FnE := execFnC g27 Tryz.f174 5 []
theorem y174_ok : FnE.OK Tryz.prog (Env.gam e0) 174 y174 := execFnC_ok g27_good hmix Tryz.func174 Tryz.call174 (by decide +kernel) rfl
noncomputable def g28 : Env := g27.add 174 y174
theorem g28_good : g28.Good := Env.Good.add g27_good y174_ok
/-- strings.HasPrefix -/
noncomputable def y143 : FnE := execFnC g28 Tryz.f143 4 []
theorem y143_ok : FnE.OK Tryz.prog (Env.gam e0) 143 y143 := execFnC_ok g28_good hmix Tryz.func143 Tryz.call143 (by decide +kernel) rfl
noncomputable def g29 : Env := g28.add 143 y143
theorem g29_good : g29.Good := Env.Good.add g28_good y143_ok
/-- mandrel/schema.attrs$1 -/
noncomputable def y142 : FnE := execFnC g29 Tryz.f142 4 []
theorem y142_ok : FnE.OK Tryz.prog (Env.gam e0) 142 y142 := execFnC_ok g29_good hmix Tryz.func142 Tryz.call142 (by decide +kernel) rfl
noncomputable def g30 : Env := g29.add 142 y142
theorem g30_good : g30.Good := Env.Good.add g29_good y142_ok
/-- unicode/utf8.RuneCountInString -/
noncomputable def y219 : FnE := execFnC g30 Tryz.f219 4 [(2, [2, 4])]
theorem y219_ok : FnE.OK Tryz.prog (Env.gam e0) 219 y219 := execFnC_ok g30_good hmix Tryz.func219 Tryz.call219 (by decide +kernel) rfl
noncomputable def g31 : Env := g30.add 219 y219
theorem g31_good : g31.Good := Env.Good.add g30_good y219_ok
/-- unicode/utf8.decodeRuneInStringSlow -/
noncomputable def y231 : FnE := execFnC g31 Tryz.f231 7 []
theorem y231_ok : FnE.OK Tryz.prog (Env.gam e0) 231 y231 := execFnC_ok g31_good hmix Tryz.func231 Tryz.call231 (by decide +kernel) rfl
noncomputable def g32 : Env := g31.add 231 y231
theorem g32_good : g32.Good := Env.Good.add g31_good y231_ok
/-- unicode/utf8.DecodeRuneInString -/
noncomputable def y220 : FnE := execFnC g32 Tryz.f220 5 []
theorem y220_ok : FnE.OK Tryz.prog (Env.gam e0) 220 y220 := execFnC_ok g32_good hmix Tryz.func220 Tryz.call220 (by decide +kernel) rfl
noncomputable def g33 : Env := g32.add 220 y220
theorem g33_good : g33.Good := Env.Good.add g32_good y220_ok
/-- strings.explode -/
noncomputable def y203 : FnE := execFnC g33 Tryz.f203 6 [(6, [0, 1, 6, 7])]
theorem y203_ok : FnE.OK Tryz.prog (Env.gam e0) 203 y203 := execFnC_ok g33_good hmix Tryz.func203 Tryz.call203 (by decide +kernel) rfl
noncomputable def g34 : Env := g33.add 203 y203
theorem g34_good : g34.Good := Env.Good.add g33_good y203_ok
noncomputable def g35 : Env := g34.addX 232 xIndexByte
theorem g35_good : g35.Good := Env.Good.addX g34_good (xIndexByte_ok Tryz.func232 rfl (by decide +kernel) (by kernel_rfl) (by kernel_rfl))
/-- internal/stringslite.IndexByte -/
noncomputable def y222 : FnE := execFnC g35 Tryz.f222 4 []
theorem y222_ok : FnE.OK Tryz.prog (Env.gam e0) 222 y222 := execFnC_ok g35_good hmix Tryz.func222 Tryz.call222 (by decide +kernel) rfl
noncomputable def g36 : Env := g35.add 222 y222
theorem g36_good : g36.Good := Env.Good.add g35_good y222_ok
/-- internal/bytealg.Cutover -/
noncomputable def y224 : FnE := execFnC g36 Tryz.f224 3 []
theorem y224_ok : FnE.OK Tryz.prog (Env.gam e0) 224 y224 := execFnC_ok g36_good hmix Tryz.func224 Tryz.call224 (by decide +kernel) rfl
noncomputable def g37 : Env := g36.add 224 y224
theorem g37_good : g37.Good := Env.Good.add g36_good y224_ok
/-- internal/bytealg.hashStr[string] -/
noncomputable def y233 : FnE := execFnC g37 Tryz.f233 6 [(3, [0, 4, 5]), (8, [4, 6, 7, 8])]
theorem y233_ok : FnE.OK Tryz.prog (Env.gam e0) 233 y233 := execFnC_ok g37_good hmix Tryz.func233 Tryz.call233 (by decide +kernel) rfl
noncomputable def g38 : Env := g37.add 233 y233
theorem g38_good : g38.Good := Env.Good.add g37_good y233_ok
/-- internal/bytealg.IndexRabinKarp[string] -/
noncomputable def y225 : FnE := execFnC g38 Tryz.f225 7 [(5, [0, 1, 5, 6, 7, 8, 9]), (11, [0, 1, 5, 6, 7, 8, 10])]
theorem y225_ok : FnE.OK Tryz.prog (Env.gam e0) 225 y225 := execFnC_ok g38_good hmix Tryz.func225 Tryz.call225 (by decide +kernel) rfl
noncomputable def g39 : Env := g38.add 225 y225
theorem g39_good : g39.Good := Env.Good.add g38_good y225_ok
/-- internal/stringslite.Index -/
noncomputable def y206 : FnE := execFnC g39 Tryz.f206 8 [(15, [0, 1, 5, 6, 7, 8, 9, 10])]
theorem y206_ok : FnE.OK Tryz.prog (Env.gam e0) 206 y206 := execFnC_ok g39_good hmix Tryz.func206 Tryz.call206 (by decide +kernel) rfl
noncomputable def g40 : Env := g39.add 206 y206
theorem g40_good : g40.Good := Env.Good.add g39_good y206_ok
/-- strings.Index -/
noncomputable def y205 : FnE := execFnC g40 Tryz.f205 4 []
theorem y205_ok : FnE.OK Tryz.prog (Env.gam e0) 205 y205 := execFnC_ok g40_good hmix Tryz.func205 Tryz.call205 (by decide +kernel) rfl
noncomputable def g41 : Env := g40.add 205 y205
theorem g41_good : g41.Good := Env.Good.add g40_good y205_ok
noncomputable def g42 : Env := g41.addX 221 xCount
theorem g42_good : g42.Good := Env.Good.addX g41_good (xCount_ok Tryz.func221 rfl (by decide +kernel) (by kernel_rfl) (by kernel_rfl))
/-- strings.Count -/
noncomputable def y204 : FnE := execFnC g42 Tryz.f204 6 [(6, [0, 1, 5])]
theorem y204_ok : FnE.OK Tryz.prog (Env.gam e0) 204 y204 := execFnC_ok g42_good hmix Tryz.func204 Tryz.call204 (by decide +kernel) rfl
noncomputable def g43 : Env := g42.add 204 y204
theorem g43_good : g43.Good := Env.Good.add g42_good y204_ok
/-- strings.genSplit -/
noncomputable def y173 : FnE := execFnC g43 Tryz.f173 7 [(11, [0, 1, 2, 3, 9, 10])]
theorem y173_ok : FnE.OK Tryz.prog (Env.gam e0) 173 y173 := execFnC_ok g43_good hmix Tryz.func173 Tryz.call173 (by decide +kernel) rfl
noncomputable def g44 : Env := g43.add 173 y173
theorem g44_good : g44.Good := Env.Good.add g43_good y173_ok
/-- strings.Split -/
noncomputable def y140 : FnE := execFnC g44 Tryz.f140 4 []
theorem y140_ok : FnE.OK Tryz.prog (Env.gam e0) 140 y140 := execFnC_ok g44_good hmix Tryz.func140 Tryz.call140 (by decide +kernel) rfl
noncomputable def g45 : Env := g44.add 140 y140
theorem g45_good : g45.Good := Env.Good.add g44_good y140_ok
/-- mandrel/schema.Then$1 -/
noncomputable def y150 : FnE := execFnC g45 Tryz.f150 3 []
theorem y150_ok : FnE.OK Tryz.prog (Env.gam e0) 150 y150 := execFnC_ok g45_good hmix Tryz.func150 Tryz.call150 (by decide +kernel) rfl
noncomputable def g46 : Env := g45.add 150 y150
theorem g46_good : g46.Good := Env.Good.add g45_good y150_ok
/-- slices.IndexFunc[[]string,string] -/
noncomputable def y141 : FnE := execFnC g46 Tryz.f141 5 [(2, [0, 1, 7, 8])]
theorem y141_ok : FnE.OK Tryz.prog (Env.gam e0) 141 y141 := execFnC_ok g46_good hmix Tryz.func141 Tryz.call141 (by decide +kernel) rfl
noncomputable def g47 : Env := g46.add 141 y141
theorem g47_good : g47.Good := Env.Good.add g46_good y141_ok
/-- mandrel/schema.kindOf -/
noncomputable def y144 : FnE := execFnC g47 Tryz.f144 4 []
theorem y144_ok : FnE.OK Tryz.prog (Env.gam e0) 144 y144 := execFnC_ok g47_good hmix Tryz.func144 Tryz.call144 (by decide +kernel) rfl
noncomputable def g48 : Env := g47.add 144 y144
theorem g48_good : g48.Good := Env.Good.add g47_good y144_ok
/-- slices.ContainsFunc[[]mandrel/api.Attr,mandrel/api.Attr] -/
noncomputable def y145 : FnE := execFnC g48 Tryz.f145 4 []
theorem y145_ok : FnE.OK Tryz.prog (Env.gam e0) 145 y145 := execFnC_ok g48_good hmix Tryz.func145 Tryz.call145 (by decide +kernel) rfl
noncomputable def g49 : Env := g48.add 145 y145
theorem g49_good : g49.Good := Env.Good.add g48_good y145_ok
/-- internal/stringslite.Cut -/
noncomputable def y175 : FnE := execFnC g49 Tryz.f175 5 []
theorem y175_ok : FnE.OK Tryz.prog (Env.gam e0) 175 y175 := execFnC_ok g49_good hmix Tryz.func175 Tryz.call175 (by decide +kernel) rfl
noncomputable def g50 : Env := g49.add 175 y175
theorem g50_good : g50.Good := Env.Good.add g49_good y175_ok
/-- strings.Cut -/
noncomputable def y147 : FnE := execFnC g50 Tryz.f147 4 []
theorem y147_ok : FnE.OK Tryz.prog (Env.gam e0) 147 y147 := execFnC_ok g50_good hmix Tryz.func147 Tryz.call147 (by decide +kernel) rfl
noncomputable def g51 : Env := g50.add 147 y147
theorem g51_good : g51.Good := Env.Good.add g50_good y147_ok
/-- internal/stringslite.HasSuffix -/
noncomputable def y176 : FnE := execFnC g51 Tryz.f176 5 []
theorem y176_ok : FnE.OK Tryz.prog (Env.gam e0) 176 y176 := execFnC_ok g51_good hmix Tryz.func176 Tryz.call176 (by decide +kernel) rfl
noncomputable def g52 : Env := g51.add 176 y176
theorem g52_good : g52.Good := Env.Good.add g51_good y176_ok
/-- strings.HasSuffix -/
noncomputable def y148 : FnE := execFnC g52 Tryz.f148 4 []
theorem y148_ok : FnE.OK Tryz.prog (Env.gam e0) 148 y148 := execFnC_ok g52_good hmix Tryz.func148 Tryz.call148 (by decide +kernel) rfl
noncomputable def g53 : Env := g52.add 148 y148
theorem g53_good : g53.Good := Env.Good.add g52_good y148_ok
/-- mandrel/schema.attrs -/
noncomputable def y115 : FnE := execFnC g53 Tryz.f115 7 [(3, [2, 5, 20, 21, 22]), (14, [2, 63, 64, 65])]
theorem y115_ok : FnE.OK Tryz.prog (Env.gam e0) 115 y115 := execFnC_ok g53_good hmix Tryz.func115 Tryz.call115 (by decide +kernel) rfl
noncomputable def g54 : Env := g53.add 115 y115
theorem g54_good : g54.Good := Env.Good.add g53_good y115_ok
/-- slices.ContainsFunc[[]string,string] -/
noncomputable def y149 : FnE := execFnC g54 Tryz.f149 4 []
theorem y149_ok : FnE.OK Tryz.prog (Env.gam e0) 149 y149 := execFnC_ok g54_good hmix Tryz.func149 Tryz.call149 (by decide +kernel) rfl
noncomputable def g55 : Env := g54.add 149 y149
theorem g55_good : g55.Good := Env.Good.add g54_good y149_ok
/-- mandrel/schema.Then -/
noncomputable def y116 : FnE := execFnC g55 Tryz.f116 5 []
theorem y116_ok : FnE.OK Tryz.prog (Env.gam e0) 116 y116 := execFnC_ok g55_good hmix Tryz.func116 Tryz.call116 (by decide +kernel) rfl
noncomputable def g56 : Env := g55.add 116 y116
theorem g56_good : g56.Good := Env.Good.add g55_good y116_ok
/-- mandrel/schema.Check -/
noncomputable def g57 : Env := g56.add 91 (treeElse sckZ x91)
theorem g57_good : g57.Good := Env.Good.add g56_good (treeElse_ok sckZ_ok x91_ok)
/-- mandrel/num.whole -/
noncomputable def y35 : FnE := execFnC g57 Tryz.f35 4 []
theorem y35_ok : FnE.OK Tryz.prog (Env.gam e0) 35 y35 := execFnC_ok g57_good hmix Tryz.func35 Tryz.call35 (by decide +kernel) rfl
noncomputable def g58 : Env := g57.add 35 y35
theorem g58_good : g58.Good := Env.Good.add g57_good y35_ok
/-- mandrel/num.cut -/
noncomputable def y64 : FnE := execFnC g58 Tryz.f64 4 []
theorem y64_ok : FnE.OK Tryz.prog (Env.gam e0) 64 y64 := execFnC_ok g58_good hmix Tryz.func64 Tryz.call64 (by decide +kernel) rfl
noncomputable def g59 : Env := g58.add 64 y64
theorem g59_good : g59.Good := Env.Good.add g58_good y64_ok
/-- mandrel/num.flag -/
noncomputable def y65 : FnE := execFnC g59 Tryz.f65 3 []
theorem y65_ok : FnE.OK Tryz.prog (Env.gam e0) 65 y65 := execFnC_ok g59_good hmix Tryz.func65 Tryz.call65 (by decide +kernel) rfl
noncomputable def g60 : Env := g59.add 65 y65
theorem g60_good : g60.Good := Env.Good.add g59_good y65_ok
/-- mandrel/num.wholes -/
noncomputable def y36 : FnE := execFnC g60 Tryz.f36 7 []
theorem y36_ok : FnE.OK Tryz.prog (Env.gam e0) 36 y36 := execFnC_ok g60_good hmix Tryz.func36 Tryz.call36 (by decide +kernel) rfl
noncomputable def g61 : Env := g60.add 36 y36
theorem g61_good : g61.Good := Env.Good.add g60_good y36_ok
noncomputable def g62 : Env := g61.addX 102 (xFrombits .f32 .u32)
theorem g62_good : g62.Good := Env.Good.addX g61_good (xFrombits_ok (row := Extern.MathFloatBits.float32frombits) (fun _ => rfl) Tryz.func102 rfl (by decide +kernel) (by kernel_rfl) (by kernel_rfl))
/-- mandrel/num.number -/
noncomputable def y66 : FnE := execFnC g62 Tryz.f66 3 []
theorem y66_ok : FnE.OK Tryz.prog (Env.gam e0) 66 y66 := execFnC_ok g62_good hmix Tryz.func66 Tryz.call66 (by decide +kernel) rfl
noncomputable def g63 : Env := g62.add 66 y66
theorem g63_good : g63.Good := Env.Good.add g62_good y66_ok
noncomputable def g64 : Env := g63.addX 103 (xBits .f32 .u32)
theorem g64_good : g64.Good := Env.Good.addX g63_good (xBits_ok (row := Extern.MathFloatBits.float32bits) (fun _ => rfl) Tryz.func103 rfl (by decide +kernel) (by kernel_rfl) (by kernel_rfl))
/-- mandrel/num.bitsOf -/
noncomputable def y67 : FnE := execFnC g64 Tryz.f67 4 []
theorem y67_ok : FnE.OK Tryz.prog (Env.gam e0) 67 y67 := execFnC_ok g64_good hmix Tryz.func67 Tryz.call67 (by decide +kernel) rfl
noncomputable def g65 : Env := g64.add 67 y67
theorem g65_good : g65.Good := Env.Good.add g64_good y67_ok
/-- mandrel/num.floats -/
noncomputable def y37 : FnE := execFnC g65 Tryz.f37 7 []
theorem y37_ok : FnE.OK Tryz.prog (Env.gam e0) 37 y37 := execFnC_ok g65_good hmix Tryz.func37 Tryz.call37 (by decide +kernel) rfl
noncomputable def g66 : Env := g65.add 37 y37
theorem g66_good : g66.Good := Env.Good.add g65_good y37_ok
/-- mandrel/num.Binary -/
noncomputable def y19 : FnE := execFnC g66 Tryz.f19 7 []
theorem y19_ok : FnE.OK Tryz.prog (Env.gam e0) 19 y19 := execFnC_ok g66_good hmix Tryz.func19 Tryz.call19 (by decide +kernel) rfl
noncomputable def g67 : Env := g66.add 19 y19
theorem g67_good : g67.Good := Env.Good.add g66_good y19_ok
/-- mandrel/schema.Int -/
noncomputable def y56 : FnE := execFnC g67 Tryz.f56 5 []
theorem y56_ok : FnE.OK Tryz.prog (Env.gam e0) 56 y56 := execFnC_ok g67_good hmix Tryz.func56 Tryz.call56 (by decide +kernel) rfl
noncomputable def g68 : Env := g67.add 56 y56
theorem g68_good : g68.Good := Env.Good.add g67_good y56_ok
/-- (mandrel/infer.maker).constant -/
noncomputable def y117 : FnE := execFnC g68 Tryz.f117 4 []
theorem y117_ok : FnE.OK Tryz.prog (Env.gam e0) 117 y117 := execFnC_ok g68_good hmix Tryz.func117 Tryz.call117 (by decide +kernel) rfl
noncomputable def g69 : Env := g68.add 117 y117
theorem g69_good : g69.Good := Env.Good.add g68_good y117_ok
/-- math.Sqrt -/
noncomputable def y177 : FnE := execFnC g69 Tryz.f177 3 []
theorem y177_ok : FnE.OK Tryz.prog (Env.gam e0) 177 y177 := execFnC_ok g69_good hmix Tryz.func177 Tryz.call177 (by decide +kernel) rfl
noncomputable def g70 : Env := g69.add 177 y177
theorem g70_good : g70.Good := Env.Good.add g69_good y177_ok
/-- math.IsNaN -/
noncomputable def y226 : FnE := execFnC g70 Tryz.f226 3 []
theorem y226_ok : FnE.OK Tryz.prog (Env.gam e0) 226 y226 := execFnC_ok g70_good hmix Tryz.func226 Tryz.call226 (by decide +kernel) rfl
noncomputable def g71 : Env := g70.add 226 y226
theorem g71_good : g71.Good := Env.Good.add g70_good y226_ok
noncomputable def g72 : Env := g71.addX 210 (xFrombits .f64 .u64)
theorem g72_good : g72.Good := Env.Good.addX g71_good (xFrombits_ok (row := Extern.MathFloatBits.float64frombits) (fun _ => rfl) Tryz.func210 rfl (by decide +kernel) (by kernel_rfl) (by kernel_rfl))
noncomputable def g73 : Env := g72.addX 237 (xBits .f64 .u64)
theorem g73_good : g73.Good := Env.Good.addX g72_good (xBits_ok (row := Extern.MathFloatBits.float64bits) (fun _ => rfl) Tryz.func237 rfl (by decide +kernel) (by kernel_rfl) (by kernel_rfl))
/-- math.Abs -/
noncomputable def y234 : FnE := execFnC g73 Tryz.f234 3 []
theorem y234_ok : FnE.OK Tryz.prog (Env.gam e0) 234 y234 := execFnC_ok g73_good hmix Tryz.func234 Tryz.call234 (by decide +kernel) rfl
noncomputable def g74 : Env := g73.add 234 y234
theorem g74_good : g74.Good := Env.Good.add g73_good y234_ok
/-- math.IsInf -/
noncomputable def y227 : FnE := execFnC g74 Tryz.f227 4 []
theorem y227_ok : FnE.OK Tryz.prog (Env.gam e0) 227 y227 := execFnC_ok g74_good hmix Tryz.func227 Tryz.call227 (by decide +kernel) rfl
noncomputable def g75 : Env := g74.add 227 y227
theorem g75_good : g75.Good := Env.Good.add g74_good y227_ok
/-- math.Copysign -/
noncomputable def y236 : FnE := execFnC g75 Tryz.f236 4 []
theorem y236_ok : FnE.OK Tryz.prog (Env.gam e0) 236 y236 := execFnC_ok g75_good hmix Tryz.func236 Tryz.call236 (by decide +kernel) rfl
noncomputable def g76 : Env := g75.add 236 y236
theorem g76_good : g76.Good := Env.Good.add g75_good y236_ok
/-- math.trunc -/
noncomputable def y239 : FnE := execFnC g76 Tryz.f239 5 []
theorem y239_ok : FnE.OK Tryz.prog (Env.gam e0) 239 y239 := execFnC_ok g76_good hmix Tryz.func239 Tryz.call239 (by decide +kernel) rfl
noncomputable def g77 : Env := g76.add 239 y239
theorem g77_good : g77.Good := Env.Good.add g76_good y239_ok
/-- math.Trunc -/
noncomputable def y235 : FnE := execFnC g77 Tryz.f235 3 []
theorem y235_ok : FnE.OK Tryz.prog (Env.gam e0) 235 y235 := execFnC_ok g77_good hmix Tryz.func235 Tryz.call235 (by decide +kernel) rfl
noncomputable def g78 : Env := g77.add 235 y235
theorem g78_good : g78.Good := Env.Good.add g77_good y235_ok
/-- math.Modf -/
noncomputable def y228 : FnE := execFnC g78 Tryz.f228 4 []
theorem y228_ok : FnE.OK Tryz.prog (Env.gam e0) 228 y228 := execFnC_ok g78_good hmix Tryz.func228 Tryz.call228 (by decide +kernel) rfl
noncomputable def g79 : Env := g78.add 228 y228
theorem g79_good : g79.Good := Env.Good.add g78_good y228_ok
/-- math.floor -/
noncomputable def y209 : FnE := execFnC g79 Tryz.f209 6 []
theorem y209_ok : FnE.OK Tryz.prog (Env.gam e0) 209 y209 := execFnC_ok g79_good hmix Tryz.func209 Tryz.call209 (by decide +kernel) rfl
noncomputable def g80 : Env := g79.add 209 y209
theorem g80_good : g80.Good := Env.Good.add g79_good y209_ok
/-- math.Floor -/
noncomputable def y178 : FnE := execFnC g80 Tryz.f178 3 []
theorem y178_ok : FnE.OK Tryz.prog (Env.gam e0) 178 y178 := execFnC_ok g80_good hmix Tryz.func178 Tryz.call178 (by decide +kernel) rfl
noncomputable def g81 : Env := g80.add 178 y178
theorem g81_good : g81.Good := Env.Good.add g80_good y178_ok
/-- mandrel/num.exp -/
noncomputable def y179 : FnE := execFnC g81 Tryz.f179 6 [(12, [4, 5, 6, 7])]
theorem y179_ok : FnE.OK Tryz.prog (Env.gam e0) 179 y179 := execFnC_ok g81_good hmix Tryz.func179 Tryz.call179 (by decide +kernel) rfl
noncomputable def g82 : Env := g81.add 179 y179
theorem g82_good : g82.Good := Env.Good.add g81_good y179_ok
/-- mandrel/num.sigmoid -/
noncomputable def y180 : FnE := execFnC g82 Tryz.f180 4 []
theorem y180_ok : FnE.OK Tryz.prog (Env.gam e0) 180 y180 := execFnC_ok g82_good hmix Tryz.func180 Tryz.call180 (by decide +kernel) rfl
noncomputable def g83 : Env := g82.add 180 y180
theorem g83_good : g83.Good := Env.Good.add g82_good y180_ok
/-- mandrel/num.tanh -/
noncomputable def y181 : FnE := execFnC g83 Tryz.f181 6 []
theorem y181_ok : FnE.OK Tryz.prog (Env.gam e0) 181 y181 := execFnC_ok g83_good hmix Tryz.func181 Tryz.call181 (by decide +kernel) rfl
noncomputable def g84 : Env := g83.add 181 y181
theorem g84_good : g84.Good := Env.Good.add g83_good y181_ok
/-- mandrel/num.ofFloat -/
noncomputable def y152 : FnE := execFnC g84 Tryz.f152 6 []
theorem y152_ok : FnE.OK Tryz.prog (Env.gam e0) 152 y152 := execFnC_ok g84_good hmix Tryz.func152 Tryz.call152 (by decide +kernel) rfl
noncomputable def g85 : Env := g84.add 152 y152
theorem g85_good : g85.Good := Env.Good.add g84_good y152_ok
/-- mandrel/num.Unary -/
noncomputable def y118 : FnE := execFnC g85 Tryz.f118 7 []
theorem y118_ok : FnE.OK Tryz.prog (Env.gam e0) 118 y118 := execFnC_ok g85_good hmix Tryz.func118 Tryz.call118 (by decide +kernel) rfl
noncomputable def g86 : Env := g85.add 118 y118
theorem g86_good : g86.Good := Env.Good.add g85_good y118_ok
/-- (mandrel/infer.maker).alike$1 -/
noncomputable def y154 : FnE := execFnC g86 Tryz.f154 4 []
theorem y154_ok : FnE.OK Tryz.prog (Env.gam e0) 154 y154 := execFnC_ok g86_good hmix Tryz.func154 Tryz.call154 (by decide +kernel) rfl
noncomputable def g87 : Env := g86.add 154 y154
theorem g87_good : g87.Good := Env.Good.add g86_good y154_ok
/-- slices.IndexFunc[[]mandrel/api.Value,mandrel/api.Value] -/
noncomputable def y182 : FnE := execFnC g87 Tryz.f182 5 [(2, [0, 1, 7, 8])]
theorem y182_ok : FnE.OK Tryz.prog (Env.gam e0) 182 y182 := execFnC_ok g87_good hmix Tryz.func182 Tryz.call182 (by decide +kernel) rfl
noncomputable def g88 : Env := g87.add 182 y182
theorem g88_good : g88.Good := Env.Good.add g87_good y182_ok
/-- slices.ContainsFunc[[]mandrel/api.Value,mandrel/api.Value] -/
noncomputable def y153 : FnE := execFnC g88 Tryz.f153 4 []
theorem y153_ok : FnE.OK Tryz.prog (Env.gam e0) 153 y153 := execFnC_ok g88_good hmix Tryz.func153 Tryz.call153 (by decide +kernel) rfl
noncomputable def g89 : Env := g88.add 153 y153
theorem g89_good : g89.Good := Env.Good.add g88_good y153_ok
/-- (mandrel/infer.maker).alike -/
noncomputable def y119 : FnE := execFnC g89 Tryz.f119 4 []
theorem y119_ok : FnE.OK Tryz.prog (Env.gam e0) 119 y119 := execFnC_ok g89_good hmix Tryz.func119 Tryz.call119 (by decide +kernel) rfl
noncomputable def g90 : Env := g89.add 119 y119
theorem g90_good : g90.Good := Env.Good.add g89_good y119_ok
/-- (mandrel/infer.maker).typ -/
noncomputable def y93 : FnE := execFnC g90 Tryz.f93 8 []
theorem y93_ok : FnE.OK Tryz.prog (Env.gam e0) 93 y93 := execFnC_ok g90_good hmix Tryz.func93 Tryz.call93 (by decide +kernel) rfl
noncomputable def g91 : Env := g90.add 93 y93
theorem g91_good : g91.Good := Env.Good.add g90_good y93_ok
/-- slices.Equal[[]int,int] -/
noncomputable def y77 : FnE := execFnC g91 Tryz.f77 5 [(4, [0, 1, 12, 13])]
theorem y77_ok : FnE.OK Tryz.prog (Env.gam e0) 77 y77 := execFnC_ok g91_good hmix Tryz.func77 Tryz.call77 (by decide +kernel) rfl
noncomputable def g92 : Env := g91.add 77 y77
theorem g92_good : g92.Good := Env.Good.add g91_good y77_ok
/-- slices.Clone[[]int,int] -/
noncomputable def bb96 : FnE := execFnC g92 Tryz.f96 4 []
noncomputable def y96 : FnE := cloneE bb96
theorem y96_ok : FnE.OK Tryz.prog (Env.gam e0) 96 y96 := cloneE_ok (execFnC_ok g92_good hmix Tryz.func96 Tryz.call96 (by decide +kernel) rfl) Tryz.call96 cn96 ce96
noncomputable def g93 : Env := g92.add 96 y96
theorem g93_good : g93.Good := Env.Good.add g92_good y96_ok
/-- mandrel/shape.Broadcast -/
noncomputable def y76 : FnE := execFnC g93 Tryz.f76 7 [(2, [0, 1, 18, 19, 20]), (13, [1, 10, 11, 48, 49])]
theorem y76_ok : FnE.OK Tryz.prog (Env.gam e0) 76 y76 := execFnC_ok g93_good hmix Tryz.func76 Tryz.call76 (by decide +kernel) rfl
noncomputable def g94 : Env := g93.add 76 y76
theorem g94_good : g94.Good := Env.Good.add g93_good y76_ok
/-- mandrel/infer.spread -/
noncomputable def y120 : FnE := execFnC g94 Tryz.f120 5 []
theorem y120_ok : FnE.OK Tryz.prog (Env.gam e0) 120 y120 := execFnC_ok g94_good hmix Tryz.func120 Tryz.call120 (by decide +kernel) rfl
noncomputable def g95 : Env := g94.add 120 y120
theorem g95_good : g95.Good := Env.Good.add g94_good y120_ok
/-- mandrel/infer.axis -/
noncomputable def y121 : FnE := execFnC g95 Tryz.f121 5 []
theorem y121_ok : FnE.OK Tryz.prog (Env.gam e0) 121 y121 := execFnC_ok g95_good hmix Tryz.func121 Tryz.call121 (by decide +kernel) rfl
noncomputable def g96 : Env := g95.add 121 y121
theorem g96_good : g96.Good := Env.Good.add g95_good y121_ok
/-- slices.Clone[[]int64,int64] -/
noncomputable def bb43 : FnE := execFnC g96 Tryz.f43 4 []
noncomputable def y43 : FnE := cloneE bb43
theorem y43_ok : FnE.OK Tryz.prog (Env.gam e0) 43 y43 := cloneE_ok (execFnC_ok g96_good hmix Tryz.func43 Tryz.call43 (by decide +kernel) rfl) Tryz.call43 cn43 ce43
noncomputable def g97 : Env := g96.add 43 y43
theorem g97_good : g97.Good := Env.Good.add g96_good y43_ok
/-- mandrel/schema.Ints -/
noncomputable def y30 : FnE := execFnC g97 Tryz.f30 5 []
theorem y30_ok : FnE.OK Tryz.prog (Env.gam e0) 30 y30 := execFnC_ok g97_good hmix Tryz.func30 Tryz.call30 (by decide +kernel) rfl
noncomputable def g98 : Env := g97.add 30 y30
theorem g98_good : g98.Good := Env.Good.add g97_good y30_ok
/-- mandrel/infer.upTo -/
noncomputable def y155 : FnE := execFnC g98 Tryz.f155 4 [(3, [3, 5, 6])]
theorem y155_ok : FnE.OK Tryz.prog (Env.gam e0) 155 y155 := execFnC_ok g98_good hmix Tryz.func155 Tryz.call155 (by decide +kernel) rfl
noncomputable def g99 : Env := g98.add 155 y155
theorem g99_good : g99.Good := Env.Good.add g98_good y155_ok
/-- slices.Index[[]int,int] -/
noncomputable def y183 : FnE := execFnC g99 Tryz.f183 5 [(2, [0, 1, 7, 8])]
theorem y183_ok : FnE.OK Tryz.prog (Env.gam e0) 183 y183 := execFnC_ok g99_good hmix Tryz.func183 Tryz.call183 (by decide +kernel) rfl
noncomputable def g100 : Env := g99.add 183 y183
theorem g100_good : g100.Good := Env.Good.add g99_good y183_ok
/-- slices.Contains[[]int,int] -/
noncomputable def y157 : FnE := execFnC g100 Tryz.f157 4 []
theorem y157_ok : FnE.OK Tryz.prog (Env.gam e0) 157 y157 := execFnC_ok g100_good hmix Tryz.func157 Tryz.call157 (by decide +kernel) rfl
noncomputable def g101 : Env := g100.add 157 y157
theorem g101_good : g101.Good := Env.Good.add g100_good y157_ok
/-- mandrel/infer.axes -/
noncomputable def y156 : FnE := execFnC g101 Tryz.f156 5 [(3, [1, 5, 9, 10, 11])]
theorem y156_ok : FnE.OK Tryz.prog (Env.gam e0) 156 y156 := execFnC_ok g101_good hmix Tryz.func156 Tryz.call156 (by decide +kernel) rfl
noncomputable def g102 : Env := g101.add 156 y156
theorem g102_good : g102.Good := Env.Good.add g101_good y156_ok
/-- (mandrel/infer.maker).reduced -/
noncomputable def y122 : FnE := execFnC g102 Tryz.f122 6 [(9, [6, 7, 8, 39, 40, 41])]
theorem y122_ok : FnE.OK Tryz.prog (Env.gam e0) 122 y122 := execFnC_ok g102_good hmix Tryz.func122 Tryz.call122 (by decide +kernel) rfl
noncomputable def g103 : Env := g102.add 122 y122
theorem g103_good : g103.Good := Env.Good.add g102_good y122_ok
/-- mandrel/infer.product -/
noncomputable def y123 : FnE := execFnC g103 Tryz.f123 6 []
theorem y123_ok : FnE.OK Tryz.prog (Env.gam e0) 123 y123 := execFnC_ok g103_good hmix Tryz.func123 Tryz.call123 (by decide +kernel) rfl
noncomputable def g104 : Env := g103.add 123 y123
theorem g104_good : g104.Good := Env.Good.add g103_good y123_ok
/-- (mandrel/infer.maker).turned -/
noncomputable def y158 : FnE := execFnC g104 Tryz.f158 6 []
theorem y158_ok : FnE.OK Tryz.prog (Env.gam e0) 158 y158 := execFnC_ok g104_good hmix Tryz.func158 Tryz.call158 (by decide +kernel) rfl
noncomputable def g105 : Env := g104.add 158 y158
theorem g105_good : g105.Good := Env.Good.add g104_good y158_ok
/-- (mandrel/infer.maker).gemm -/
noncomputable def y124 : FnE := execFnC g105 Tryz.f124 6 []
theorem y124_ok : FnE.OK Tryz.prog (Env.gam e0) 124 y124 := execFnC_ok g105_good hmix Tryz.func124 Tryz.call124 (by decide +kernel) rfl
noncomputable def g106 : Env := g105.add 124 y124
theorem g106_good : g106.Good := Env.Good.add g105_good y124_ok
/-- mandrel/infer.numbers -/
noncomputable def y160 : FnE := execFnC g106 Tryz.f160 6 [(4, [3, 4, 5, 14, 21, 22, 23])]
theorem y160_ok : FnE.OK Tryz.prog (Env.gam e0) 160 y160 := execFnC_ok g106_good hmix Tryz.func160 Tryz.call160 (by decide +kernel) rfl
noncomputable def g107 : Env := g106.add 160 y160
theorem g107_good : g107.Good := Env.Good.add g106_good y160_ok
/-- (mandrel/infer.maker).window -/
noncomputable def y159 : FnE := execFnC g107 Tryz.f159 5 []
theorem y159_ok : FnE.OK Tryz.prog (Env.gam e0) 159 y159 := execFnC_ok g107_good hmix Tryz.func159 Tryz.call159 (by decide +kernel) rfl
noncomputable def g108 : Env := g107.add 159 y159
theorem g108_good : g108.Good := Env.Good.add g107_good y159_ok
/-- (mandrel/infer.maker).conv -/
noncomputable def y125 : FnE := execFnC g108 Tryz.f125 7 []
theorem y125_ok : FnE.OK Tryz.prog (Env.gam e0) 125 y125 := execFnC_ok g108_good hmix Tryz.func125 Tryz.call125 (by decide +kernel) rfl
noncomputable def g109 : Env := g108.add 125 y125
theorem g109_good : g109.Good := Env.Good.add g108_good y125_ok
/-- (mandrel/infer.maker).pool -/
noncomputable def y126 : FnE := execFnC g109 Tryz.f126 6 [(5, [1, 5, 6, 7, 26, 27, 28])]
theorem y126_ok : FnE.OK Tryz.prog (Env.gam e0) 126 y126 := execFnC_ok g109_good hmix Tryz.func126 Tryz.call126 (by decide +kernel) rfl
noncomputable def g110 : Env := g109.add 126 y126
theorem g110_good : g110.Good := Env.Good.add g109_good y126_ok
/-- mandrel/infer.count -/
noncomputable def y185 : FnE := execFnC g110 Tryz.f185 4 []
theorem y185_ok : FnE.OK Tryz.prog (Env.gam e0) 185 y185 := execFnC_ok g110_good hmix Tryz.func185 Tryz.call185 (by decide +kernel) rfl
noncomputable def g111 : Env := g110.add 185 y185
theorem g111_good : g111.Good := Env.Good.add g110_good y185_ok
/-- (mandrel/infer.maker).reshape -/
noncomputable def y161 : FnE := execFnC g111 Tryz.f161 7 [(4, [1, 5, 6, 7, 13, 14, 15])]
theorem y161_ok : FnE.OK Tryz.prog (Env.gam e0) 161 y161 := execFnC_ok g111_good hmix Tryz.func161 Tryz.call161 (by decide +kernel) rfl
noncomputable def g112 : Env := g111.add 161 y161
theorem g112_good : g112.Good := Env.Good.add g111_good y161_ok
/-- slices.Reverse[[]int64,int64] -/
noncomputable def y186 : FnE := execFnC g112 Tryz.f186 5 [(1, [0, 2, 3])]
theorem y186_ok : FnE.OK Tryz.prog (Env.gam e0) 186 y186 := execFnC_ok g112_good hmix Tryz.func186 Tryz.call186 (by decide +kernel) rfl
noncomputable def g113 : Env := g112.add 186 y186
theorem g113_good : g113.Good := Env.Good.add g112_good y186_ok
/-- (mandrel/infer.maker).transpose -/
noncomputable def y162 : FnE := execFnC g113 Tryz.f162 6 [(6, [1, 6, 7, 24, 25, 26])]
theorem y162_ok : FnE.OK Tryz.prog (Env.gam e0) 162 y162 := execFnC_ok g113_good hmix Tryz.func162 Tryz.call162 (by decide +kernel) rfl
noncomputable def g114 : Env := g113.add 162 y162
theorem g114_good : g114.Good := Env.Good.add g113_good y162_ok
/-- (mandrel/infer.maker).concat -/
noncomputable def y163 : FnE := execFnC g114 Tryz.f163 6 [(4, [1, 5, 6, 21, 22, 23]), (8, [1, 5, 6, 21, 22, 23, 35, 36, 37])]
theorem y163_ok : FnE.OK Tryz.prog (Env.gam e0) 163 y163 := execFnC_ok g114_good hmix Tryz.func163 Tryz.call163 (by decide +kernel) rfl
noncomputable def g115 : Env := g114.add 163 y163
theorem g115_good : g115.Good := Env.Good.add g114_good y163_ok
/-- mandrel/infer.bound -/
noncomputable def y187 : FnE := execFnC g115 Tryz.f187 4 []
theorem y187_ok : FnE.OK Tryz.prog (Env.gam e0) 187 y187 := execFnC_ok g115_good hmix Tryz.func187 Tryz.call187 (by decide +kernel) rfl
noncomputable def g116 : Env := g115.add 187 y187
theorem g116_good : g116.Good := Env.Good.add g115_good y187_ok
/-- (mandrel/infer.maker).slice -/
noncomputable def y164 : FnE := execFnC g116 Tryz.f164 7 [(6, [1, 5, 6, 8, 41, 42, 43])]
theorem y164_ok : FnE.OK Tryz.prog (Env.gam e0) 164 y164 := execFnC_ok g116_good hmix Tryz.func164 Tryz.call164 (by decide +kernel) rfl
noncomputable def g117 : Env := g116.add 164 y164
theorem g117_good : g117.Good := Env.Good.add g116_good y164_ok
/-- slices.Grow[[]int,int] -/
noncomputable def y188 : FnE := execFnC g117 Tryz.f188 5 []
theorem y188_ok : FnE.OK Tryz.prog (Env.gam e0) 188 y188 := execFnC_ok g117_good hmix Tryz.func188 Tryz.call188 (by decide +kernel) rfl
noncomputable def g118 : Env := g117.add 188 y188
theorem g118_good : g118.Good := Env.Good.add g117_good y188_ok
/-- slices.Concat[[]int,int] -/
noncomputable def g119 : Env := g118.add 165 (treeElse catT x165)
theorem g119_good : g119.Good := Env.Good.add g118_good (treeElse_ok catT_ok x165_ok)
/-- (mandrel/infer.maker).pad -/
noncomputable def y166 : FnE := execFnC g119 Tryz.f166 6 [(4, [1, 5, 6, 17, 18])]
theorem y166_ok : FnE.OK Tryz.prog (Env.gam e0) 166 y166 := execFnC_ok g119_good hmix Tryz.func166 Tryz.call166 (by decide +kernel) rfl
noncomputable def g120 : Env := g119.add 166 y166
theorem g120_good : g120.Good := Env.Good.add g119_good y166_ok
/-- cmp.isNaN[int] -/
noncomputable def y218 : FnE := execFnC g120 Tryz.f218 3 []
theorem y218_ok : FnE.OK Tryz.prog (Env.gam e0) 218 y218 := execFnC_ok g120_good hmix Tryz.func218 Tryz.call218 (by decide +kernel) rfl
noncomputable def g121 : Env := g120.add 218 y218
theorem g121_good : g121.Good := Env.Good.add g120_good y218_ok
/-- cmp.Less[int] -/
noncomputable def y198 : FnE := execFnC g121 Tryz.f198 5 []
theorem y198_ok : FnE.OK Tryz.prog (Env.gam e0) 198 y198 := execFnC_ok g121_good hmix Tryz.func198 Tryz.call198 (by decide +kernel) rfl
noncomputable def g122 : Env := g121.add 198 y198
theorem g122_good : g122.Good := Env.Good.add g121_good y198_ok
/-- slices.insertionSortOrdered[int] -/
noncomputable def y192 : FnE := execFnC g122 Tryz.f192 6 [(1, [0, 1, 2, 6]), (4, [0, 1, 2, 6, 7])]
theorem y192_ok : FnE.OK Tryz.prog (Env.gam e0) 192 y192 := execFnC_ok g122_good hmix Tryz.func192 Tryz.call192 (by decide +kernel) rfl
noncomputable def g123 : Env := g122.add 192 y192
theorem g123_good : g123.Good := Env.Good.add g122_good y192_ok
/-- slices.siftDownOrdered[int] -/
noncomputable def y213 : FnE := execFnC g123 Tryz.f213 7 [(1, [0, 2, 3, 8])]
theorem y213_ok : FnE.OK Tryz.prog (Env.gam e0) 213 y213 := execFnC_ok g123_good hmix Tryz.func213 Tryz.call213 (by decide +kernel) rfl
noncomputable def g124 : Env := g123.add 213 y213
theorem g124_good : g124.Good := Env.Good.add g123_good y213_ok
/-- slices.heapSortOrdered[int] -/
noncomputable def y193 : FnE := execFnC g124 Tryz.f193 6 [(4, [0, 6, 7, 8, 9]), (8, [0, 6, 7, 10])]
theorem y193_ok : FnE.OK Tryz.prog (Env.gam e0) 193 y193 := execFnC_ok g124_good hmix Tryz.func193 Tryz.call193 (by decide +kernel) rfl
noncomputable def g125 : Env := g124.add 193 y193
theorem g125_good : g125.Good := Env.Good.add g124_good y193_ok
/-- math/bits.Len32 -/
noncomputable def y201 : FnE := execFnC g125 Tryz.f201 5 []
theorem y201_ok : FnE.OK Tryz.prog (Env.gam e0) 201 y201 := execFnC_ok g125_good hmix Tryz.func201 Tryz.call201 (by decide +kernel) rfl
noncomputable def g126 : Env := g125.add 201 y201
theorem g126_good : g126.Good := Env.Good.add g125_good y201_ok
/-- math/bits.Len64 -/
noncomputable def y202 : FnE := execFnC g126 Tryz.f202 5 []
theorem y202_ok : FnE.OK Tryz.prog (Env.gam e0) 202 y202 := execFnC_ok g126_good hmix Tryz.func202 Tryz.call202 (by decide +kernel) rfl
noncomputable def g127 : Env := g126.add 202 y202
theorem g127_good : g127.Good := Env.Good.add g126_good y202_ok
/-- math/bits.Len -/
noncomputable def y172 : FnE := execFnC g127 Tryz.f172 4 []
theorem y172_ok : FnE.OK Tryz.prog (Env.gam e0) 172 y172 := execFnC_ok g127_good hmix Tryz.func172 Tryz.call172 (by decide +kernel) rfl
noncomputable def g128 : Env := g127.add 172 y172
theorem g128_good : g128.Good := Env.Good.add g127_good y172_ok
/-- slices.nextPowerOfTwo -/
noncomputable def y214 : FnE := execFnC g128 Tryz.f214 3 []
theorem y214_ok : FnE.OK Tryz.prog (Env.gam e0) 214 y214 := execFnC_ok g128_good hmix Tryz.func214 Tryz.call214 (by decide +kernel) rfl
noncomputable def g129 : Env := g128.add 214 y214
theorem g129_good : g129.Good := Env.Good.add g128_good y214_ok
/-- (*slices.xorshift).Next -/
noncomputable def y215 : FnE := execFnC g129 Tryz.f215 6 []
theorem y215_ok : FnE.OK Tryz.prog (Env.gam e0) 215 y215 := execFnC_ok g129_good hmix Tryz.func215 Tryz.call215 (by decide +kernel) rfl
noncomputable def g130 : Env := g129.add 215 y215
theorem g130_good : g130.Good := Env.Good.add g129_good y215_ok
/-- slices.breakPatternsOrdered[int] -/
noncomputable def y194 : FnE := execFnC g130 Tryz.f194 7 [(5, [0, 1, 6, 7, 8, 9])]
theorem y194_ok : FnE.OK Tryz.prog (Env.gam e0) 194 y194 := execFnC_ok g130_good hmix Tryz.func194 Tryz.call194 (by decide +kernel) rfl
noncomputable def g131 : Env := g130.add 194 y194
theorem g131_good : g131.Good := Env.Good.add g130_good y194_ok
/-- slices.order2Ordered[int] -/
noncomputable def y230 : FnE := execFnC g131 Tryz.f230 5 []
theorem y230_ok : FnE.OK Tryz.prog (Env.gam e0) 230 y230 := execFnC_ok g131_good hmix Tryz.func230 Tryz.call230 (by decide +kernel) rfl
noncomputable def g132 : Env := g131.add 230 y230
theorem g132_good : g132.Good := Env.Good.add g131_good y230_ok
/-- slices.medianOrdered[int] -/
noncomputable def y217 : FnE := execFnC g132 Tryz.f217 6 []
theorem y217_ok : FnE.OK Tryz.prog (Env.gam e0) 217 y217 := execFnC_ok g132_good hmix Tryz.func217 Tryz.call217 (by decide +kernel) rfl
noncomputable def g133 : Env := g132.add 217 y217
theorem g133_good : g133.Good := Env.Good.add g132_good y217_ok
/-- slices.medianAdjacentOrdered[int] -/
noncomputable def y216 : FnE := execFnC g133 Tryz.f216 4 []
theorem y216_ok : FnE.OK Tryz.prog (Env.gam e0) 216 y216 := execFnC_ok g133_good hmix Tryz.func216 Tryz.call216 (by decide +kernel) rfl
noncomputable def g134 : Env := g133.add 216 y216
theorem g134_good : g134.Good := Env.Good.add g133_good y216_ok
/-- slices.choosePivotOrdered[int] -/
noncomputable def y195 : FnE := execFnC g134 Tryz.f195 6 []
theorem y195_ok : FnE.OK Tryz.prog (Env.gam e0) 195 y195 := execFnC_ok g134_good hmix Tryz.func195 Tryz.call195 (by decide +kernel) rfl
noncomputable def g135 : Env := g134.add 195 y195
theorem g135_good : g135.Good := Env.Good.add g134_good y195_ok
/-- slices.reverseRangeOrdered[int] -/
noncomputable def y196 : FnE := execFnC g135 Tryz.f196 6 [(2, [0, 6, 7])]
theorem y196_ok : FnE.OK Tryz.prog (Env.gam e0) 196 y196 := execFnC_ok g135_good hmix Tryz.func196 Tryz.call196 (by decide +kernel) rfl
noncomputable def g136 : Env := g135.add 196 y196
theorem g136_good : g136.Good := Env.Good.add g135_good y196_ok
/-- slices.partialInsertionSortOrdered[int] -/
noncomputable def y197 : FnE := execFnC g136 Tryz.f197 8 [(3, [0, 1, 2, 7, 8]), (5, [0, 1, 2, 7, 8]), (14, [0, 1, 2, 7, 8, 9]), (20, [0, 1, 2, 7, 8, 10])]
theorem y197_ok : FnE.OK Tryz.prog (Env.gam e0) 197 y197 := execFnC_ok g136_good hmix Tryz.func197 Tryz.call197 (by decide +kernel) rfl
noncomputable def g137 : Env := g136.add 197 y197
theorem g137_good : g137.Good := Env.Good.add g136_good y197_ok
/-- slices.partitionEqualOrdered[int] -/
noncomputable def y199 : FnE := execFnC g137 Tryz.f199 7 [(3, [0, 1, 9, 10]), (3, [0, 1, 9, 10]), (5, [0, 1, 9, 10])]
theorem y199_ok : FnE.OK Tryz.prog (Env.gam e0) 199 y199 := execFnC_ok g137_good hmix Tryz.func199 Tryz.call199 (by decide +kernel) rfl
noncomputable def g138 : Env := g137.add 199 y199
theorem g138_good : g138.Good := Env.Good.add g137_good y199_ok
/-- slices.partitionOrdered[int] -/
noncomputable def y200 : FnE := execFnC g138 Tryz.f200 8 [(3, [0, 1, 10, 11]), (5, [0, 1, 10, 11]), (13, [0, 1, 10, 11]), (13, [0, 1, 10, 11]), (15, [0, 1, 10, 11])]
theorem y200_ok : FnE.OK Tryz.prog (Env.gam e0) 200 y200 := execFnC_ok g138_good hmix Tryz.func200 Tryz.call200 (by decide +kernel) rfl
noncomputable def g139 : Env := g138.add 200 y200
theorem g139_good : g139.Good := Env.Good.add g138_good y200_ok
/-- slices.pdqsortOrdered[int] -/
noncomputable def y171 : FnE := execFnC g139 Tryz.f171 8 [(2, [0, 1, 2, 3, 8, 9])]
theorem y171_ok : FnE.OK Tryz.prog (Env.gam e0) 171 y171 := execFnC_ok g139_good hmix Tryz.func171 Tryz.call171 (by decide +kernel) rfl
noncomputable def g140 : Env := g139.add 171 y171
theorem g140_good : g140.Good := Env.Good.add g139_good y171_ok
/-- slices.Sort[[]int,int] -/
noncomputable def y134 : FnE := execFnC g140 Tryz.f134 4 []
theorem y134_ok : FnE.OK Tryz.prog (Env.gam e0) 134 y134 := execFnC_ok g140_good hmix Tryz.func134 Tryz.call134 (by decide +kernel) rfl
noncomputable def g141 : Env := g140.add 134 y134
theorem g141_good : g141.Good := Env.Good.add g140_good y134_ok
/-- slices.Reverse[[]int,int] -/
noncomputable def y189 : FnE := execFnC g141 Tryz.f189 5 [(1, [0, 2, 3])]
theorem y189_ok : FnE.OK Tryz.prog (Env.gam e0) 189 y189 := execFnC_ok g141_good hmix Tryz.func189 Tryz.call189 (by decide +kernel) rfl
noncomputable def g142 : Env := g141.add 189 y189
theorem g142_good : g142.Good := Env.Good.add g141_good y189_ok
/-- slices.Delete[[]int,int] -/
noncomputable def y190 : FnE := execFnC g142 Tryz.f190 6 []
theorem y190_ok : FnE.OK Tryz.prog (Env.gam e0) 190 y190 := execFnC_ok g142_good hmix Tryz.func190 Tryz.call190 (by decide +kernel) rfl
noncomputable def g143 : Env := g142.add 190 y190
theorem g143_good : g143.Good := Env.Good.add g142_good y190_ok
/-- (mandrel/infer.maker).squeeze -/
noncomputable def y167 : FnE := execFnC g143 Tryz.f167 6 [(6, [6, 21, 22, 23])]
theorem y167_ok : FnE.OK Tryz.prog (Env.gam e0) 167 y167 := execFnC_ok g143_good hmix Tryz.func167 Tryz.call167 (by decide +kernel) rfl
noncomputable def g144 : Env := g143.add 167 y167
theorem g144_good : g144.Good := Env.Good.add g143_good y167_ok
/-- slices.rotateLeft[int] -/
noncomputable def y229 : FnE := execFnC g144 Tryz.f229 4 []
theorem y229_ok : FnE.OK Tryz.prog (Env.gam e0) 229 y229 := execFnC_ok g144_good hmix Tryz.func229 Tryz.call229 (by decide +kernel) rfl
noncomputable def g145 : Env := g144.add 229 y229
theorem g145_good : g145.Good := Env.Good.add g144_good y229_ok
/-- slices.rotateRight[int] -/
noncomputable def y212 : FnE := execFnC g145 Tryz.f212 4 []
theorem y212_ok : FnE.OK Tryz.prog (Env.gam e0) 212 y212 := execFnC_ok g145_good hmix Tryz.func212 Tryz.call212 (by decide +kernel) rfl
noncomputable def g146 : Env := g145.add 212 y212
theorem g146_good : g146.Good := Env.Good.add g145_good y212_ok
/-- slices.Insert[[]int,int] -/
noncomputable def y191 : FnE := execFnC g146 Tryz.f191 7 []
theorem y191_ok : FnE.OK Tryz.prog (Env.gam e0) 191 y191 := execFnC_ok g146_good hmix Tryz.func191 Tryz.call191 (by decide +kernel) rfl
noncomputable def g147 : Env := g146.add 191 y191
theorem g147_good : g147.Good := Env.Good.add g146_good y191_ok
/-- (mandrel/infer.maker).unsqueeze -/
noncomputable def y168 : FnE := execFnC g147 Tryz.f168 6 [(6, [7, 24, 25, 26])]
theorem y168_ok : FnE.OK Tryz.prog (Env.gam e0) 168 y168 := execFnC_ok g147_good hmix Tryz.func168 Tryz.call168 (by decide +kernel) rfl
noncomputable def g148 : Env := g147.add 168 y168
theorem g148_good : g148.Good := Env.Good.add g147_good y168_ok
/-- (mandrel/infer.maker).flatten -/
noncomputable def y169 : FnE := execFnC g148 Tryz.f169 6 []
theorem y169_ok : FnE.OK Tryz.prog (Env.gam e0) 169 y169 := execFnC_ok g148_good hmix Tryz.func169 Tryz.call169 (by decide +kernel) rfl
noncomputable def g149 : Env := g148.add 169 y169
theorem g149_good : g149.Good := Env.Good.add g148_good y169_ok
/-- (mandrel/infer.maker).moved -/
noncomputable def y127 : FnE := execFnC g149 Tryz.f127 7 []
theorem y127_ok : FnE.OK Tryz.prog (Env.gam e0) 127 y127 := execFnC_ok g149_good hmix Tryz.func127 Tryz.call127 (by decide +kernel) rfl
noncomputable def g150 : Env := g149.add 127 y127
theorem g150_good : g150.Good := Env.Good.add g149_good y127_ok
/-- (mandrel/infer.maker).dims -/
noncomputable def y94 : FnE := execFnC g150 Tryz.f94 8 [(56, [3, 132, 133, 134])]
theorem y94_ok : FnE.OK Tryz.prog (Env.gam e0) 94 y94 := execFnC_ok g150_good hmix Tryz.func94 Tryz.call94 (by decide +kernel) rfl
noncomputable def g151 : Env := g150.add 94 y94
theorem g151_good : g151.Good := Env.Good.add g150_good y94_ok
/-- (mandrel/infer.maker).then -/
noncomputable def y95 : FnE := execFnC g151 Tryz.f95 6 [(3, [1, 16, 17, 18])]
theorem y95_ok : FnE.OK Tryz.prog (Env.gam e0) 95 y95 := execFnC_ok g151_good hmix Tryz.func95 Tryz.call95 (by decide +kernel) rfl
noncomputable def g152 : Env := g151.add 95 y95
theorem g152_good : g152.Good := Env.Good.add g151_good y95_ok
/-- mandrel/infer.Out -/
noncomputable def dd55 : DefC := ⟨89, Tryz.f89, 5, [], 5, 2, 15, [.tmp 4, .tmp 5]⟩
noncomputable def y55 : FnE := execFnDC g152 Tryz.f55 7 [(5, [1, 2, 4, 5, 26, 27, 28])] dd55
theorem y55_ok : FnE.OK Tryz.prog (Env.gam e0) 55 y55 := execFnDC_ok g152_good (execFnD_ok (D := dd55) g152_good hmix Tryz.func55 Tryz.call55 rfl rfl (by decide +kernel) rfl Tryz.func89 Tryz.call89 rfl rfl (by decide +kernel))
noncomputable def g153 : Env := g152.add 55 y55
theorem g153_good : g153.Good := Env.Good.add g152_good y55_ok
/-- mandrel/conv.begin -/
noncomputable def y28 : FnE := execFnC g153 Tryz.f28 6 [(3, [2, 4, 6, 9, 10, 11])]
theorem y28_ok : FnE.OK Tryz.prog (Env.gam e0) 28 y28 := execFnC_ok g153_good hmix Tryz.func28 Tryz.call28 (by decide +kernel) rfl
noncomputable def g154 : Env := g153.add 28 y28
theorem g154_good : g154.Good := Env.Good.add g153_good y28_ok
/-- mandrel/conv.pair -/
noncomputable def y63 : FnE := execFnC g154 Tryz.f63 5 []
theorem y63_ok : FnE.OK Tryz.prog (Env.gam e0) 63 y63 := execFnC_ok g154_good hmix Tryz.func63 Tryz.call63 (by decide +kernel) rfl
noncomputable def g155 : Env := g154.add 63 y63
theorem g155_good : g155.Good := Env.Good.add g154_good y63_ok
/-- mandrel/conv.look -/
noncomputable def y32 : FnE := execFnC g155 Tryz.f32 6 []
theorem y32_ok : FnE.OK Tryz.prog (Env.gam e0) 32 y32 := execFnC_ok g155_good hmix Tryz.func32 Tryz.call32 (by decide +kernel) rfl
noncomputable def g156 : Env := g155.add 32 y32
theorem g156_good : g156.Good := Env.Good.add g155_good y32_ok
/-- mandrel/shape.Strides -/
noncomputable def y85 : FnE := execFnC g156 Tryz.f85 6 [(7, [0, 6, 7, 22, 23])]
theorem y85_ok : FnE.OK Tryz.prog (Env.gam e0) 85 y85 := execFnC_ok g156_good hmix Tryz.func85 Tryz.call85 (by decide +kernel) rfl
noncomputable def g157 : Env := g156.add 85 y85
theorem g157_good : g157.Good := Env.Good.add g156_good y85_ok
/-- mandrel/shape.Coords -/
noncomputable def y58 : FnE := execFnC g157 Tryz.f58 6 [(9, [1, 10, 36, 37, 38])]
theorem y58_ok : FnE.OK Tryz.prog (Env.gam e0) 58 y58 := execFnC_ok g157_good hmix Tryz.func58 Tryz.call58 (by decide +kernel) rfl
noncomputable def g158 : Env := g157.add 58 y58
theorem g158_good : g158.Good := Env.Good.add g157_good y58_ok
/-- mandrel/conv.two -/
noncomputable def y60 : FnE := execFnC g158 Tryz.f60 5 []
theorem y60_ok : FnE.OK Tryz.prog (Env.gam e0) 60 y60 := execFnC_ok g158_good hmix Tryz.func60 Tryz.call60 (by decide +kernel) rfl
noncomputable def g159 : Env := g158.add 60 y60
theorem g159_good : g159.Good := Env.Good.add g158_good y60_ok
noncomputable def g160 : Env := g159.withRound (roundC g159 [])
theorem g160_good : g160.Good := Env.Good.withRound g159_good (roundC_ok g159_good hmix [])
/-- (mandrel/conv.window).places$1 -/
noncomputable def y99 : FnE := execFnC g160 Tryz.f99 7 [(1, [0, 1, 2, 3, 12, 13])]
theorem y99_ok : FnE.OK Tryz.prog (Env.gam e0) 99 y99 := execFnC_ok g160_good hmix Tryz.func99 Tryz.call99 (by decide +kernel) rfl
noncomputable def g161 : Env := g160.add 99 y99
theorem g161_good : g161.Good := Env.Good.add g160_good y99_ok
/-- (mandrel/conv.window).places -/
noncomputable def y59 : FnE := execFnC g161 Tryz.f59 4 []
theorem y59_ok : FnE.OK Tryz.prog (Env.gam e0) 59 y59 := execFnC_ok g161_good hmix Tryz.func59 Tryz.call59 (by decide +kernel) rfl
noncomputable def g162 : Env := g161.add 59 y59
theorem g162_good : g162.Good := Env.Good.add g161_good y59_ok
noncomputable def g163 : Env := g162.withRound (roundC g162 [])
theorem g163_good : g163.Good := Env.Good.withRound g162_good (roundC_ok g162_good hmix [])
/-- mandrel/view.places$1 -/
noncomputable def y132 : FnE := execFnC g163 Tryz.f132 6 [(2, [0, 1, 3, 4]), (4, [0, 1, 3, 4, 5])]
theorem y132_ok : FnE.OK Tryz.prog (Env.gam e0) 132 y132 := execFnC_ok g163_good hmix Tryz.func132 Tryz.call132 (by decide +kernel) rfl
noncomputable def g164 : Env := g163.add 132 y132
theorem g164_good : g164.Good := Env.Good.add g163_good y132_ok
noncomputable def g165 : Env := g164.withRound (roundC g164 [])
theorem g165_good : g165.Good := Env.Good.withRound g164_good (roundC_ok g164_good hmix [])
/-- slices.Values[[]int,int]$1 -/
noncomputable def y135 : FnE := execFnC g165 Tryz.f135 5 [(1, [0, 5, 6, 7])]
theorem y135_ok : FnE.OK Tryz.prog (Env.gam e0) 135 y135 := execFnC_ok g165_good hmix Tryz.func135 Tryz.call135 (by decide +kernel) rfl
noncomputable def g166 : Env := g165.add 135 y135
theorem g166_good : g166.Good := Env.Good.add g165_good y135_ok
/-- mandrel/conv.conv -/
noncomputable def y29 : FnE := execFnC g166 Tryz.f29 8 [(9, [1, 2, 7, 8, 9, 11, 12, 13, 16, 69, 70]), (15, [1, 2, 7, 8, 9, 11, 12, 13, 16, 17, 18, 20, 21, 69, 70, 82, 83]), (20, [0, 1, 2, 3, 9, 21, 23, 24, 25, 65, 77, 91, 100, 108, 117, 131, 132, 133, 134, 135, 136, 137, 138, 139, 140, 141, 142, 143, 144])]
theorem y29_ok : FnE.OK Tryz.prog (Env.gam e0) 29 y29 := execFnC_ok g166_good hmix Tryz.func29 Tryz.call29 (by decide +kernel) rfl
noncomputable def g167 : Env := g166.add 29 y29
theorem g167_good : g167.Good := Env.Good.add g166_good y29_ok
/-- mandrel/num.toWhole -/
noncomputable def y130 : FnE := execFnC g167 Tryz.f130 5 []
theorem y130_ok : FnE.OK Tryz.prog (Env.gam e0) 130 y130 := execFnC_ok g167_good hmix Tryz.func130 Tryz.call130 (by decide +kernel) rfl
noncomputable def g168 : Env := g167.add 130 y130
theorem g168_good : g168.Good := Env.Good.add g167_good y130_ok
/-- mandrel/num.Cast -/
noncomputable def y101 : FnE := execFnC g168 Tryz.f101 6 []
theorem y101_ok : FnE.OK Tryz.prog (Env.gam e0) 101 y101 := execFnC_ok g168_good hmix Tryz.func101 Tryz.call101 (by decide +kernel) rfl
noncomputable def g169 : Env := g168.add 101 y101
theorem g169_good : g169.Good := Env.Good.add g168_good y101_ok
/-- mandrel/conv.together -/
noncomputable def y62 : FnE := execFnC g169 Tryz.f62 6 [(3, [0, 1, 2, 3, 4, 7, 8, 9, 14, 15, 16, 17, 18, 20, 21, 22, 23, 24, 26, 27, 28, 29, 30, 32, 33, 34])]
theorem y62_ok : FnE.OK Tryz.prog (Env.gam e0) 62 y62 := execFnC_ok g169_good hmix Tryz.func62 Tryz.call62 (by decide +kernel) rfl
noncomputable def g170 : Env := g169.add 62 y62
theorem g170_good : g170.Good := Env.Good.add g169_good y62_ok
/-- mandrel/conv.pool -/
noncomputable def y31 : FnE := execFnC g170 Tryz.f31 6 [(3, [3, 4, 5, 6, 9, 15, 16]), (7, [3, 4, 5, 6, 9, 11, 15, 16, 31, 32]), (10, [3, 4, 5, 6, 9, 11, 12, 15, 16, 31, 32, 37, 38])]
theorem y31_ok : FnE.OK Tryz.prog (Env.gam e0) 31 y31 := execFnC_ok g170_good hmix Tryz.func31 Tryz.call31 (by decide +kernel) rfl
noncomputable def g171 : Env := g170.add 31 y31
theorem g171_good : g171.Good := Env.Good.add g170_good y31_ok
/-- mandrel/conv.Do -/
noncomputable def y17 : FnE := execFnC g171 Tryz.f17 7 []
theorem y17_ok : FnE.OK Tryz.prog (Env.gam e0) 17 y17 := execFnC_ok g171_good hmix Tryz.func17 Tryz.call17 (by decide +kernel) rfl
noncomputable def g172 : Env := g171.add 17 y17
theorem g172_good : g172.Good := Env.Good.add g171_good y17_ok
/-- mandrel/mandrellaw13.live -/
noncomputable def y16 : FnE := execFnC g172 Tryz.f16 7 []
theorem y16_ok : FnE.OK Tryz.prog (Env.gam e0) 16 y16 := execFnC_ok g172_good hmix Tryz.func16 Tryz.call16 (by decide +kernel) rfl
noncomputable def g173 : Env := g172.add 16 y16
theorem g173_good : g173.Good := Env.Good.add g172_good y16_ok
/-- mandrel/mandrelref03.Same -/
noncomputable def y33 : FnE := execFnC g173 Tryz.f33 5 [(4, [0, 1, 5])]
theorem y33_ok : FnE.OK Tryz.prog (Env.gam e0) 33 y33 := execFnC_ok g173_good hmix Tryz.func33 Tryz.call33 (by decide +kernel) rfl
noncomputable def g174 : Env := g173.add 33 y33
theorem g174_good : g174.Good := Env.Good.add g173_good y33_ok
/-- mandrel/mandrelref05.SameTensor -/
noncomputable def y18 : FnE := execFnC g174 Tryz.f18 6 [(4, [2, 3, 5])]
theorem y18_ok : FnE.OK Tryz.prog (Env.gam e0) 18 y18 := execFnC_ok g174_good hmix Tryz.func18 Tryz.call18 (by decide +kernel) rfl
noncomputable def g175 : Env := g174.add 18 y18
theorem g175_good : g175.Good := Env.Good.add g174_good y18_ok
/-- mandrel/mandrellaw13.ConvGlobal -/
noncomputable def y3 : FnE := execFnC g175 Tryz.f3 7 []
theorem y3_ok : FnE.OK Tryz.prog (Env.gam e0) 3 y3 := execFnC_ok g175_good hmix Tryz.func3 Tryz.call3 (by decide +kernel) rfl
noncomputable def g176 : Env := g175.add 3 y3
theorem g176_good : g176.Good := Env.Good.add g175_good y3_ok
/-- mandrel/mandrellaw13.ConvOne -/
noncomputable def y4 : FnE := execFnC g176 Tryz.f4 6 []
theorem y4_ok : FnE.OK Tryz.prog (Env.gam e0) 4 y4 := execFnC_ok g176_good hmix Tryz.func4 Tryz.call4 (by decide +kernel) rfl
noncomputable def g177 : Env := g176.add 4 y4
theorem g177_good : g177.Good := Env.Good.add g176_good y4_ok
/-- mandrel/mandrellaw13.ConvMost -/
noncomputable def y5 : FnE := execFnC g177 Tryz.f5 8 [(4, [1, 2, 3, 7]), (13, [3, 9, 11]), (16, [3, 9, 11, 12])]
theorem y5_ok : FnE.OK Tryz.prog (Env.gam e0) 5 y5 := execFnC_ok g177_good hmix Tryz.func5 Tryz.call5 (by decide +kernel) rfl
noncomputable def g178 : Env := g177.add 5 y5
theorem g178_good : g178.Good := Env.Good.add g177_good y5_ok
/-- mandrel/mandrellaw12.small -/
noncomputable def y20 : FnE := execFnC g178 Tryz.f20 5 [(2, [0, 3])]
theorem y20_ok : FnE.OK Tryz.prog (Env.gam e0) 20 y20 := execFnC_ok g178_good hmix Tryz.func20 Tryz.call20 (by decide +kernel) rfl
noncomputable def g179 : Env := g178.add 20 y20
theorem g179_good : g179.Good := Env.Good.add g178_good y20_ok
/-- mandrel/linear.begin -/
noncomputable def y39 : FnE := execFnC g179 Tryz.f39 6 [(3, [2, 4, 6, 9, 10, 11])]
theorem y39_ok : FnE.OK Tryz.prog (Env.gam e0) 39 y39 := execFnC_ok g179_good hmix Tryz.func39 Tryz.call39 (by decide +kernel) rfl
noncomputable def g180 : Env := g179.add 39 y39
theorem g180_good : g180.Good := Env.Good.add g179_good y39_ok
/-- mandrel/view.fine -/
noncomputable def y75 : FnE := execFnC g180 Tryz.f75 6 []
theorem y75_ok : FnE.OK Tryz.prog (Env.gam e0) 75 y75 := execFnC_ok g180_good hmix Tryz.func75 Tryz.call75 (by decide +kernel) rfl
noncomputable def g181 : Env := g180.add 75 y75
theorem g181_good : g181.Good := Env.Good.add g180_good y75_ok
/-- mandrel/view.Spread -/
noncomputable def y44 : FnE := execFnC g181 Tryz.f44 7 [(10, [2, 4, 6, 8, 38, 39, 40])]
theorem y44_ok : FnE.OK Tryz.prog (Env.gam e0) 44 y44 := execFnC_ok g181_good hmix Tryz.func44 Tryz.call44 (by decide +kernel) rfl
noncomputable def g182 : Env := g181.add 44 y44
theorem g182_good : g182.Good := Env.Good.add g181_good y44_ok
/-- mandrel/view.Whole -/
noncomputable def y78 : FnE := execFnC g182 Tryz.f78 5 []
theorem y78_ok : FnE.OK Tryz.prog (Env.gam e0) 78 y78 := execFnC_ok g182_good hmix Tryz.func78 Tryz.call78 (by decide +kernel) rfl
noncomputable def g183 : Env := g182.add 78 y78
theorem g183_good : g183.Good := Env.Good.add g182_good y78_ok
/-- mandrel/view.places -/
noncomputable def y107 : FnE := execFnC g183 Tryz.f107 3 []
theorem y107_ok : FnE.OK Tryz.prog (Env.gam e0) 107 y107 := execFnC_ok g183_good hmix Tryz.func107 Tryz.call107 (by decide +kernel) rfl
noncomputable def g184 : Env := g183.add 107 y107
theorem g184_good : g184.Good := Env.Good.add g183_good y107_ok
/-- mandrel/view.Read -/
noncomputable def y79 : FnE := execFnC g184 Tryz.f79 5 [(5, [0, 1, 2, 3, 4, 5, 6, 14, 15, 16, 17, 18, 19, 20, 21, 22, 23, 24])]
theorem y79_ok : FnE.OK Tryz.prog (Env.gam e0) 79 y79 := execFnC_ok g184_good hmix Tryz.func79 Tryz.call79 (by decide +kernel) rfl
noncomputable def g185 : Env := g184.add 79 y79
theorem g185_good : g185.Good := Env.Good.add g184_good y79_ok
/-- mandrel/linear.matrices -/
noncomputable def y68 : FnE := execFnC g185 Tryz.f68 7 [(7, [2, 6, 7, 8, 10, 56, 57]), (14, [2, 6, 7, 14, 71, 72, 73])]
theorem y68_ok : FnE.OK Tryz.prog (Env.gam e0) 68 y68 := execFnC_ok g185_good hmix Tryz.func68 Tryz.call68 (by decide +kernel) rfl
noncomputable def g186 : Env := g185.add 68 y68
theorem g186_good : g186.Good := Env.Good.add g185_good y68_ok
/-- slices.Grow[[]int64,int64] -/
noncomputable def y104 : FnE := execFnC g186 Tryz.f104 5 []
theorem y104_ok : FnE.OK Tryz.prog (Env.gam e0) 104 y104 := execFnC_ok g186_good hmix Tryz.func104 Tryz.call104 (by decide +kernel) rfl
noncomputable def g187 : Env := g186.add 104 y104
theorem g187_good : g187.Good := Env.Good.add g186_good y104_ok
/-- slices.Concat[[]int64,int64] -/
noncomputable def y69 : FnE := execFnC g187 Tryz.f69 6 [(3, [0, 3, 9, 10, 11]), (11, [6, 25, 26, 27])]
theorem y69_ok : FnE.OK Tryz.prog (Env.gam e0) 69 y69 := execFnC_ok g187_good hmix Tryz.func69 Tryz.call69 (by decide +kernel) rfl
noncomputable def g188 : Env := g187.add 69 y69
theorem g188_good : g188.Good := Env.Good.add g187_good y69_ok
/-- mandrel/linear.two -/
noncomputable def y73 : FnE := execFnC g188 Tryz.f73 5 []
theorem y73_ok : FnE.OK Tryz.prog (Env.gam e0) 73 y73 := execFnC_ok g188_good hmix Tryz.func73 Tryz.call73 (by decide +kernel) rfl
noncomputable def g189 : Env := g188.add 73 y73
theorem g189_good : g189.Good := Env.Good.add g188_good y73_ok
/-- (mandrel/linear.matrix).row -/
noncomputable def y131 : FnE := execFnC g189 Tryz.f131 4 []
theorem y131_ok : FnE.OK Tryz.prog (Env.gam e0) 131 y131 := execFnC_ok g189_good hmix Tryz.func131 Tryz.call131 (by decide +kernel) rfl
noncomputable def g190 : Env := g189.add 131 y131
theorem g190_good : g190.Good := Env.Good.add g189_good y131_ok
/-- (mandrel/linear.matrix).block -/
noncomputable def y105 : FnE := execFnC g190 Tryz.f105 7 [(2, [3, 4, 5, 6, 7, 10]), (6, [3, 4, 5, 6, 7, 10, 11, 12, 33, 34]), (10, [3, 4, 5, 6, 7, 10, 11, 12, 13, 14, 15, 33, 34])]
theorem y105_ok : FnE.OK Tryz.prog (Env.gam e0) 105 y105 := execFnC_ok g190_good hmix Tryz.func105 Tryz.call105 (by decide +kernel) rfl
noncomputable def g191 : Env := g190.add 105 y105
theorem g191_good : g191.Good := Env.Good.add g190_good y105_ok
/-- mandrel/linear.product -/
noncomputable def y70 : FnE := execFnC g191 Tryz.f70 6 [(3, [2, 3, 5, 6]), (6, [2, 3, 5, 6, 7])]
theorem y70_ok : FnE.OK Tryz.prog (Env.gam e0) 70 y70 := execFnC_ok g191_good hmix Tryz.func70 Tryz.call70 (by decide +kernel) rfl
noncomputable def g192 : Env := g191.add 70 y70
theorem g192_good : g192.Good := Env.Good.add g191_good y70_ok
/-- mandrel/linear.matmul -/
noncomputable def y40 : FnE := execFnC g192 Tryz.f40 6 [(6, [8, 9, 10, 32, 33])]
theorem y40_ok : FnE.OK Tryz.prog (Env.gam e0) 40 y40 := execFnC_ok g192_good hmix Tryz.func40 Tryz.call40 (by decide +kernel) rfl
noncomputable def g193 : Env := g192.add 40 y40
theorem g193_good : g193.Good := Env.Good.add g192_good y40_ok
/-- slices.AppendSeq[[]int,int] -/
noncomputable def y170 : FnE := execFnC g193 Tryz.f170 4 [(2, [0, 1, 2, 8, 9, 10, 11])]
theorem y170_ok : FnE.OK Tryz.prog (Env.gam e0) 170 y170 := execFnC_ok g193_good hmix Tryz.func170 Tryz.call170 (by decide +kernel) rfl
noncomputable def g194 : Env := g193.add 170 y170
theorem g194_good : g194.Good := Env.Good.add g193_good y170_ok
/-- slices.Collect[int] -/
noncomputable def y133 : FnE := execFnC g194 Tryz.f133 3 []
theorem y133_ok : FnE.OK Tryz.prog (Env.gam e0) 133 y133 := execFnC_ok g194_good hmix Tryz.func133 Tryz.call133 (by decide +kernel) rfl
noncomputable def g195 : Env := g194.add 133 y133
theorem g195_good : g195.Good := Env.Good.add g194_good y133_ok
/-- slices.Sorted[int] -/
noncomputable def y108 : FnE := execFnC g195 Tryz.f108 4 []
theorem y108_ok : FnE.OK Tryz.prog (Env.gam e0) 108 y108 := execFnC_ok g195_good hmix Tryz.func108 Tryz.call108 (by decide +kernel) rfl
noncomputable def g196 : Env := g195.add 108 y108
theorem g196_good : g196.Good := Env.Good.add g195_good y108_ok
/-- slices.Values[[]int,int] -/
noncomputable def y109 : FnE := execFnC g196 Tryz.f109 3 []
theorem y109_ok : FnE.OK Tryz.prog (Env.gam e0) 109 y109 := execFnC_ok g196_good hmix Tryz.func109 Tryz.call109 (by decide +kernel) rfl
noncomputable def g197 : Env := g196.add 109 y109
theorem g197_good : g197.Good := Env.Good.add g196_good y109_ok
/-- mandrel/view.own -/
noncomputable def y110 : FnE := execFnC g197 Tryz.f110 4 []
theorem y110_ok : FnE.OK Tryz.prog (Env.gam e0) 110 y110 := execFnC_ok g197_good hmix Tryz.func110 Tryz.call110 (by decide +kernel) rfl
noncomputable def g198 : Env := g197.add 110 y110
theorem g198_good : g198.Good := Env.Good.add g197_good y110_ok
/-- mandrel/view.Transpose -/
noncomputable def y80 : FnE := execFnC g198 Tryz.f80 7 [(4, [1, 2, 4, 17, 18, 19]), (13, [2, 4, 8, 38, 39, 40])]
theorem y80_ok : FnE.OK Tryz.prog (Env.gam e0) 80 y80 := execFnC_ok g198_good hmix Tryz.func80 Tryz.call80 (by decide +kernel) rfl
noncomputable def g199 : Env := g198.add 80 y80
theorem g199_good : g199.Good := Env.Good.add g198_good y80_ok
/-- mandrel/linear.turned -/
noncomputable def y71 : FnE := execFnC g199 Tryz.f71 6 []
theorem y71_ok : FnE.OK Tryz.prog (Env.gam e0) 71 y71 := execFnC_ok g199_good hmix Tryz.func71 Tryz.call71 (by decide +kernel) rfl
noncomputable def g200 : Env := g199.add 71 y71
theorem g200_good : g200.Good := Env.Good.add g199_good y71_ok
/-- mandrel/schema.Bits -/
noncomputable def y72 : FnE := execFnC g200 Tryz.f72 5 []
theorem y72_ok : FnE.OK Tryz.prog (Env.gam e0) 72 y72 := execFnC_ok g200_good hmix Tryz.func72 Tryz.call72 (by decide +kernel) rfl
noncomputable def g201 : Env := g200.add 72 y72
theorem g201_good : g201.Good := Env.Good.add g200_good y72_ok
/-- mandrel/linear.spread -/
noncomputable def y74 : FnE := execFnC g201 Tryz.f74 5 []
theorem y74_ok : FnE.OK Tryz.prog (Env.gam e0) 74 y74 := execFnC_ok g201_good hmix Tryz.func74 Tryz.call74 (by decide +kernel) rfl
noncomputable def g202 : Env := g201.add 74 y74
theorem g202_good : g202.Good := Env.Good.add g201_good y74_ok
/-- mandrel/linear.gemm -/
noncomputable def y41 : FnE := execFnC g202 Tryz.f41 7 [(6, [1, 2, 9, 10, 11, 37, 38]), (12, [9, 11, 58, 59, 60])]
theorem y41_ok : FnE.OK Tryz.prog (Env.gam e0) 41 y41 := execFnC_ok g202_good hmix Tryz.func41 Tryz.call41 (by decide +kernel) rfl
noncomputable def g203 : Env := g202.add 41 y41
theorem g203_good : g203.Good := Env.Good.add g202_good y41_ok
/-- mandrel/linear.Do -/
noncomputable def y23 : FnE := execFnC g203 Tryz.f23 6 []
theorem y23_ok : FnE.OK Tryz.prog (Env.gam e0) 23 y23 := execFnC_ok g203_good hmix Tryz.func23 Tryz.call23 (by decide +kernel) rfl
noncomputable def g204 : Env := g203.add 23 y23
theorem g204_good : g204.Good := Env.Good.add g203_good y23_ok
/-- mandrel/mandrellaw12.live -/
noncomputable def y21 : FnE := execFnC g204 Tryz.f21 5 []
theorem y21_ok : FnE.OK Tryz.prog (Env.gam e0) 21 y21 := execFnC_ok g204_good hmix Tryz.func21 Tryz.call21 (by decide +kernel) rfl
noncomputable def g205 : Env := g204.add 21 y21
theorem g205_good : g205.Good := Env.Good.add g204_good y21_ok
/-- mandrel/mandrelref03.Copy -/
noncomputable def y38 : FnE := execFnC g205 Tryz.f38 3 []
theorem y38_ok : FnE.OK Tryz.prog (Env.gam e0) 38 y38 := execFnC_ok g205_good hmix Tryz.func38 Tryz.call38 (by decide +kernel) rfl
noncomputable def g206 : Env := g205.add 38 y38
theorem g206_good : g206.Good := Env.Good.add g205_good y38_ok
/-- mandrel/mandrelref05.CopyTensor -/
noncomputable def y22 : FnE := execFnC g206 Tryz.f22 5 []
theorem y22_ok : FnE.OK Tryz.prog (Env.gam e0) 22 y22 := execFnC_ok g206_good hmix Tryz.func22 Tryz.call22 (by decide +kernel) rfl
noncomputable def g207 : Env := g206.add 22 y22
theorem g207_good : g207.Good := Env.Good.add g206_good y22_ok
/-- mandrel/mandrellaw12.LinearOne -/
noncomputable def y6 : FnE := execFnC g207 Tryz.f6 7 [(6, [1, 3, 4, 5]), (14, [1, 3, 4, 6, 7])]
theorem y6_ok : FnE.OK Tryz.prog (Env.gam e0) 6 y6 := execFnC_ok g207_good hmix Tryz.func6 Tryz.call6 (by decide +kernel) rfl
noncomputable def g208 : Env := g207.add 6 y6
theorem g208_good : g208.Good := Env.Good.add g207_good y6_ok
/-- mandrel/mandrellaw12.LinearRows -/
noncomputable def y7 : FnE := execFnC g208 Tryz.f7 8 []
theorem y7_ok : FnE.OK Tryz.prog (Env.gam e0) 7 y7 := execFnC_ok g208_good hmix Tryz.func7 Tryz.call7 (by decide +kernel) rfl
noncomputable def g209 : Env := g208.add 7 y7
theorem g209_good : g209.Good := Env.Good.add g208_good y7_ok
/-- mandrel/mandrellaw12.LinearGemm -/
noncomputable def y8 : FnE := execFnC g209 Tryz.f8 6 []
theorem y8_ok : FnE.OK Tryz.prog (Env.gam e0) 8 y8 := execFnC_ok g209_good hmix Tryz.func8 Tryz.call8 (by decide +kernel) rfl
noncomputable def g210 : Env := g209.add 8 y8
theorem g210_good : g210.Good := Env.Good.add g209_good y8_ok
/-- mandrel/mandrellaw12.LinearBatch -/
noncomputable def y9 : FnE := execFnC g210 Tryz.f9 8 []
theorem y9_ok : FnE.OK Tryz.prog (Env.gam e0) 9 y9 := execFnC_ok g210_good hmix Tryz.func9 Tryz.call9 (by decide +kernel) rfl
noncomputable def g211 : Env := g210.add 9 y9
theorem g211_good : g211.Good := Env.Good.add g210_good y9_ok
/-- mandrel/mandrellaw10.small -/
noncomputable def y24 : FnE := execFnC g211 Tryz.f24 5 [(2, [0, 3])]
theorem y24_ok : FnE.OK Tryz.prog (Env.gam e0) 24 y24 := execFnC_ok g211_good hmix Tryz.func24 Tryz.call24 (by decide +kernel) rfl
noncomputable def g212 : Env := g211.add 24 y24
theorem g212_good : g212.Good := Env.Good.add g211_good y24_ok
/-- mandrel/move.begin -/
noncomputable def y42 : FnE := execFnC g212 Tryz.f42 6 [(3, [2, 4, 6, 9, 10, 11])]
theorem y42_ok : FnE.OK Tryz.prog (Env.gam e0) 42 y42 := execFnC_ok g212_good hmix Tryz.func42 Tryz.call42 (by decide +kernel) rfl
noncomputable def g213 : Env := g212.add 42 y42
theorem g213_good : g213.Good := Env.Good.add g212_good y42_ok
/-- mandrel/move.whole -/
noncomputable def y45 : FnE := execFnC g213 Tryz.f45 4 []
theorem y45_ok : FnE.OK Tryz.prog (Env.gam e0) 45 y45 := execFnC_ok g213_good hmix Tryz.func45 Tryz.call45 (by decide +kernel) rfl
noncomputable def g214 : Env := g213.add 45 y45
theorem g214_good : g214.Good := Env.Good.add g213_good y45_ok
/-- mandrel/move.read -/
noncomputable def y46 : FnE := execFnC g214 Tryz.f46 4 []
theorem y46_ok : FnE.OK Tryz.prog (Env.gam e0) 46 y46 := execFnC_ok g214_good hmix Tryz.func46 Tryz.call46 (by decide +kernel) rfl
noncomputable def g215 : Env := g214.add 46 y46
theorem g215_good : g215.Good := Env.Good.add g214_good y46_ok
/-- mandrel/move.transpose -/
noncomputable def y47 : FnE := execFnC g215 Tryz.f47 6 [(3, [2, 3, 5, 14, 15]), (9, [3, 7, 25, 26, 27])]
theorem y47_ok : FnE.OK Tryz.prog (Env.gam e0) 47 y47 := execFnC_ok g215_good hmix Tryz.func47 Tryz.call47 (by decide +kernel) rfl
noncomputable def g216 : Env := g215.add 47 y47
theorem g216_good : g216.Good := Env.Good.add g215_good y47_ok
/-- mandrel/move.axis -/
noncomputable def y81 : FnE := execFnC g216 Tryz.f81 4 []
theorem y81_ok : FnE.OK Tryz.prog (Env.gam e0) 81 y81 := execFnC_ok g216_good hmix Tryz.func81 Tryz.call81 (by decide +kernel) rfl
noncomputable def g217 : Env := g216.add 81 y81
theorem g217_good : g217.Good := Env.Good.add g216_good y81_ok
/-- mandrel/view.Slice -/
noncomputable def y82 : FnE := execFnC g217 Tryz.f82 7 []
theorem y82_ok : FnE.OK Tryz.prog (Env.gam e0) 82 y82 := execFnC_ok g217_good hmix Tryz.func82 Tryz.call82 (by decide +kernel) rfl
noncomputable def g218 : Env := g217.add 82 y82
theorem g218_good : g218.Good := Env.Good.add g217_good y82_ok
/-- mandrel/move.slice -/
noncomputable def y48 : FnE := execFnC g218 Tryz.f48 7 [(4, [2, 3, 4, 7, 8, 19, 20]), (10, [2, 4, 7, 10, 32, 33, 34])]
theorem y48_ok : FnE.OK Tryz.prog (Env.gam e0) 48 y48 := execFnC_ok g218_good hmix Tryz.func48 Tryz.call48 (by decide +kernel) rfl
noncomputable def g219 : Env := g218.add 48 y48
theorem g219_good : g219.Good := Env.Good.add g218_good y48_ok
/-- mandrel/move.blocks -/
noncomputable def y83 : FnE := execFnC g219 Tryz.f83 5 []
theorem y83_ok : FnE.OK Tryz.prog (Env.gam e0) 83 y83 := execFnC_ok g219_good hmix Tryz.func83 Tryz.call83 (by decide +kernel) rfl
noncomputable def g220 : Env := g219.add 83 y83
theorem g220_good : g220.Good := Env.Good.add g219_good y83_ok
/-- mandrel/move.concat -/
noncomputable def y49 : FnE := execFnC g220 Tryz.f49 7 [(6, [7, 8, 9, 10, 11, 32, 33, 34]), (10, [7, 8, 9, 10, 11, 13, 15, 32, 33, 34, 45, 46])]
theorem y49_ok : FnE.OK Tryz.prog (Env.gam e0) 49 y49 := execFnC_ok g220_good hmix Tryz.func49 Tryz.call49 (by decide +kernel) rfl
noncomputable def g221 : Env := g220.add 49 y49
theorem g221_good : g221.Good := Env.Good.add g220_good y49_ok
/-- mandrel/move.gather -/
noncomputable def y50 : FnE := execFnC g221 Tryz.f50 7 [(8, [1, 6, 9, 10, 11, 12, 41, 42]), (11, [1, 6, 9, 10, 11, 12, 13, 41, 42, 48, 49, 50])]
theorem y50_ok : FnE.OK Tryz.prog (Env.gam e0) 50 y50 := execFnC_ok g221_good hmix Tryz.func50 Tryz.call50 (by decide +kernel) rfl
noncomputable def g222 : Env := g221.add 50 y50
theorem g222_good : g222.Good := Env.Good.add g221_good y50_ok
/-- math/bits.Mul32 -/
noncomputable def y136 : FnE := execFnC g222 Tryz.f136 5 []
theorem y136_ok : FnE.OK Tryz.prog (Env.gam e0) 136 y136 := execFnC_ok g222_good hmix Tryz.func136 Tryz.call136 (by decide +kernel) rfl
noncomputable def g223 : Env := g222.add 136 y136
theorem g223_good : g223.Good := Env.Good.add g222_good y136_ok
/-- math/bits.Mul64 -/
noncomputable def y137 : FnE := execFnC g223 Tryz.f137 6 []
theorem y137_ok : FnE.OK Tryz.prog (Env.gam e0) 137 y137 := execFnC_ok g223_good hmix Tryz.func137 Tryz.call137 (by decide +kernel) rfl
noncomputable def g224 : Env := g223.add 137 y137
theorem g224_good : g224.Good := Env.Good.add g223_good y137_ok
/-- math/bits.Mul -/
noncomputable def y111 : FnE := execFnC g224 Tryz.f111 5 []
theorem y111_ok : FnE.OK Tryz.prog (Env.gam e0) 111 y111 := execFnC_ok g224_good hmix Tryz.func111 Tryz.call111 (by decide +kernel) rfl
noncomputable def g225 : Env := g224.add 111 y111
theorem g225_good : g225.Good := Env.Good.add g224_good y111_ok
/-- slices.Repeat[[]int64,int64] -/
noncomputable def y84 : FnE := execFnC g225 Tryz.f84 6 [(8, [7, 8])]
theorem y84_ok : FnE.OK Tryz.prog (Env.gam e0) 84 y84 := execFnC_ok g225_good hmix Tryz.func84 Tryz.call84 (by decide +kernel) rfl
noncomputable def g226 : Env := g225.add 84 y84
theorem g226_good : g226.Good := Env.Good.add g225_good y84_ok
/-- mandrel/move.pad -/
noncomputable def y51 : FnE := execFnC g226 Tryz.f51 7 [(6, [4, 7, 10, 11, 37, 38, 39]), (11, [4, 7, 10, 11, 14, 15, 16, 37, 38, 39, 52, 53])]
theorem y51_ok : FnE.OK Tryz.prog (Env.gam e0) 51 y51 := execFnC_ok g226_good hmix Tryz.func51 Tryz.call51 (by decide +kernel) rfl
noncomputable def g227 : Env := g226.add 51 y51
theorem g227_good : g227.Good := Env.Good.add g226_good y51_ok
/-- mandrel/move.Do -/
noncomputable def y27 : FnE := execFnC g227 Tryz.f27 7 []
theorem y27_ok : FnE.OK Tryz.prog (Env.gam e0) 27 y27 := execFnC_ok g227_good hmix Tryz.func27 Tryz.call27 (by decide +kernel) rfl
noncomputable def g228 : Env := g227.add 27 y27
theorem g228_good : g228.Good := Env.Good.add g227_good y27_ok
/-- mandrel/mandrellaw10.live -/
noncomputable def y25 : FnE := execFnC g228 Tryz.f25 6 []
theorem y25_ok : FnE.OK Tryz.prog (Env.gam e0) 25 y25 := execFnC_ok g228_good hmix Tryz.func25 Tryz.call25 (by decide +kernel) rfl
noncomputable def g229 : Env := g228.add 25 y25
theorem g229_good : g229.Good := Env.Good.add g228_good y25_ok
/-- mandrel/mandrellaw10.ints -/
noncomputable def y26 : FnE := execFnC g229 Tryz.f26 4 []
theorem y26_ok : FnE.OK Tryz.prog (Env.gam e0) 26 y26 := execFnC_ok g229_good hmix Tryz.func26 Tryz.call26 (by decide +kernel) rfl
noncomputable def g230 : Env := g229.add 26 y26
theorem g230_good : g230.Good := Env.Good.add g229_good y26_ok
/-- mandrel/mandrellaw10.MoveBack -/
noncomputable def y10 : FnE := execFnC g230 Tryz.f10 7 [(9, [1, 2, 5, 6, 8, 9])]
theorem y10_ok : FnE.OK Tryz.prog (Env.gam e0) 10 y10 := execFnC_ok g230_good hmix Tryz.func10 Tryz.call10 (by decide +kernel) rfl
noncomputable def g231 : Env := g230.add 10 y10
theorem g231_good : g231.Good := Env.Good.add g230_good y10_ok
/-- mandrel/mandrellaw10.MoveJoined -/
noncomputable def y11 : FnE := execFnC g231 Tryz.f11 7 []
theorem y11_ok : FnE.OK Tryz.prog (Env.gam e0) 11 y11 := execFnC_ok g231_good hmix Tryz.func11 Tryz.call11 (by decide +kernel) rfl
noncomputable def g232 : Env := g231.add 11 y11
theorem g232_good : g232.Good := Env.Good.add g231_good y11_ok
/-- mandrel/mandrellaw10.MoveCut -/
noncomputable def y12 : FnE := execFnC g232 Tryz.f12 7 [(9, [1, 2, 5, 7, 8, 9])]
theorem y12_ok : FnE.OK Tryz.prog (Env.gam e0) 12 y12 := execFnC_ok g232_good hmix Tryz.func12 Tryz.call12 (by decide +kernel) rfl
noncomputable def g233 : Env := g232.add 12 y12
theorem g233_good : g233.Good := Env.Good.add g232_good y12_ok
/-- mandrel/mandrellaw10.MoveAll -/
noncomputable def y13 : FnE := execFnC g233 Tryz.f13 7 [(11, [1, 2, 6, 7, 8])]
theorem y13_ok : FnE.OK Tryz.prog (Env.gam e0) 13 y13 := execFnC_ok g233_good hmix Tryz.func13 Tryz.call13 (by decide +kernel) rfl
noncomputable def g234 : Env := g233.add 13 y13
theorem g234_good : g234.Good := Env.Good.add g233_good y13_ok
/-- mandrel/mandrellaw12.LinearTurned -/
noncomputable def y14 : FnE := execFnC g234 Tryz.f14 7 []
theorem y14_ok : FnE.OK Tryz.prog (Env.gam e0) 14 y14 := execFnC_ok g234_good hmix Tryz.func14 Tryz.call14 (by decide +kernel) rfl
noncomputable def g235 : Env := g234.add 14 y14
theorem g235_good : g235.Good := Env.Good.add g234_good y14_ok
end Go.Proofs.XGT
