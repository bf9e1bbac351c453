/- The law ConvProduct of mandrellaw13: for every input the call returns true. Conditions: those of the rows, none else. -/
import Derived.Test.YtckoidchbbfkkaaGreatDoorS41
import Derived.ProofKit
import Derived.Test.YtckoidchbbfkkaaGreatDoorCards
import Derived.Test.YtckoidchbbfkkaaGreatDoorTie
namespace Go.Proofs.YtckoidchbbfkkaaGreatDoor
open Go.ChangeShapes Go.WideShapes Go.ChangeAt Go.RowKit Go.Vm
set_option maxRecDepth 100000
set_option maxHeartbeats 4000000

theorem ownNone : ownKnob Tryz.prog.godebug = none := by kernel_rfl
theorem gOnes : Tryz.prog.globalNamed "mandrel/schema.ones" = some 0 := by kernel_rfl
theorem gOnesT : (Tryz.prog.globals[0]?).map (·.type) = some 189 := by kernel_rfl
theorem cOnes : Tryz.prog.cellsOf 189 = 10 := by kernel_rfl
theorem cStr : Tryz.prog.cellsOf 9 = 1 := by kernel_rfl
theorem laidOut : laidOutB Tryz.prog = true := by kernel_rfl

theorem okWide_agg {P : Program} {w : World} {r : Reach} {base : Nat} {t : TypeId} {fs : Array Field} {v : Value} (h : P.underlying t = some (.struct fs)) (hv : Value.okWide P w r base t v) : vIsAgg v = true := by
  unfold Value.okWide at hv
  rw [h] at hv
  obtain ⟨cs, rfl, _⟩ := hv
  rfl

theorem globs {W : World} (h : laidMetH Tryz.prog Rows.convProductRow.laid W) : GlobOK (Env.gam XPT.e0) W (fun b => b < W.heap.size) := by
  obtain ⟨ps, hv, _⟩ := (show laidMet Tryz.prog Rows.convProductRow.laid W from h)
  obtain ⟨q, hv⟩ := laidVars_tail hv
  have hs : (Rows.laid_mandrel_schema_ones : DataW Unit) = strData XPT.ones := by kernel_rfl
  rw [hs] at hv
  obtain ⟨hlt, hrep⟩ := glob_strs gOnes gOnesT Tryz.underlying189 Tryz.underlying9 cStr cOnes (by decide) hv
  intro g v hg
  have hg' : lk [(0, AV.ip (.arr 10 .str) XPT.ones)] g = some v := hg
  simp only [lk] at hg'
  cases hb : Nat.beq 0 g with
  | false => rw [hb] at hg'; cases hg'
  | true =>
    rw [hb] at hg'
    cases hg'
    obtain rfl := Nat.eq_of_beq_eq_true hb
    exact hrep _ hlt
theorem contract3 (H : Type) (enc : TypeId × Value → H) (W : World) (base : Nat) (args : Array Value) (ds gs : List (DataW H)) (before : List MemPlace)
    (hval : ∀ (j : Nat) t v, Tryz.f3.params[j]? = some t → args[j]? = some v → Value.okWide Tryz.prog W .any base t v)
    (hW : DataW.Whole enc Tryz.prog Tryz.f3.params.toList Rows.convProductSpec.vars false W args.toList ds gs before) (hL : laidMetH Tryz.prog Rows.convProductRow.laid W) :
    Calls Tryz.prog 3 args W fun e W' => ∃ v, e = .returned v ∧ Rows.convProductSpec.post enc Tryz.prog Tryz.f3 false true false false W args v W' := by
  have hW' := hW
  have hlt := hW.lt
  obtain ⟨p, q, hA0, hV, rfl, hfz, hnd⟩ := hW
  have hA : DataW.TrodAll enc Tryz.prog W 0 (fun _ => true) true Tryz.f3.params.toList args.toList ds p := hA0
  rw [Tryz.params3] at hA hval
  obtain ⟨v0, vs0, d0, ds0, p0, q0, hargs, rfl, rfl, h0, r0⟩ := trodAll_cons hA
  obtain ⟨v1, vs1, d1, ds1, p1, q1, hargs1, rfl, rfl, h1, r1⟩ := trodAll_cons r0
  obtain ⟨rfl, rfl, rfl⟩ := trodAll_nil r1
  subst hargs1
  obtain rfl : args = #[v0, v1] := by cases args; simp_all
  obtain ⟨rfl, rfl⟩ := trodVars_none hV
  have hag0 : vIsAgg v0 = Ty.isAgg XPT.Y0 := okWide_agg Tryz.underlying25 (hval 0 25 v0 rfl rfl)
  obtain ⟨⟨t0, xd0, dt0, ⟨⟩⟩, _, hw0, hv0⟩ := open_arg (τ := XPT.Y0) (by kernel_rfl) hag0 h0
  have hag1 : vIsAgg v1 = Ty.isAgg XPT.Y0 := okWide_agg Tryz.underlying25 (hval 1 25 v1 rfl rfl)
  obtain ⟨⟨t1, xd1, dt1, ⟨⟩⟩, _, hw1, hv1⟩ := open_arg (τ := XPT.Y0) (by kernel_rfl) hag1 h1
  clear hA0
  have walk : Calls Tryz.prog 3 #[v0, v1] W fun e w' => e = .returned (.bool true) ∧ Kept W w' :=
    calls_true ((XPT.cpr_call t0 xd0 dt0 hw0.2.1.1 hw0.2.2.1.1 t1 xd1 dt1 hw1.2.1.1 hw1.2.2.1.1).mono fun _ _ h => h.1) (fun _ h => h) (globs hL) (vals := [v0, v1]) ⟨v0, _, rfl, hv0.1, hv0.2, ⟨v1, _, rfl, hv1.1, hv1.2, rfl⟩⟩
  refine walk.mono fun e W' ⟨he, hk⟩ => ?_
  subst he
  exact ⟨_, rfl, post_kept laidOut (fun t ht => by
      rw [Tryz.params3] at ht
      obtain rfl : t = 25 := by simpa using ht
      exact ⟨by kernel_rfl, by decide +kernel⟩)
    hW' hlt rfl (fun _ _ _ => trodAll_cons_mk (shut_bool Tryz.underlying4 _) trodAll_mk0) rfl rfl hk (ok_one (by kernel_rfl) rfl (okWide_bool_mk Tryz.underlying4 _))⟩

noncomputable def laidWorld (os : Os) : World := layAll Tryz.prog (World.holding Tryz.prog os ⟨#[], #[], []⟩) Rows.convProductRow.laid
def zeroArgs : Array Value := #[.agg #[.int .i64 0, .slice none 0 0, .slice none 0 0], .agg #[.int .i64 0, .slice none 0 0, .slice none 0 0]]
theorem laid_met (os : Os) : laidMet Tryz.prog Rows.convProductRow.laid ((laidWorld os).forCall (fun _ _ => 0) ⟨#[], zeroArgs, []⟩).memory :=
  laidMet_of_run' 8 (by kernel_rfl) (by kernel_rfl)
theorem reads (os : Os) {H : Type} (enc : TypeId × Value → H) : ∃ places, DataW.whole enc Tryz.prog ((laidWorld os).forCall (fun _ _ => 0) ⟨#[], zeroArgs, []⟩).memory Tryz.f3.params.toList Rows.convProductSpec.vars false zeroArgs.toList 8 = some ([.agg [.lit (.int .i64 0), .nil, .nil], .agg [.lit (.int .i64 0), .nil, .nil]], [], places) :=
  ⟨[], by kernel_rfl⟩

theorem lifted3 (os : Os) (started : os.Started) (H : Type) (enc : TypeId × Value → H) (F : Stop.Interp) :
    ReturnsInHanded {} Tryz.checked os 3 .any ((OpenSpec.ofChange Rows.convProductSpec).preRow enc Tryz.prog Tryz.f3 Rows.convProductRow.domain false Rows.convProductRow.laid) (((OpenSpec.ofChange Rows.convProductSpec).at F).post enc Tryz.prog Tryz.f3 false true false false) := by
  obtain ⟨places, hx⟩ := reads os enc
  refine returnsInHanded_of_row (C := Tryz.checked) (s := OpenSpec.ofChange Rows.convProductSpec) ownNone started (by kernel_rfl) Tryz.func3
    (witness_row_at (enc := enc) (C := Tryz.checked) false (laidWorld os) zeroArgs rfl (by kernel_rfl) (by kernel_rfl) (by kernel_rfl)
      (OpenSpec.preRow_of_cond 8 hx (by kernel_rfl) (fun k hk => by cases hk) (by kernel_rfl) (laid_met os))) ?_
  intro W base args ds gs before hval hW _ hcond _ hL _ _
  exact contract3 H enc W base args ds gs before hval hW hL

theorem said3 : Rows.ConvProductSaid :=
  OpenClaim.holds_of_cond 3 Tryz.f3 rfl rfl rfl rfl rfl rfl rfl ⟨rfl, rfl, rfl, rfl, rfl⟩ rfl rfl rfl rfl rfl (by kernel_rfl) Tryz.func3 (by kernel_rfl)
    (of_decide_eq_true (by kernel_rfl)) (by unfold Func.isWrapper; first | (rw [if_pos (by decide +kernel)]; kernel_rfl) | (rw [if_neg (by decide +kernel)]; exact ⟨rfl, rfl⟩))
    (fun os started H enc _ F => by rw [OpenClaim.pre_eq_preRow]; exact lifted3 os started H enc F)

theorem plain3 (f : FuncId) (fn : Func) (hf : Tryz.pinned.checked.prog.funcNamed "mandrel/mandrellaw13.ConvProduct" = some f) (hfn : Tryz.pinned.checked.prog.funcs[f]? = some fn) :
    true = Tryz.pinned.checked.prog.looks [] ∧ ∀ (j : Nat) t, fn.params[j]? = some t → Tryz.pinned.checked.prog.wantsStandIn t = false := by
  obtain rfl : f = 3 := Option.some.inj ((show Tryz.prog.funcNamed "mandrel/mandrellaw13.ConvProduct" = some 3 by kernel_rfl).symm.trans hf) |>.symm
  obtain rfl : fn = Tryz.f3 := (Option.some.inj (Tryz.func3.symm.trans hfn)).symm
  refine ⟨by kernel_rfl, fun j t ht => ?_⟩
  rw [Tryz.params3] at ht
  have ht' : t = 25 := by simpa using Array.mem_of_getElem? ht
  rcases ht' with rfl
  exact (show Tryz.prog.wantsStandIn 25 = false by kernel_rfl)

theorem convProduct_holds : Rows.ConvProductCardSaid :=
  Claim7.holds_tied_plain_at .later [] _ _ _ _ said3 (fun _ h => by cases h) (by kernel_rfl) (fun _ h => by cases h) convProduct_row_tie rfl ⟨rfl, rfl⟩ (by kernel_rfl) rfl plain3 (by kernel_rfl)
end Go.Proofs.YtckoidchbbfkkaaGreatDoor
