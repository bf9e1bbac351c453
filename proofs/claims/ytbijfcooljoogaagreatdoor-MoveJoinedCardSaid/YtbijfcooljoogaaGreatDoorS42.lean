/- The law MoveJoined of mandrellaw10: for every input the call returns true. Conditions: those of the rows, none else. -/
import Derived.Test.YtbijfcooljoogaaGreatDoorS41
import Derived.ProofKit
import Derived.Test.YtbijfcooljoogaaGreatDoorCards
import Derived.Test.YtbijfcooljoogaaGreatDoorTie
namespace Go.Proofs.YtbijfcooljoogaaGreatDoor
open Go.ChangeShapes Go.WideShapes Go.ChangeAt Go.RowKit Go.Vm
set_option maxRecDepth 100000
set_option maxHeartbeats 4000000

theorem ownNone : ownKnob Tryz.prog.godebug = none := by kernel_rfl
theorem gOnes : Tryz.prog.globalNamed "mandrel/schema.ones" = some 1 := by kernel_rfl
theorem gOnesT : (Tryz.prog.globals[1]?).map (·.type) = some 196 := by kernel_rfl
theorem cOnes : Tryz.prog.cellsOf 196 = 10 := by kernel_rfl
theorem cStr : Tryz.prog.cellsOf 9 = 1 := by kernel_rfl
theorem laidOut : laidOutB Tryz.prog = true := by kernel_rfl

theorem okWide_agg {P : Program} {w : World} {r : Reach} {base : Nat} {t : TypeId} {fs : Array Field} {v : Value} (h : P.underlying t = some (.struct fs)) (hv : Value.okWide P w r base t v) : vIsAgg v = true := by
  unfold Value.okWide at hv
  rw [h] at hv
  obtain ⟨cs, rfl, _⟩ := hv
  rfl

theorem globs {W : World} (h : laidMetH Tryz.prog Rows.moveJoinedRow.laid W) : GlobOK (Env.gam XGT.e0) W (fun b => b < W.heap.size) := by
  obtain ⟨ps, hv, _⟩ := (show laidMet Tryz.prog Rows.moveJoinedRow.laid W from h)
  obtain ⟨q, hv⟩ := laidVars_tail hv
  have hs : (Rows.laid_mandrel_schema_ones : DataW Unit) = strData XGT.ones := by kernel_rfl
  rw [hs] at hv
  obtain ⟨hlt, hrep⟩ := glob_strs gOnes gOnesT Tryz.underlying196 Tryz.underlying9 cStr cOnes (by decide) hv
  intro g v hg
  have hg' : lk [(1, AV.ip (.arr 10 .str) XGT.ones)] g = some v := hg
  simp only [lk] at hg'
  cases hb : Nat.beq 1 g with
  | false => rw [hb] at hg'; cases hg'
  | true =>
    rw [hb] at hg'
    cases hg'
    obtain rfl := Nat.eq_of_beq_eq_true hb
    exact hrep _ hlt
theorem contract11 (H : Type) (enc : TypeId × Value → H) (W : World) (base : Nat) (args : Array Value) (ds gs : List (DataW H)) (before : List MemPlace)
    (hval : ∀ (j : Nat) t v, Tryz.f11.params[j]? = some t → args[j]? = some v → Value.okWide Tryz.prog W .any base t v)
    (hW : DataW.Whole enc Tryz.prog Tryz.f11.params.toList Rows.moveJoinedSpec.vars false W args.toList ds gs before) (hL : laidMetH Tryz.prog Rows.moveJoinedRow.laid W) :
    Calls Tryz.prog 11 args W fun e W' => ∃ v, e = .returned v ∧ Rows.moveJoinedSpec.post enc Tryz.prog Tryz.f11 false true false false W args v W' := by
  have hW' := hW
  have hlt := hW.lt
  obtain ⟨p, q, hA0, hV, rfl, hfz, hnd⟩ := hW
  have hA : DataW.TrodAll enc Tryz.prog W 0 (fun _ => true) true Tryz.f11.params.toList args.toList ds p := hA0
  rw [Tryz.params11] at hA hval
  obtain ⟨v0, vs0, d0, ds0, p0, q0, hargs, rfl, rfl, h0, r0⟩ := trodAll_cons hA
  obtain ⟨v1, vs1, d1, ds1, p1, q1, hargs1, rfl, rfl, h1, r1⟩ := trodAll_cons r0
  obtain ⟨v2, vs2, d2, ds2, p2, q2, hargs2, rfl, rfl, h2, r2⟩ := trodAll_cons r1
  obtain ⟨rfl, rfl, rfl⟩ := trodAll_nil r2
  subst hargs2 hargs1
  obtain rfl : args = #[v0, v1, v2] := by cases args; simp_all
  obtain ⟨rfl, rfl⟩ := trodVars_none hV
  have hag0 : vIsAgg v0 = Ty.isAgg XGT.Y0 := okWide_agg Tryz.underlying25 (hval 0 25 v0 rfl rfl)
  obtain ⟨⟨t0, xd0, dt0, ⟨⟩⟩, _, hw0, hv0⟩ := open_arg (τ := XGT.Y0) (by kernel_rfl) hag0 h0
  obtain ⟨a1, rfl, rfl, rfl, w1⟩ := open_int Tryz.underlying2 (hval 1 2 v1 rfl rfl) h1
  obtain ⟨a2, rfl, rfl, rfl, w2⟩ := open_int Tryz.underlying2 (hval 2 2 v2 rfl rfl) h2
  clear hA0
  have walk : Calls Tryz.prog 11 #[v0, .int .i64 a1, .int .i64 a2] W fun e w' => e = .returned (.bool true) ∧ Kept W w' :=
    calls_true ((XGT.mjo_call t0 xd0 dt0 hw0.2.1.1 hw0.2.2.1.1 a1 a2).mono fun _ _ h => h.1) (fun _ h => h) (globs hL) (vals := [v0, .int .i64 a1, .int .i64 a2]) ⟨v0, _, rfl, hv0.1, hv0.2, ⟨_, _, rfl, rfl, rfl, ⟨_, _, rfl, rfl, rfl, rfl⟩⟩⟩
  refine walk.mono fun e W' ⟨he, hk⟩ => ?_
  subst he
  exact ⟨_, rfl, post_kept laidOut (fun t ht => by
      rw [Tryz.params11] at ht
      have ht' : t = 25 ∨ t = 2 := by simpa using ht
      rcases ht' with rfl | rfl <;> exact ⟨by kernel_rfl, by decide +kernel⟩)
    hW' hlt rfl (fun _ _ _ => trodAll_cons_mk (shut_bool Tryz.underlying4 _) trodAll_mk0) rfl rfl hk (ok_one (by kernel_rfl) rfl (okWide_bool_mk Tryz.underlying4 _))⟩

noncomputable def laidWorld (os : Os) : World := layAll Tryz.prog (World.holding Tryz.prog os ⟨#[], #[], []⟩) Rows.moveJoinedRow.laid
def zeroArgs : Array Value := #[.agg #[.int .i64 0, .slice none 0 0, .slice none 0 0], .int .i64 0, .int .i64 0]
theorem laid_met (os : Os) : laidMet Tryz.prog Rows.moveJoinedRow.laid ((laidWorld os).forCall (fun _ _ => 0) ⟨#[], zeroArgs, []⟩).memory :=
  laidMet_of_run' 8 (by kernel_rfl) (by kernel_rfl)
theorem reads (os : Os) {H : Type} (enc : TypeId × Value → H) : ∃ places, DataW.whole enc Tryz.prog ((laidWorld os).forCall (fun _ _ => 0) ⟨#[], zeroArgs, []⟩).memory Tryz.f11.params.toList Rows.moveJoinedSpec.vars false zeroArgs.toList 8 = some ([.agg [.lit (.int .i64 0), .nil, .nil], .lit (.int .i64 0), .lit (.int .i64 0)], [], places) :=
  ⟨[], by kernel_rfl⟩

theorem lifted11 (os : Os) (started : os.Started) (H : Type) (enc : TypeId × Value → H) (F : Stop.Interp) :
    ReturnsInHanded {} Tryz.checked os 11 .any ((OpenSpec.ofChange Rows.moveJoinedSpec).preRow enc Tryz.prog Tryz.f11 Rows.moveJoinedRow.domain false Rows.moveJoinedRow.laid) (((OpenSpec.ofChange Rows.moveJoinedSpec).at F).post enc Tryz.prog Tryz.f11 false true false false) := by
  obtain ⟨places, hx⟩ := reads os enc
  refine returnsInHanded_of_row (C := Tryz.checked) (s := OpenSpec.ofChange Rows.moveJoinedSpec) ownNone started (by kernel_rfl) Tryz.func11
    (witness_row_at (enc := enc) (C := Tryz.checked) false (laidWorld os) zeroArgs rfl (by kernel_rfl) (by kernel_rfl) (by kernel_rfl)
      (OpenSpec.preRow_of_cond 8 hx (by kernel_rfl) (fun k hk => by cases hk) (by kernel_rfl) (laid_met os))) ?_
  intro W base args ds gs before hval hW _ hcond _ hL _ _
  exact contract11 H enc W base args ds gs before hval hW hL

theorem said11 : Rows.MoveJoinedSaid :=
  OpenClaim.holds_of_cond 11 Tryz.f11 rfl rfl rfl rfl rfl rfl rfl ⟨rfl, rfl, rfl, rfl, rfl⟩ rfl rfl rfl rfl rfl (by kernel_rfl) Tryz.func11 (by kernel_rfl)
    (of_decide_eq_true (by kernel_rfl)) (by unfold Func.isWrapper; first | (rw [if_pos (by decide +kernel)]; kernel_rfl) | (rw [if_neg (by decide +kernel)]; exact ⟨rfl, rfl⟩))
    (fun os started H enc _ F => by rw [OpenClaim.pre_eq_preRow]; exact lifted11 os started H enc F)

theorem plain11 (f : FuncId) (fn : Func) (hf : Tryz.pinned.checked.prog.funcNamed "mandrel/mandrellaw10.MoveJoined" = some f) (hfn : Tryz.pinned.checked.prog.funcs[f]? = some fn) :
    true = Tryz.pinned.checked.prog.looks [] ∧ ∀ (j : Nat) t, fn.params[j]? = some t → Tryz.pinned.checked.prog.wantsStandIn t = false := by
  obtain rfl : f = 11 := Option.some.inj ((show Tryz.prog.funcNamed "mandrel/mandrellaw10.MoveJoined" = some 11 by kernel_rfl).symm.trans hf) |>.symm
  obtain rfl : fn = Tryz.f11 := (Option.some.inj (Tryz.func11.symm.trans hfn)).symm
  refine ⟨by kernel_rfl, fun j t ht => ?_⟩
  rw [Tryz.params11] at ht
  have ht' : t = 25 ∨ t = 2 := by simpa using Array.mem_of_getElem? ht
  rcases ht' with rfl | rfl
  · exact (show Tryz.prog.wantsStandIn 25 = false by kernel_rfl)
  · exact (show Tryz.prog.wantsStandIn 2 = false by kernel_rfl)

theorem moveJoined_holds : Rows.MoveJoinedCardSaid :=
  Claim7.holds_tied_plain_at .later [] _ _ _ _ said11 (fun _ h => by cases h) (by kernel_rfl) (fun _ h => by cases h) moveJoined_row_tie rfl ⟨rfl, rfl⟩ (by kernel_rfl) rfl plain11 (by kernel_rfl)
end Go.Proofs.YtbijfcooljoogaaGreatDoor
