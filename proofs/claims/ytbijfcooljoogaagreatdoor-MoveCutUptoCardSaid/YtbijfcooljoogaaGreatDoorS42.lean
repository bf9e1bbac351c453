/- The law MoveCut of mandrellaw10: for every input of bulk at most 1,048,576 the call returns true. Conditions: those of the rows, none else. -/
import Derived.Test.YtbijfcooljoogaaGreatDoorS41
import Derived.ProofKit
import Derived.Test.YtbijfcooljoogaaGreatDoorCards
import Derived.Test.YtbijfcooljoogaaGreatDoorTie
namespace Go.Proofs.YtbijfcooljoogaaGreatDoor
open Go.ChangeShapes Go.WideShapes Go.ChangeAt Go.RowKit Go.Vm
set_option maxRecDepth 100000
set_option maxHeartbeats 4000000

theorem ownNone : ownKnob Tryz.prog.godebug = none := by kernel_rfl
theorem gOnes : Tryz.prog.globalNamed "mandrel/schema.ones" = some 1 := by kernel_rfl
theorem gOnesT : (Tryz.prog.globals[1]?).map (·.type) = some 196 := by kernel_rfl
theorem cOnes : Tryz.prog.cellsOf 196 = 10 := by kernel_rfl
theorem cStr : Tryz.prog.cellsOf 9 = 1 := by kernel_rfl
theorem laidOut : laidOutB Tryz.prog = true := by kernel_rfl

theorem okWide_agg {P : Program} {w : World} {r : Reach} {base : Nat} {t : TypeId} {fs : Array Field} {v : Value} (h : P.underlying t = some (.struct fs)) (hv : Value.okWide P w r base t v) : vIsAgg v = true := by
  unfold Value.okWide at hv
  rw [h] at hv
  obtain ⟨cs, rfl, _⟩ := hv
  rfl

theorem globs {W : World} (h : laidMetH Tryz.prog Rows.moveCutRow.laid W) : GlobOK (Env.gam XGT.e0) W (fun b => b < W.heap.size) := by
  obtain ⟨ps, hv, _⟩ := (show laidMet Tryz.prog Rows.moveCutRow.laid W from h)
  obtain ⟨q, hv⟩ := laidVars_tail hv
  have hs : (Rows.laid_mandrel_schema_ones : DataW Unit) = strData XGT.ones := by kernel_rfl
  rw [hs] at hv
  obtain ⟨hlt, hrep⟩ := glob_strs gOnes gOnesT Tryz.underlying196 Tryz.underlying9 cStr cOnes (by decide) hv
  intro g v hg
  have hg' : lk [(1, AV.ip (.arr 10 .str) XGT.ones)] g = some v := hg
  simp only [lk] at hg'
  cases hb : Nat.beq 1 g with
  | false => rw [hb] at hg'; cases hg'
  | true =>
    rw [hb] at hg'
    cases hg'
    obtain rfl := Nat.eq_of_beq_eq_true hb
    exact hrep _ hlt
theorem okWide_slice {P : Program} {w : World} {r : Reach} {base : Nat} {t e : TypeId} {v : Value} (h : P.underlying t = some (.slice e)) (hv : Value.okWide P w r base t v) : vIsAgg v = false := by
  unfold Value.okWide at hv
  rw [h] at hv
  cases v with
  | agg _ => exact absurd hv (by simp [Cell.okWide, Cell.ok, h])
  | _ => rfl
theorem bulk_one {H : Type} (d : DataW H) : 1 ≤ Rows.uptoBulk d := by
  cases d with
  | lit l => cases l <;> simp [Rows.uptoBulk]
  | nil => simp [Rows.uptoBulk]
  | ptr d => simp [Rows.uptoBulk]
  | slice elems spare => simp [Rows.uptoBulk]
  | agg parts => simp [Rows.uptoBulk]
  | iface t d => simp [Rows.uptoBulk]
  | map entries => simp [Rows.uptoBulk]
  | held h => simp [Rows.uptoBulk]
theorem bulk_part {H : Type} {d : DataW H} {l : List (DataW H)} (h : d ∈ l) : Rows.uptoBulk d ≤ Rows.uptoBulkAll l := by
  induction l with
  | nil => cases h
  | cons x r ih =>
    simp only [Rows.uptoBulkAll]
    cases List.mem_cons.1 h with
    | inl e => subst e; omega
    | inr e => have := ih e; omega
theorem bulk_len {H : Type} (l : List (DataW H)) : l.length ≤ Rows.uptoBulkAll l := by
  induction l with
  | nil => simp [Rows.uptoBulkAll]
  | cons x r ih => have := bulk_one x; simp only [Rows.uptoBulkAll, List.length_cons]; omega
theorem bulk_list {H : Type} {enc : TypeId × Value → H} {P : Program} {w : World} {sp : Nat → Bool} {held : Bool} {t e : TypeId} {v : Value} {d : DataW H} {p : List MemPlace} (hu : P.underlying t = some (.slice e)) (h : DataW.Trod enc P w 0 sp held t v d p) {im : Nat → Prop} {y : List Int} (hr : RepD w im (.slice (.int .i64)) v.cells.toList y) : y.length ≤ Rows.uptoBulk d := by
  obtain ⟨fuel, h⟩ := h
  obtain ⟨a, cap, hc, _⟩ := hr
  rcases DataW.trod_slice hu h with ⟨h1, h2⟩ | ⟨a', len, cap', elems, rest, n, _, h1, h2, _, _, _, hel, _⟩
  · rw [hc] at h1
    injection h1 with h1 _
    injection h1 with _ h1 _
    omega
  · rw [hc] at h1
    injection h1 with h1 _
    injection h1 with _ h1 _
    have hd : d = .slice (elems.map (·.1)) (rest.map (·.1)) := congrArg Prod.fst h2
    subst hd
    have := bulk_len (elems.map (·.1))
    rw [List.length_map] at this
    simp only [Rows.uptoBulk]
    omega
theorem bulk_all {H : Type} {l : List (DataW H)} (hk : Rows.uptoSmall H l = true) : Rows.uptoBulkAll l ≤ 1048576 := of_decide_eq_true hk
theorem contract12 (H : Type) (enc : TypeId × Value → H) (W : World) (base : Nat) (args : Array Value) (ds gs : List (DataW H)) (before : List MemPlace)
    (hval : ∀ (j : Nat) t v, Tryz.f12.params[j]? = some t → args[j]? = some v → Value.okWide Tryz.prog W .any base t v)
    (hW : DataW.Whole enc Tryz.prog Tryz.f12.params.toList Rows.moveCutSpec.vars false W args.toList ds gs before) (hL : laidMetH Tryz.prog Rows.moveCutRow.laid W) (hk : Rows.uptoSmall H (ds ++ gs) = true) :
    Calls Tryz.prog 12 args W fun e W' => ∃ v, e = .returned v ∧ Rows.moveCutSpec.post enc Tryz.prog Tryz.f12 false true false false W args v W' := by
  have hW' := hW
  have hlt := hW.lt
  obtain ⟨p, q, hA0, hV, rfl, hfz, hnd⟩ := hW
  have hA : DataW.TrodAll enc Tryz.prog W 0 (fun _ => true) true Tryz.f12.params.toList args.toList ds p := hA0
  rw [Tryz.params12] at hA hval
  obtain ⟨v0, vs0, d0, ds0, p0, q0, hargs, rfl, rfl, h0, r0⟩ := trodAll_cons hA
  obtain ⟨v1, vs1, d1, ds1, p1, q1, hargs1, rfl, rfl, h1, r1⟩ := trodAll_cons r0
  obtain ⟨rfl, rfl, rfl⟩ := trodAll_nil r1
  subst hargs1
  obtain rfl : args = #[v0, v1] := by cases args; simp_all
  obtain ⟨rfl, rfl⟩ := trodVars_none hV
  have hag0 : vIsAgg v0 = Ty.isAgg XGT.Y0 := okWide_agg Tryz.underlying25 (hval 0 25 v0 rfl rfl)
  obtain ⟨⟨t0, xd0, dt0, ⟨⟩⟩, _, hw0, hv0⟩ := open_arg (τ := XGT.Y0) (by kernel_rfl) hag0 h0
  have hag1 : vIsAgg v1 = Ty.isAgg (.slice (.int .i64)) := okWide_slice Tryz.underlying23 (hval 1 23 v1 rfl rfl)
  obtain ⟨l1, hr1, hw1, hv1⟩ := open_arg (τ := .slice (.int .i64)) (by kernel_rfl) hag1 h1
  have hn1 : l1.length ≤ 2147483648 := Nat.le_trans (Nat.le_trans (bulk_list Tryz.underlying23 h1 hr1) (bulk_part (by simp))) (Nat.le_trans (bulk_all hk) (by decide))
  clear hA0
  have walk : Calls Tryz.prog 12 #[v0, v1] W fun e w' => e = .returned (.bool true) ∧ Kept W w' :=
    calls_true ((XGT.muo_call t0 xd0 dt0 hw0.2.1.1 hw0.2.2.1.1 l1 hn1).mono fun _ _ h => h.1) (fun _ h => h) (globs hL) (vals := [v0, v1]) ⟨v0, _, rfl, hv0.1, hv0.2, ⟨v1, _, rfl, hv1.1, hv1.2, rfl⟩⟩
  refine walk.mono fun e W' ⟨he, hk⟩ => ?_
  subst he
  exact ⟨_, rfl, post_kept laidOut (fun t ht => by
      rw [Tryz.params12] at ht
      have ht' : t = 25 ∨ t = 23 := by simpa using ht
      rcases ht' with rfl | rfl <;> exact ⟨by kernel_rfl, by decide +kernel⟩)
    hW' hlt rfl (fun _ _ _ => trodAll_cons_mk (shut_bool Tryz.underlying4 _) trodAll_mk0) rfl rfl hk (ok_one (by kernel_rfl) rfl (okWide_bool_mk Tryz.underlying4 _))⟩

noncomputable def laidWorld (os : Os) : World := layAll Tryz.prog (World.holding Tryz.prog os ⟨#[], #[], []⟩) Rows.moveCutRow.laid
def zeroArgs : Array Value := #[.agg #[.int .i64 0, .slice none 0 0, .slice none 0 0], .slice none 0 0]
theorem laid_met (os : Os) : laidMet Tryz.prog Rows.moveCutRow.laid ((laidWorld os).forCall (fun _ _ => 0) ⟨#[], zeroArgs, []⟩).memory :=
  laidMet_of_run' 8 (by kernel_rfl) (by kernel_rfl)
theorem reads (os : Os) {H : Type} (enc : TypeId × Value → H) : ∃ places, DataW.whole enc Tryz.prog ((laidWorld os).forCall (fun _ _ => 0) ⟨#[], zeroArgs, []⟩).memory Tryz.f12.params.toList Rows.moveCutSpec.vars false zeroArgs.toList 8 = some ([.agg [.lit (.int .i64 0), .nil, .nil], .nil], [], places) :=
  ⟨[], by kernel_rfl⟩

theorem lifted12 (os : Os) (started : os.Started) (H : Type) (enc : TypeId × Value → H) (F : Stop.Interp) :
    ReturnsInHanded {} Tryz.checked os 12 .any ((Rows.OpenSpec.upto Rows.moveCutSpec).preRow enc Tryz.prog Tryz.f12 Rows.moveCutUptoRow.domain false Rows.moveCutUptoRow.laid) (((Rows.OpenSpec.upto Rows.moveCutSpec).at F).post enc Tryz.prog Tryz.f12 false true false false) := by
  obtain ⟨places, hx⟩ := reads os enc
  refine returnsInHanded_of_row (C := Tryz.checked) (s := Rows.OpenSpec.upto Rows.moveCutSpec) ownNone started (by kernel_rfl) Tryz.func12
    (witness_row_at (enc := enc) (C := Tryz.checked) false (laidWorld os) zeroArgs rfl (by kernel_rfl) (by kernel_rfl) (by kernel_rfl)
      (OpenSpec.preRow_of_cond 8 hx (by kernel_rfl) (fun k hk => by cases hk; kernel_rfl) (by kernel_rfl) (laid_met os))) ?_
  intro W base args ds gs before hval hW _ hcond _ hL _ _
  exact contract12 H enc W base args ds gs before hval hW hL (hcond _ rfl)

theorem said12 : Rows.MoveCutUptoSaid :=
  OpenClaim.holds_of_cond 12 Tryz.f12 rfl rfl rfl rfl rfl rfl rfl ⟨rfl, rfl, rfl, rfl, rfl⟩ rfl rfl rfl rfl rfl (by kernel_rfl) Tryz.func12 (by kernel_rfl)
    (of_decide_eq_true (by kernel_rfl)) (by unfold Func.isWrapper; first | (rw [if_pos (by decide +kernel)]; kernel_rfl) | (rw [if_neg (by decide +kernel)]; exact ⟨rfl, rfl⟩))
    (fun os started H enc _ F => by rw [OpenClaim.pre_eq_preRow]; exact lifted12 os started H enc F)

theorem plain12 (f : FuncId) (fn : Func) (hf : Tryz.pinned.checked.prog.funcNamed "mandrel/mandrellaw10.MoveCut" = some f) (hfn : Tryz.pinned.checked.prog.funcs[f]? = some fn) :
    true = Tryz.pinned.checked.prog.looks [] ∧ ∀ (j : Nat) t, fn.params[j]? = some t → Tryz.pinned.checked.prog.wantsStandIn t = false := by
  obtain rfl : f = 12 := Option.some.inj ((show Tryz.prog.funcNamed "mandrel/mandrellaw10.MoveCut" = some 12 by kernel_rfl).symm.trans hf) |>.symm
  obtain rfl : fn = Tryz.f12 := (Option.some.inj (Tryz.func12.symm.trans hfn)).symm
  refine ⟨by kernel_rfl, fun j t ht => ?_⟩
  rw [Tryz.params12] at ht
  have ht' : t = 25 ∨ t = 23 := by simpa using Array.mem_of_getElem? ht
  rcases ht' with rfl | rfl
  · exact (show Tryz.prog.wantsStandIn 25 = false by kernel_rfl)
  · exact (show Tryz.prog.wantsStandIn 23 = false by kernel_rfl)

theorem moveCut_holds : Rows.MoveCutUptoCardSaid :=
  Claim7.holds_tied_plain_at .later [] _ _ _ _ said12 (fun _ h => by cases h) (by kernel_rfl) (fun _ h => by cases h) moveCutUpto_row_tie rfl ⟨rfl, rfl⟩ (by kernel_rfl) rfl plain12 (by kernel_rfl)
end Go.Proofs.YtbijfcooljoogaaGreatDoor
