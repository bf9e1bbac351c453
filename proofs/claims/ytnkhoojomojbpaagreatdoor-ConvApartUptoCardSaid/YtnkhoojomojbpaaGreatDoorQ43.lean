/- The law ConvApart of mandrellaw13: for every input of bulk at most 1,048,576 the call returns true. Conditions: those of the rows, none else. -/
import Derived.Test.YtnkhoojomojbpaaGreatDoorQ42
import Derived.ProofKit
import Derived.Test.YtnkhoojomojbpaaGreatDoorCards
import Derived.Test.YtnkhoojomojbpaaGreatDoorTie
set_option maxRecDepth 100000
set_option maxHeartbeats 4000000
namespace Go.Proofs.YtnkhoojomojbpaaGreatDoor
open Go.ChangeShapes Go.WideShapes Go.ChangeAt Go.RowKit Go.Vm
noncomputable section
theorem VY : ownKnob Tryz.prog.godebug = none := by kernel_rfl
theorem ag5 : Tryz.prog.globalNamed "mandrel/schema.ones" = some 1 := by kernel_rfl
theorem ac7 : (Tryz.prog.globals[1]?).map (·.type) = some 241 := by kernel_rfl
theorem ag6 : Tryz.prog.cellsOf 241 = 10 := by kernel_rfl
theorem ai0 : Tryz.prog.cellsOf 9 = 1 := by kernel_rfl
theorem VZ : laidOutB Tryz.prog = true := by kernel_rfl
theorem E6 {P : Program} {w : World} {r : Reach} {base : Nat} {t : TypeId} {fs : Array Field} {v : Value} (h : P.underlying t = some (.struct fs)) (hv : Value.okWide P w r base t v) : bh v = true := by
 unfold Value.okWide at hv
 rw [h] at hv
 obtain ⟨cs, rfl, _⟩ := hv
 rfl
theorem ag7 {W : World} (h : laidMetH Tryz.prog Rows.convApartRow.laid W) : lH (Env.gam XRT.e0) W (fun b => b < W.heap.size) := by
 obtain ⟨ps, hv, _⟩ := (show laidMet Tryz.prog Rows.convApartRow.laid W from h)
 obtain ⟨q, hv⟩ := vE hv
 have hs : (Rows.laid_mandrel_schema_ones : DataW Unit) = rZ XRT.ones := by kernel_rfl
 rw [hs] at hv
 obtain ⟨cn, hrep⟩ := Ik ag5 ac7 Tryz.underlying241 Tryz.underlying9 ai0 ag6 (by decide) hv
 intro g v hg
 have xv : lk [(1, AV.ip (.arr 10 .str) XRT.ones)] g = some v := hg
 simp only [lk] at xv
 cases hb : Nat.beq 1 g with
 | false => rw [hb] at xv; cases xv
 | true =>
  rw [hb] at xv
  cases xv
  obtain rfl := bo hb
  exact hrep _ cn
theorem zC {P : Program} {w : World} {r : Reach} {base : Nat} {t e : TypeId} {v : Value} (h : P.underlying t = some (.slice e)) (hv : Value.okWide P w r base t v) : bh v = false := by
 unfold Value.okWide at hv
 rw [h] at hv
 cases v with
 | agg _ => exact absurd hv (by simp [Cell.okWide, Cell.ok, h])
 | _ => rfl
theorem Px {H : Type} (d : DataW H) : 1 <= Rows.uptoBulk d := by
 cases d with
 | lit l => cases l <;> simp [Rows.uptoBulk]
 | nil => simp [Rows.uptoBulk]
 | ptr d => simp [Rows.uptoBulk]
 | slice elems spare => simp [Rows.uptoBulk]
 | agg parts => simp [Rows.uptoBulk]
 | iface t d => simp [Rows.uptoBulk]
 | map entries => simp [Rows.uptoBulk]
 | held h => simp [Rows.uptoBulk]
theorem nD {H : Type} {d : DataW H} {l : List (DataW H)} (h : d ∈ l) : Rows.uptoBulk d <= Rows.uptoBulkAll l := by
 induction l with
 | nil => cases h
 | cons x r ih =>
  simp only [Rows.uptoBulkAll]
  cases List.mem_cons.1 h with
  | inl e => subst e; omega
  | inr e => have := ih e; omega
theorem Py {H : Type} (l : List (DataW H)) : l.length <= Rows.uptoBulkAll l := by
 induction l with
 | nil => simp [Rows.uptoBulkAll]
 | cons x r ih => have := Px x; simp only [Rows.uptoBulkAll, List.length_cons]; omega
theorem Hz {H : Type} : VW (Rows.uptoBulk (H := H)) := by
 refine ⟨fun b => by simp [Rows.uptoBulk], fun es sp => ?_, fun es sp e he => ?_, fun es e he => ?_⟩
 ·have := Py es
  simp only [Rows.uptoBulk]
  omega
 ·have := nD he
  simp only [Rows.uptoBulk]
  omega
 ·have := nD he
  simp only [Rows.uptoBulk]
  omega
theorem C3 {H : Type} {l : List (DataW H)} (hk : Rows.uptoSmall H l = true) : Rows.uptoBulkAll l <= 1048576 := aZ hk
theorem JU (H : Type) (enc : TypeId × Value -> H) (W : World) (base : Nat) (args : Array Value) (ds gs : List (DataW H)) (before : List MemPlace)
  (hval : ∀ (j : Nat) t v, Tryz.f4.params[j]? = some t -> args[j]? = some v -> Value.okWide Tryz.prog W .any base t v)
  (hW : DataW.Whole enc Tryz.prog Tryz.f4.params.toList Rows.convApartSpec.vars false W args.toList ds gs before) (hL : laidMetH Tryz.prog Rows.convApartRow.laid W) (hk : Rows.uptoSmall H (ds ++ gs) = true) :
  Calls Tryz.prog 4 args W fun e W' => ∃ v, e = .returned v /\ Rows.convApartSpec.post enc Tryz.prog Tryz.f4 false true false false W args v W' := by
 have hW' := hW
 have cn := hW.lt
 obtain ⟨p, q, hA0, hV, rfl, hfz, hnd⟩ := hW
 have hA : DataW.TrodAll enc Tryz.prog W 0 (fun _ => true) true Tryz.f4.params.toList args.toList ds p := hA0
 rw [Tryz.params4] at hA hval
 obtain ⟨v0, vs0, d0, ds0, p0, q0, hargs, rfl, rfl, h0, r0⟩ := trodAll_cons hA
 obtain ⟨v1, vs1, d1, ds1, p1, q1, hargs1, rfl, rfl, h1, r1⟩ := trodAll_cons r0
 obtain ⟨v2, vs2, d2, ds2, p2, q2, hargs2, rfl, rfl, h2, r2⟩ := trodAll_cons r1
 obtain ⟨rfl, rfl, rfl⟩ := trodAll_nil r2
 subst hargs2 hargs1
 obtain rfl : args = #[v0, v1, v2] := by cases args; simp_all
 obtain ⟨rfl, rfl⟩ := trodVars_none hV
 have hag0 : bh v0 = Ty.isAgg XRT.Y2 := E6 Tryz.underlying25 (hval 0 25 v0 rfl rfl)
 obtain ⟨y0, _, _, hw0, hv0⟩ := xo Hz (N := 1048576) (τ := XRT.Y2) (by kernel_rfl) hag0 h0 (Nat.le_trans (nD (by simp)) (C3 hk))
 have hag1 : bh v1 = Ty.isAgg (.slice XRT.Y0) := zC Tryz.underlying26 (hval 1 26 v1 rfl rfl)
 obtain ⟨y1, _, _, hw1, hv1⟩ := xo Hz (N := 1048576) (τ := (.slice XRT.Y0)) (by kernel_rfl) hag1 h1 (Nat.le_trans (nD (by simp)) (C3 hk))
 obtain ⟨a2, rfl, rfl, rfl, w2⟩ := open_int Tryz.underlying3 (hval 2 3 v2 rfl rfl) h2
 clear hA0
 have walk : Calls Tryz.prog 4 #[v0, v1, .int .i64 a2] W fun e w' => e = .returned (.bool true) /\ pa W w' :=
  D4 ((XRT.cap_call y0 hw0 y1 hw1 a2 w2).mono fun _ _ h => h.1) (fun _ h => h) (ag7 hL) (vals := [v0, v1, .int .i64 a2]) ⟨v0, _, rfl, hv0.1, hv0.2, ⟨v1, _, rfl, hv1.1, hv1.2, ⟨_, _, rfl, rfl, rfl, rfl⟩⟩⟩
 refine walk.mono fun e W' ⟨he, hk⟩ => ?_
 subst he
 exact ⟨_, rfl, Io VZ (fun t ht => by
   rw [Tryz.params4] at ht
   have ht' : t = 25 \/ t = 26 \/ t = 3 := by simpa using ht
   rcases ht' with rfl | rfl | rfl <;> exact ⟨by kernel_rfl, by decide +kernel⟩)
  hW' cn rfl (fun _ _ _ => trodAll_cons_mk (shut_bool Tryz.underlying4 _) trodAll_mk0) rfl rfl hk (ok_one (by kernel_rfl) rfl (okWide_bool_mk Tryz.underlying4 _))⟩
noncomputable def qL (os : Os) : World := D5 Tryz.prog (World.holding Tryz.prog os ⟨#[], #[], []⟩) Rows.convApartRow.laid
def qa : Array Value := #[.agg #[.string ⟨#[]⟩, .string ⟨#[]⟩, .slice none 0 0, .string ⟨#[]⟩, .slice none 0 0], .slice none 0 0, .int .i64 0]
theorem Pz (os : Os) : laidMet Tryz.prog Rows.convApartRow.laid ((qL os).forCall (fun _ _ => 0) ⟨#[], qa, []⟩).memory :=
 laidMet_of_run' 8 (by kernel_rfl) (by kernel_rfl)
theorem Xf (os : Os) {H : Type} (enc : TypeId × Value -> H) : ∃ places, DataW.whole enc Tryz.prog ((qL os).forCall (fun _ _ => 0) ⟨#[], qa, []⟩).memory Tryz.f4.params.toList Rows.convApartSpec.vars false qa.toList 8 = some ([.agg [.lit (.string []), .lit (.string []), .nil, .lit (.string []), .nil], .nil, .lit (.int .i64 0)], [], places) :=
 ⟨[], by kernel_rfl⟩
theorem V0 (os : Os) (started : os.Started) (H : Type) (enc : TypeId × Value -> H) (F : Stop.Interp) :
  ReturnsInHanded {} Tryz.checked os 4 .any ((Rows.OpenSpec.upto Rows.convApartSpec).preRow enc Tryz.prog Tryz.f4 Rows.convApartUptoRow.domain false Rows.convApartUptoRow.laid) (((Rows.OpenSpec.upto Rows.convApartSpec).at F).post enc Tryz.prog Tryz.f4 false true false false) := by
 obtain ⟨places, hx⟩ := Xf os enc
 refine returnsInHanded_of_row (C := Tryz.checked) (s := Rows.OpenSpec.upto Rows.convApartSpec) VY started (by kernel_rfl) Tryz.func4
  (witness_row_at (enc := enc) (C := Tryz.checked) false (qL os) qa rfl (by kernel_rfl) (by kernel_rfl) (by kernel_rfl)
   (OpenSpec.preRow_of_cond 8 hx (by kernel_rfl) (fun k hk => by cases hk; kernel_rfl) (by kernel_rfl) (Pz os))) ?_
 intro W base args ds gs before hval hW _ hcond _ hL _ _
 exact JU H enc W base args ds gs before hval hW hL (hcond _ rfl)
theorem ag8 : Rows.ConvApartUptoSaid :=
 OpenClaim.holds_of_cond 4 Tryz.f4 rfl rfl rfl rfl rfl rfl rfl ⟨rfl, rfl, rfl, rfl, rfl⟩ rfl rfl rfl rfl rfl (by kernel_rfl) Tryz.func4 (by kernel_rfl)
  (aZ (by kernel_rfl)) (by unfold Func.isWrapper; first | (rw [if_pos (by decide +kernel)]; kernel_rfl) | (rw [if_neg (by decide +kernel)]; exact ⟨rfl, rfl⟩))
  (fun os started H enc _ F => by rw [OpenClaim.pre_eq_preRow]; exact V0 os started H enc F)
theorem ac8 (f : FuncId) (fn : Func) (hf : Tryz.pinned.checked.prog.funcNamed "mandrel/mandrellaw13.ConvApart" = some f) (hfn : Tryz.pinned.checked.prog.funcs[f]? = some fn) :
  true = Tryz.pinned.checked.prog.looks [] /\ ∀ (j : Nat) t, fn.params[j]? = some t -> Tryz.pinned.checked.prog.wantsStandIn t = false := by
 obtain rfl : f = 4 := Option.some.inj ((show Tryz.prog.funcNamed "mandrel/mandrellaw13.ConvApart" = some 4 by kernel_rfl).symm.trans hf) |>.symm
 obtain rfl : fn = Tryz.f4 := (Option.some.inj (Tryz.func4.symm.trans hfn)).symm
 refine ⟨by kernel_rfl, fun j t ht => ?_⟩
 rw [Tryz.params4] at ht
 have ht' : t = 25 \/ t = 26 \/ t = 3 := by simpa using Array.mem_of_getElem? ht
 rcases ht' with rfl | rfl | rfl
 ·exact (show Tryz.prog.wantsStandIn 25 = false by kernel_rfl)
 ·exact (show Tryz.prog.wantsStandIn 26 = false by kernel_rfl)
 ·exact (show Tryz.prog.wantsStandIn 3 = false by kernel_rfl)
theorem convApart_holds : Rows.ConvApartUptoCardSaid :=
 Claim7.holds_tied_plain_at .later [] _ _ _ _ ag8 (fun _ h => by cases h) (by kernel_rfl) (fun _ h => by cases h) convApartUpto_row_tie rfl ⟨rfl, rfl⟩ (by kernel_rfl) rfl ac8 (by kernel_rfl)
end
end Go.Proofs.YtnkhoojomojbpaaGreatDoor
