/- The law MoveKeeps of mandrellaw10: for every input of bulk at most 1,048,576 the call returns true. Conditions: those of the rows, none else. -/
import Derived.Test.YtnkhoojomojbpaaGreatDoorK42
import Derived.ProofKit
import Derived.Test.YtnkhoojomojbpaaGreatDoorCards
import Derived.Test.YtnkhoojomojbpaaGreatDoorTie
set_option maxRecDepth 100000
set_option maxHeartbeats 4000000
namespace Go.Proofs.YtnkhoojomojbpaaGreatDoor
open Go.ChangeShapes Go.WideShapes Go.ChangeAt Go.RowKit Go.Vm
noncomputable section
theorem VX : ownKnob Tryz.prog.godebug = none := by kernel_rfl
theorem ahV : Tryz.prog.globalNamed "mandrel/schema.ones" = some 1 := by kernel_rfl
theorem adD : (Tryz.prog.globals[1]?).map (·.type) = some 241 := by kernel_rfl
theorem ahW : Tryz.prog.cellsOf 241 = 10 := by kernel_rfl
theorem aj1 : Tryz.prog.cellsOf 9 = 1 := by kernel_rfl
theorem VY : laidOutB Tryz.prog = true := by kernel_rfl
theorem EV {P : Program} {w : World} {r : Reach} {base : Nat} {t : TypeId} {fs : Array Field} {v : Value} (h : P.underlying t = some (.struct fs)) (hv : Value.okWide P w r base t v) : aY v = true := by
 unfold Value.okWide at hv
 rw [h] at hv
 obtain ⟨cs, rfl, _⟩ := hv
 rfl
theorem ahX {W : World} (h : laidMetH Tryz.prog Rows.moveKeepsRow.laid W) : kT (Env.gam XRT.e0) W (fun b => b < W.heap.size) := by
 obtain ⟨ps, hv, _⟩ := (show laidMet Tryz.prog Rows.moveKeepsRow.laid W from h)
 obtain ⟨q, hv⟩ := uO hv
 have hs : (Rows.laid_mandrel_schema_ones : DataW Unit) = rk XRT.ones := by kernel_rfl
 rw [hs] at hv
 obtain ⟨bJ, hrep⟩ := H9 ahV adD Tryz.underlying241 Tryz.underlying9 aj1 ahW (by decide) hv
 intro g v hg
 have PI : lk [(1, AV.ip (.arr 10 .str) XRT.ones)] g = some v := hg
 simp only [lk] at PI
 cases hb : Nat.beq 1 g with
 | false => rw [hb] at PI; cases PI
 | true =>
  rw [hb] at PI
  cases PI
  obtain rfl := bj hb
  exact hrep _ bJ
theorem zg {P : Program} {w : World} {r : Reach} {base : Nat} {t e : TypeId} {v : Value} (h : P.underlying t = some (.slice e)) (hv : Value.okWide P w r base t v) : aY v = false := by
 unfold Value.okWide at hv
 rw [h] at hv
 cases v with
 | agg _ => exact absurd hv (by simp [Cell.okWide, Cell.ok, h])
 | _ => rfl
theorem Py {H : Type} (d : DataW H) : 1 <= Rows.uptoBulk d := by
 cases d with
 | lit l => cases l <;> simp [Rows.uptoBulk]
 | nil => simp [Rows.uptoBulk]
 | ptr d => simp [Rows.uptoBulk]
 | slice elems spare => simp [Rows.uptoBulk]
 | agg parts => simp [Rows.uptoBulk]
 | iface t d => simp [Rows.uptoBulk]
 | map entries => simp [Rows.uptoBulk]
 | held h => simp [Rows.uptoBulk]
theorem mU {H : Type} {d : DataW H} {l : List (DataW H)} (h : d ∈ l) : Rows.uptoBulk d <= Rows.uptoBulkAll l := by
 induction l with
 | nil => cases h
 | cons x r ih =>
  simp only [Rows.uptoBulkAll]
  cases List.mem_cons.1 h with
  | inl e => subst e; omega
  | inr e => have := ih e; omega
theorem Pz {H : Type} (l : List (DataW H)) : l.length <= Rows.uptoBulkAll l := by
 induction l with
 | nil => simp [Rows.uptoBulkAll]
 | cons x r ih => have := Py x; simp only [Rows.uptoBulkAll, List.length_cons]; omega
theorem Hm {H : Type} : VV (Rows.uptoBulk (H := H)) := by
 refine ⟨fun b => by simp [Rows.uptoBulk], fun es sp => ?_, fun es sp e he => ?_, fun es e he => ?_⟩
 ·have := Pz es
  simp only [Rows.uptoBulk]
  omega
 ·have := mU he
  simp only [Rows.uptoBulk]
  omega
 ·have := mU he
  simp only [Rows.uptoBulk]
  omega
theorem CO {H : Type} {l : List (DataW H)} (hk : Rows.uptoSmall H l = true) : Rows.uptoBulkAll l <= 1048576 := aU hk
theorem JT (H : Type) (enc : TypeId × Value -> H) (W : World) (base : Nat) (args : Array Value) (ds gs : List (DataW H)) (before : List MemPlace)
  (hval : ∀ (j : Nat) t v, Tryz.f6.params[j]? = some t -> args[j]? = some v -> Value.okWide Tryz.prog W .any base t v)
  (hW : DataW.Whole enc Tryz.prog Tryz.f6.params.toList Rows.moveKeepsSpec.vars false W args.toList ds gs before) (hL : laidMetH Tryz.prog Rows.moveKeepsRow.laid W) (hk : Rows.uptoSmall H (ds ++ gs) = true) :
  Calls Tryz.prog 6 args W fun e W' => ∃ v, e = .returned v /\ Rows.moveKeepsSpec.post enc Tryz.prog Tryz.f6 false true false false W args v W' := by
 have hW' := hW
 have bJ := hW.lt
 obtain ⟨p, q, hA0, hV, rfl, hfz, hnd⟩ := hW
 have hA : DataW.TrodAll enc Tryz.prog W 0 (fun _ => true) true Tryz.f6.params.toList args.toList ds p := hA0
 rw [Tryz.params6] at hA hval
 obtain ⟨v0, vs0, d0, ds0, p0, q0, hargs, rfl, rfl, h0, r0⟩ := trodAll_cons hA
 obtain ⟨v1, vs1, d1, ds1, p1, q1, hargs1, rfl, rfl, h1, r1⟩ := trodAll_cons r0
 obtain ⟨rfl, rfl, rfl⟩ := trodAll_nil r1
 subst hargs1
 obtain rfl : args = #[v0, v1] := by cases args; simp_all
 obtain ⟨rfl, rfl⟩ := trodVars_none hV
 have hag0 : aY v0 = Ty.isAgg XRT.Y2 := EV Tryz.underlying25 (hval 0 25 v0 rfl rfl)
 obtain ⟨y0, _, _, hw0, hv0⟩ := wM Hm (N := 1048576) (τ := XRT.Y2) (by kernel_rfl) hag0 h0 (Nat.le_trans (mU (by simp)) (CO hk))
 have hag1 : aY v1 = Ty.isAgg (.slice XRT.Y0) := zg Tryz.underlying26 (hval 1 26 v1 rfl rfl)
 obtain ⟨y1, _, _, hw1, hv1⟩ := wM Hm (N := 1048576) (τ := (.slice XRT.Y0)) (by kernel_rfl) hag1 h1 (Nat.le_trans (mU (by simp)) (CO hk))
 clear hA0
 have walk : Calls Tryz.prog 6 #[v0, v1] W fun e w' => e = .returned (.bool true) /\ oy W w' :=
  DP ((XRT.mke_call y0 hw0 y1 hw1).mono fun _ _ h => h.1) (fun _ h => h) (ahX hL) (vals := [v0, v1]) ⟨v0, _, rfl, hv0.1, hv0.2, ⟨v1, _, rfl, hv1.1, hv1.2, rfl⟩⟩
 refine walk.mono fun e W' ⟨he, hk⟩ => ?_
 subst he
 exact ⟨_, rfl, Ic VY (fun t ht => by
   rw [Tryz.params6] at ht
   have ht' : t = 25 \/ t = 26 := by simpa using ht
   rcases ht' with rfl | rfl <;> exact ⟨by kernel_rfl, by decide +kernel⟩)
  hW' bJ rfl (fun _ _ _ => trodAll_cons_mk (shut_bool Tryz.underlying4 _) trodAll_mk0) rfl rfl hk (ok_one (by kernel_rfl) rfl (okWide_bool_mk Tryz.underlying4 _))⟩
noncomputable def qc (os : Os) : World := DQ Tryz.prog (World.holding Tryz.prog os ⟨#[], #[], []⟩) Rows.moveKeepsRow.laid
def pt : Array Value := #[.agg #[.string ⟨#[]⟩, .string ⟨#[]⟩, .slice none 0 0, .string ⟨#[]⟩, .slice none 0 0], .slice none 0 0]
theorem PA (os : Os) : laidMet Tryz.prog Rows.moveKeepsRow.laid ((qc os).forCall (fun _ _ => 0) ⟨#[], pt, []⟩).memory :=
 laidMet_of_run' 8 (by kernel_rfl) (by kernel_rfl)
theorem Xk (os : Os) {H : Type} (enc : TypeId × Value -> H) : ∃ places, DataW.whole enc Tryz.prog ((qc os).forCall (fun _ _ => 0) ⟨#[], pt, []⟩).memory Tryz.f6.params.toList Rows.moveKeepsSpec.vars false pt.toList 8 = some ([.agg [.lit (.string []), .lit (.string []), .nil, .lit (.string []), .nil], .nil], [], places) :=
 ⟨[], by kernel_rfl⟩
theorem VZ (os : Os) (started : os.Started) (H : Type) (enc : TypeId × Value -> H) (F : Stop.Interp) :
  ReturnsInHanded {} Tryz.checked os 6 .any ((Rows.OpenSpec.upto Rows.moveKeepsSpec).preRow enc Tryz.prog Tryz.f6 Rows.moveKeepsUptoRow.domain false Rows.moveKeepsUptoRow.laid) (((Rows.OpenSpec.upto Rows.moveKeepsSpec).at F).post enc Tryz.prog Tryz.f6 false true false false) := by
 obtain ⟨places, hx⟩ := Xk os enc
 refine returnsInHanded_of_row (C := Tryz.checked) (s := Rows.OpenSpec.upto Rows.moveKeepsSpec) VX started (by kernel_rfl) Tryz.func6
  (witness_row_at (enc := enc) (C := Tryz.checked) false (qc os) pt rfl (by kernel_rfl) (by kernel_rfl) (by kernel_rfl)
   (OpenSpec.preRow_of_cond 8 hx (by kernel_rfl) (fun k hk => by cases hk; kernel_rfl) (by kernel_rfl) (PA os))) ?_
 intro W base args ds gs before hval hW _ hcond _ hL _ _
 exact JT H enc W base args ds gs before hval hW hL (hcond _ rfl)
theorem ahY : Rows.MoveKeepsUptoSaid :=
 OpenClaim.holds_of_cond 6 Tryz.f6 rfl rfl rfl rfl rfl rfl rfl ⟨rfl, rfl, rfl, rfl, rfl⟩ rfl rfl rfl rfl rfl (by kernel_rfl) Tryz.func6 (by kernel_rfl)
  (aU (by kernel_rfl)) (by unfold Func.isWrapper; first | (rw [if_pos (by decide +kernel)]; kernel_rfl) | (rw [if_neg (by decide +kernel)]; exact ⟨rfl, rfl⟩))
  (fun os started H enc _ F => by rw [OpenClaim.pre_eq_preRow]; exact VZ os started H enc F)
theorem adE (f : FuncId) (fn : Func) (hf : Tryz.pinned.checked.prog.funcNamed "mandrel/mandrellaw10.MoveKeeps" = some f) (hfn : Tryz.pinned.checked.prog.funcs[f]? = some fn) :
  true = Tryz.pinned.checked.prog.looks [] /\ ∀ (j : Nat) t, fn.params[j]? = some t -> Tryz.pinned.checked.prog.wantsStandIn t = false := by
 obtain rfl : f = 6 := Option.some.inj ((show Tryz.prog.funcNamed "mandrel/mandrellaw10.MoveKeeps" = some 6 by kernel_rfl).symm.trans hf) |>.symm
 obtain rfl : fn = Tryz.f6 := (Option.some.inj (Tryz.func6.symm.trans hfn)).symm
 refine ⟨by kernel_rfl, fun j t ht => ?_⟩
 rw [Tryz.params6] at ht
 have ht' : t = 25 \/ t = 26 := by simpa using Array.mem_of_getElem? ht
 rcases ht' with rfl | rfl
 ·exact (show Tryz.prog.wantsStandIn 25 = false by kernel_rfl)
 ·exact (show Tryz.prog.wantsStandIn 26 = false by kernel_rfl)
theorem moveKeeps_holds : Rows.MoveKeepsUptoCardSaid :=
 Claim7.holds_tied_plain_at .later [] _ _ _ _ ahY (fun _ h => by cases h) (by kernel_rfl) (fun _ h => by cases h) moveKeepsUpto_row_tie rfl ⟨rfl, rfl⟩ (by kernel_rfl) rfl adE (by kernel_rfl)
end
end Go.Proofs.YtnkhoojomojbpaaGreatDoor
