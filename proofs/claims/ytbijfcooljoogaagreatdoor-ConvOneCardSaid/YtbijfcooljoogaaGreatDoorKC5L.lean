/- the anchor of layer 13: its answer. -/
import Derived.Test.YtbijfcooljoogaaGreatDoorGU
namespace Go.Proofs.XGT
open Go.Vm Go
set_option maxRecDepth 100000
set_option maxHeartbeats 4000000
/-! ### the anchor -/
noncomputable def C_live : Code := codeOf Tryz.f16
noncomputable def cf_live : Cfg := ⟨65, 7, 0, [], true⟩
theorem live_run : runC g168 Tryz.f16 7 [] [] [] ah = some (.ret [B true], []) := by kernel_rfl
def liveF : List AV → LHp → Option (AEnd × LHp)
  | [], [] => some (.ret [B true], [])
  | _, _ => none
theorem liveE_ok : FnE.OK e0.P e0.gam 16 (fnE liveF) := by
  have h1 : FnE.OK e0.P e0.gam 16 (execFnC g168 Tryz.f16 7 []) := y16_ok
  refine ⟨fun args hs k => ?_, fun args hs ae hs' h => ?_⟩
  · simp only [fnE]
    cases liveF args hs <;> rfl
  · have h' : (liveF args hs).bind (fun p => ah p.1 p.2) = some (ae, hs') := h
    unfold liveF at h'
    split at h'
    · cases h'
      exact h1.okC live_run
    · cases h'

end Go.Proofs.XGT
