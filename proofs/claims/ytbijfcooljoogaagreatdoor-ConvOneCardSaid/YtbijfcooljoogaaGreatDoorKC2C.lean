/- schema.Check of the nodes of the laws. -/
import Derived.Test.YtbijfcooljoogaaGreatDoorKC2
namespace Go.Proofs.XGT
open Go.Vm Go
set_option maxRecDepth 100000
set_option maxHeartbeats 4000000
noncomputable def C_sck : Code := codeOf Tryz.f91
noncomputable def cf_sck : Cfg := ⟨72, 7, 2, [], true⟩
def strMP : List UInt8 := [77, 97, 120, 80, 111, 111, 108]
def strKS : List UInt8 := [107, 101, 114, 110, 101, 108, 95, 115, 104, 97, 112, 101]
def kattr (l : List Int) : (Y1).den := (strKS, 7, 0, 0, [], (0, [], [], ()), l, ())
theorem ck_mp (l : List Int) : runC e56 Tryz.f91 7 [] [nodeA strMP [] [122] (.os 1 0) (.os 0 0)] (hpN false false [kattr l] [[120]]) ah = some (.ret [I 0], hpN true false [kattr l] [[120]]) := by kernel_rfl
/-- the attributes are just one list of numbers under a name -/
def oneAttr (nm : List UInt8) : List (Y1).den → Option (List Int)
  | [a] => if a.1 = nm ∧ a.2.1 = (7 : Int) ∧ a.2.2.1 = (0 : Int) ∧ a.2.2.2.1 = (0 : Int) ∧ a.2.2.2.2.1 = ([] : List UInt8) ∧ a.2.2.2.2.2.1.1 = (0 : Int) ∧ a.2.2.2.2.2.1.2.1 = ([] : List Int) ∧ a.2.2.2.2.2.1.2.2.1 = ([] : List Int) then some a.2.2.2.2.2.2.1 else none
  | _ => none
theorem oneAttr_some {ats : List (Y1).den} {l : List Int} (h : oneAttr strKS ats = some l) : ats = [kattr l] := by
  unfold oneAttr at h
  split at h
  · rename_i a
    split at h
    · rename_i hh
      obtain ⟨a1, a2, a3, a4, a5, ⟨b1, b2, b3, ⟨⟩⟩, a7, ⟨⟩⟩ := a
      obtain ⟨h1, h2, h3, h4, h5, h6, h7, h8⟩ := hh
      cases h
      simp only at h1 h2 h3 h4 h5 h6 h7 h8
      subst h1 h2 h3 h4 h5 h6 h7 h8
      rfl
    · cases h
  · cases h
def sckF : List AV → LHp → Tq
  | [n], [(0, .arr 37 ((.pair .str (.pair (.int .i64) (.pair (.int .i64) (.pair (.int .i64) (.pair .str (.pair (.pair (.int .i64) (.pair (.slice (.int .i64)) (.pair (.slice (.int .i64)) .unit))) (.pair (.slice (.int .i64)) .unit)))))))) 0 false ats), (1, .arr 9 .str 0 false ins)] =>
    (match nodeP n with
    | some (op, nm, out, .os 1 0, .os 0 0) => .br (decide (op = strMP) && decide (nm = []) && decide (out = [122]) && decide (ins = [[120]])) (.opt (oneAttr strKS ats) fun l => .leaf (.ret [I 0]) (hpN true false [kattr l] [[120]])) .no
    | _ => .no)
  | _, _ => .no
theorem sckE_ok : FnE.OK e0.P e0.gam 91 (treeE sckF) := by
  have h1 : FnE.OK e0.P e0.gam 91 (execFnC e56 Tryz.f91 7 []) := x91_ok
  refine ⟨fun _ _ _ => Tq.eq _ _, fun args hs ae hs' h => ?_⟩
  have h' : (sckF args hs).run ah = some (ae, hs') := h
  clear h
  unfold sckF at h'
  split at h'
  · split at h'
    · rename_i ats ins _ op nm out hn
      rw [nodeP_some hn]
      obtain ⟨hb, h'⟩ := Tq.br_no h'
      simp only [Bool.and_eq_true, decide_eq_true_eq] at hb
      obtain ⟨⟨⟨rfl, rfl⟩, rfl⟩, rfl⟩ := hb
      simp only [Tq.run] at h'
      obtain ⟨l, hl, h'⟩ := bind_some h'
      rw [oneAttr_some hl]
      cases h'
      exact h1.okC (ck_mp l)
    · cases h'
  · cases h'
end Go.Proofs.XGT
