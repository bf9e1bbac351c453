/- Part WC of the abstract machine: loops that look for the first element. -/
import Derived.Test.YtnkhoojomojbpaaGreatDoorK27
namespace Go.Vm
def bk {α : Type} (p : α -> Bool) (xs : List α) : Int := match xs.findIdx? p with | some i => (i : Int) | none => -1
theorem oC {α : Type} (p : α -> Bool) (xs : List α) : decide (bk p xs >= 0) = xs.any p := by
 unfold bk
 cases h : xs.findIdx? p with
 | none =>
  rw [List.findIdx?_eq_none_iff] at h
  have : xs.any p = false := by rw [List.any_eq_false]; intro x hx; simp [h x hx]
  rw [this]; rfl
 | some i =>
  have : xs.any p = true := by
   obtain ⟨hi, hp, _⟩ := List.findIdx?_eq_some_iff_getElem.1 h
   exact List.any_eq_true.2 ⟨xs[i], List.getElem_mem hi, hp⟩
  rw [this]
  exact aD (by simp only; omega)
theorem aO {P : Program} {Γ : Nat -> Option AV} {f : FuncId} {F : List AV -> LHp -> Tq} (h : ∀ args hs ae aH, (F args hs).run (fun a h => some (a, h)) = some (ae, aH) -> FnH P Γ f args (aA hs) (fun nd h1 => nd = ae /\ h1 = aA aH)) : FnE.OK P Γ f (ao F) :=
 ⟨fun _ _ _ => Tq.eq _ _, fun args hs ae aH e => h args hs ae aH e⟩
end Go.Vm
