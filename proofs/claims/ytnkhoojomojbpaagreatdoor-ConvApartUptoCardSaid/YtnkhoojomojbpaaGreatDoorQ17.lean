/- Part OC of the abstract machine: copy into a window of a list that has been made. -/
import Derived.Test.YtnkhoojomojbpaaGreatDoorQ16
import Derived.Laws.IdiomCopy
namespace Go.Vm
universe u
variable {R : Type} {E : Env} {P : Program} {C : Ctx} {s : LSt} {r : R} {k : E1 -> Option R}
variable {dst : Option Tmp} {ty : TypeId} {pos : String} {cc : Array Edge} {gd : Option (Nat × Bool)}
inductive DU (hp : Hp) : AV -> (e : Ty) -> List e.den -> Prop
 | s {a : AV} {e : Ty} {xs : List e.den} : Src hp a e xs -> DU hp a e xs
 | w {o n j q : Nat} {T : TypeId} {e : Ty} {z : Bool} {xs : List e.den} : hp o = some (.arr T e n z xs) -> j + q <= xs.length -> DU hp (.ow o n j q) e ((xs.drop j).take q)
theorem DU.hp {hp bq : Hp} {a : AV} {e : Ty} {xs : List e.den} (h : DU hp a e xs) (hk : ∀ k ∈ a.objs, bq k = hp k) : DU bq a e xs := by
 cases h with
 | s h => exact .s (h.hp hk)
 | w h1 h2 => exact .w ((hk _ (by simp [AV.objs])).trans h1) h2
theorem DU.sound {w : World} {im : Nat -> Prop} {μ : Mu} {hp : Hp} {a : AV} {e : Ty} {xs : List e.den} {v : Value} (h : DU hp a e xs) (hv : bC w im μ hp a v)
  (ef : ∀ k ob, hp k = some ob -> iH w im μ hp (μ k) ob) : Xr w im e xs v := by
 cases h with
 | s h => exact h.sound hv ef
 | @w o n j q T e z ys ho hle2 =>
  obtain ⟨hr, cY⟩ := hv
  simp only [RepA] at hr
  obtain ⟨T', e', m', z', oP, eZ, hle, u, hc, h1, eQ⟩ := hr
  rw [ho] at eZ
  cases eZ
  obtain ⟨b, cap, hb, rfl⟩ := eQ rfl
  rcases (ef o _ ho).arr with ⟨ad, bq, rfl⟩ | ⟨b', cap', cs, bq, vl, xp, h3', h4'⟩
  ·rcases hb with hb | hb <;> rw [bq] at hb <;> cases hb
  ·have hbb : b' = b /\ cap' = cap := by
    rcases hb with hb | hb <;> rcases bq with bq | bq <;> rw [bq] at hb <;> cases hb <;> exact ⟨rfl, rfl⟩
   obtain ⟨rfl, rfl⟩ := hbb
   have hq : ((ys.drop j).take q).length = q := by rw [List.length_take, List.length_drop]; omega
   refine ⟨some ⟨b', j * e.size, none⟩, cap' - j, by rw [hq]; exact aL hc cY, by rw [hq]; omega, .inr ⟨b', j * e.size, (cs.drop (j * e.size)).take (q * e.size), rfl, ?_, ?_⟩⟩
   ·have := h3'.sub (j * e.size) (q * e.size)
    rw [Nat.zero_add] at this
    exact this
   ·exact aU.take (aM.length e) (aU.drop (aM.length e) h4' j) q
end Go.Vm
