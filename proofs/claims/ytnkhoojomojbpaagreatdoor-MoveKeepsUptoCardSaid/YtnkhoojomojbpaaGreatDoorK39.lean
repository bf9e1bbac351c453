/- Part WI of the abstract machine: an answer for data serves arrays that have been made: they are fixed, and stand beside the call. -/
import Derived.Test.YtnkhoojomojbpaaGreatDoorK38
namespace Go.Vm
def fV : LHp -> Bool
 | [] => true
 | (_, .arr _ _ _ _ _) :: r => fV r
 | _ :: _ => false
def gm : LHp -> LHp
 | [] => []
 | (o, .arr T e m _ xs) :: r => (o, .arr T e m true xs) :: gm r
 | p :: r => p :: gm r
def shA (N : Nat) : AV -> Option AV
 | .d t x => some (.d t x)
 | .os i n => some (.os (i + N) n)
 | _ => none
theorem cV : ∀ {hp : LHp} {o : Nat} {ob : aj}, fV hp = true -> aA hp o = some ob -> ∃ T e m z xs, ob = .arr T e m z xs
 | (a, .arr T e m z xs) :: r, o, ob, h, hg => by
  simp only [aA] at hg
  cases hb : Nat.beq a o with
  | true => rw [hb] at hg; cases hg; exact ⟨T, e, m, z, xs, rfl⟩
  | false => rw [hb] at hg; exact cV (hp := r) h hg
 | (_, .box _) :: _, _, _, h, _ => by cases h
 | (_, .rc _) :: _, _, _, h, _ => by cases h
theorem iA : ∀ {hp : LHp}, fV hp = true -> ∀ (o : Nat), aA (gm hp) o = (match aA hp o with | some (.arr T e m _ xs) => some (.arr T e m true xs) | _ => none)
 | [], _, _ => rfl
 | (a, .arr T e m z xs) :: r, h, o => by
  simp only [gm, aA]
  cases hb : Nat.beq a o with
  | true => rfl
  | false => exact iA (hp := r) h o
 | (_, .box _) :: _, h, _ => by cases h
 | (_, .rc _) :: _, h, _ => by cases h
def Iy : Mu := fun _ => .none
def ajj : Hp := fun _ => none
def jA : Pl -> Pl
 | .row b cap => .fz b cap
 | p => p
end Go.Vm
