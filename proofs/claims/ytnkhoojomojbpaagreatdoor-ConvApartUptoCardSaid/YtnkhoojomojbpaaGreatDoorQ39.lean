/- Part WI of the abstract machine: an answer for data serves arrays that have been made: they are fixed, and stand beside the call. -/
import Derived.Test.YtnkhoojomojbpaaGreatDoorQ38
namespace Go.Vm
def gH : LHp -> Bool
 | [] => true
 | (_, .arr _ _ _ _ _) :: r => gH r
 | _ :: _ => false
def gJ : LHp -> LHp
 | [] => []
 | (o, .arr T e m _ xs) :: r => (o, .arr T e m true xs) :: gJ r
 | p :: r => p :: gJ r
def shA (N : Nat) : AV -> Option AV
 | .d t x => some (.d t x)
 | .os i n => some (.os (i + N) n)
 | _ => none
theorem di : ∀ {hp : LHp} {o : Nat} {ob : al}, gH hp = true -> az hp o = some ob -> ∃ T e m z xs, ob = .arr T e m z xs
 | (a, .arr T e m z xs) :: r, o, ob, h, hg => by
  simp only [az] at hg
  cases hb : Nat.beq a o with
  | true => rw [hb] at hg; cases hg; exact ⟨T, e, m, z, xs, rfl⟩
  | false => rw [hb] at hg; exact di (hp := r) h hg
 | (_, .box _) :: _, _, _, h, _ => by cases h
 | (_, .rc _) :: _, _, _, h, _ => by cases h
theorem iM : ∀ {hp : LHp}, gH hp = true -> ∀ (o : Nat), az (gJ hp) o = (match az hp o with | some (.arr T e m _ xs) => some (.arr T e m true xs) | _ => none)
 | [], _, _ => rfl
 | (a, .arr T e m z xs) :: r, h, o => by
  simp only [gJ, az]
  cases hb : Nat.beq a o with
  | true => rfl
  | false => exact iM (hp := r) h o
 | (_, .box _) :: _, h, _ => by cases h
 | (_, .rc _) :: _, h, _ => by cases h
def IN : Mu := fun _ => .none
def aio : Hp := fun _ => none
def jn : Pl -> Pl
 | .row b cap => .fz b cap
 | p => p
end Go.Vm
