/- Part WC of the abstract machine: loops that look for the first element. -/
import Derived.Test.YtckoidchbbfkkaaGreatDoorS32
namespace Go.Vm

def idxP {α : Type} (p : α → Bool) (xs : List α) : Int := match xs.findIdx? p with | some i => (i : Int) | none => -1
theorem idxP_ge {α : Type} (p : α → Bool) (xs : List α) : decide (idxP p xs ≥ 0) = xs.any p := by
  unfold idxP
  cases h : xs.findIdx? p with
  | none =>
    rw [List.findIdx?_eq_none_iff] at h
    have : xs.any p = false := by rw [List.any_eq_false]; intro x hx; simp [h x hx]
    rw [this]; rfl
  | some i =>
    have : xs.any p = true := by
      obtain ⟨hi, hp, _⟩ := List.findIdx?_eq_some_iff_getElem.1 h
      exact List.any_eq_true.2 ⟨xs[i], List.getElem_mem hi, hp⟩
    rw [this]
    exact decide_eq_true (by simp only; omega)

/-- a loop that goes through a list to the first element that p holds of -/
theorem find_run {S X α : Type} {B : S → Option (Stp S X)} {xs : List α} {p : α → Bool} {st : Int → S} {r : Int → α → X} {r0 : Int → X} (hl : xs.length ≤ maxLen)
    (h : ∀ i : Int, B (st i) = bif decide (i < Int.ofNat xs.length) then (idx xs i).bind fun x => bif p x then some (.done (r i x)) else some (.next (st (IntKind.i64.wrap (i + 1)))) else some (.done (r0 i))) :
    loopM B fu (st 0) = (match xs.findIdx? p with | some i => (xs[i]?).bind fun x => some (r (i : Int) x) | none => some (r0 (Int.ofNat xs.length))) := by
  have hm : maxLen = 9223372036854775807 := by decide
  have hf : fu = 18446744073709551616 := rfl
  have step : ∀ i, i < xs.length → (∀ x, xs[i]? = some x → p x = false) → B (st (i : Nat)) = some (.next (st ((i + 1 : Nat) : Int))) := by
    intro i hi hp
    obtain ⟨x, hx⟩ : ∃ x, xs[i]? = some x := ⟨xs[i], List.getElem?_eq_getElem hi⟩
    have hidx : idx xs (i : Int) = some x := by unfold idx; rw [if_pos (by omega), Int.toNat_natCast, hx]
    rw [h i, decide_eq_true (show (i : Int) < Int.ofNat xs.length from Int.ofNat_lt.2 hi), hidx]
    simp only [cond_true, Option.bind_some, hp x hx, cond_false]
    rw [wrap64 (by omega) (by omega)]
    rfl
  cases hq : xs.findIdx? p with
  | none =>
    rw [List.findIdx?_eq_none_iff] at hq
    refine loopM_run (f := fun i : Nat => st (i : Int)) xs.length fu (by omega) (fun i hi => step i hi fun x hx => ?_) ?_
    · have := hq x (List.mem_of_getElem? hx); simpa using this
    · show B (st ((xs.length : Nat) : Int)) = _
      rw [h, decide_eq_false (show ¬ ((xs.length : Nat) : Int) < Int.ofNat xs.length from Int.lt_irrefl _)]
      rfl
  | some n =>
    obtain ⟨hn, hp, hnp⟩ := List.findIdx?_eq_some_iff_getElem.1 hq
    have hx : xs[n]? = some xs[n] := List.getElem?_eq_getElem hn
    show loopM B fu (st 0) = (xs[n]?).bind _
    rw [hx]
    refine loopM_run (f := fun i : Nat => st (i : Int)) n fu (by omega) (fun i hi => step i (by omega) fun x hx => ?_) ?_
    · have := hnp i hi
      rw [List.getElem?_eq_getElem (by omega)] at hx
      cases hx
      simpa using this
    · show B (st (n : Int)) = _
      have hidx : idx xs (n : Int) = some xs[n] := by unfold idx; rw [if_pos (by omega), Int.toNat_natCast, hx]
      rw [h n, decide_eq_true (show (n : Int) < Int.ofNat xs.length from Int.ofNat_lt.2 hn), hidx]
      simp only [cond_true, Option.bind_some, hp]

end Go.Vm
