/- Part Z of the abstract machine: loops of the executor, told by equations. -/
import Derived.Test.YtnkhoojomojbpaaGreatDoorK25
namespace Go.Vm
variable {R : Type}
def aQ (id : Nat) (k : AEx -> LSt -> Option R) : AEx -> LSt -> Option R := fun e s' =>
 match e with
 | .normal => k .normal s'
 | .exit i => bif Nat.beq i id then k .normal s' else k (.exit i) s'
 | .ret => k .ret s'
 | .panic t m => k (.panic t m) s'
abbrev I (n : Int) : AV := .d (.int .i64) n
abbrev B (b : Bool) : AV := .d .bool b
abbrev aa : Ty := .int .i64
def bd (f : Func) : Code := match f.body with | some c => c | none => .skip
def cL : Code -> Code
 | .seq a _ => a
 | .block _ c => c
 | .loop c => c
 | .cond _ a _ => a
 | c => c
def cR : Code -> Code
 | .seq _ b => b
 | .cond _ _ b => b
 | c => c
theorem dI {α : Type} {xs ys : List α} (h : xs.length + ys.length <= lim) : app xs ys = some (xs ++ ys) := if_pos h
theorem aI {n : Int} (h0 : -9223372036854775808 <= n) (h1 : n < 9223372036854775808) : IntKind.i64.wrap n = n := by
 rw [IntKind.wrap_i64]; omega
theorem FnE.OK.of {P : Program} {Γ : Nat -> Option AV} {f : FuncId} {g g' : FnE} (h : FnE.OK P Γ f g)
  (nat : ∀ {R : Type} (args : List AV) (hs : LHp) (k : aq -> LHp -> Option R), g'.run args hs k = (g'.run args hs fun a h => some (a, h)).bind fun p => k p.1 p.2)
  (eq : ∀ args hs ae aH, g'.run args hs (fun a h => some (a, h)) = some (ae, aH) -> g.run args hs (fun a h => some (a, h)) = some (ae, aH)) : FnE.OK P Γ f g' :=
 ⟨nat, fun args hs ae aH hr => h.ok args hs ae aH (eq args hs ae aH hr)⟩
def fnE (F : List AV -> LHp -> Option (aq × LHp)) : FnE := { run := fun args hs k => (F args hs).bind fun p => k p.1 p.2 }
theorem XH {P : Program} {Γ : Nat -> Option AV} {f : FuncId} {g : FnE} {F : List AV -> LHp -> Option (aq × LHp)} (h : FnE.OK P Γ f g)
  (eq : ∀ args hs p, F args hs = some p -> g.run args hs (fun a h => some (a, h)) = some p) : FnE.OK P Γ f (fnE F) :=
 FnE.OK.of h (fun args hs k => by
  simp only [fnE]
  cases F args hs <;> rfl) (fun args hs ae aH hr => by
  simp only [fnE] at hr
  obtain ⟨p, hp, hr⟩ := aS hr
  cases hr
  exact eq _ _ _ hp)
end Go.Vm
