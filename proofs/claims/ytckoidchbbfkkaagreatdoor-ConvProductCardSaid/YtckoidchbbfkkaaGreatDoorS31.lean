/- Part Z of the abstract machine: loops of the executor, told by equations. -/
import Derived.Test.YtckoidchbbfkkaaGreatDoorS26
namespace Go.Vm

variable {R : Type}

def blkK (id : Nat) (k : AEx → LSt → Option R) : AEx → LSt → Option R := fun e s' =>
  match e with
  | .normal => k .normal s'
  | .exit i => bif Nat.beq i id then k .normal s' else k (.exit i) s'
  | .ret => k .ret s'
  | .panic t m => k (.panic t m) s'
abbrev I (n : Int) : AV := .d (.int .i64) n
abbrev B (b : Bool) : AV := .d .bool b
abbrev i64T : Ty := .int .i64
def codeOf (f : Func) : Code := match f.body with | some c => c | none => .skip
def cL : Code → Code
  | .seq a _ => a
  | .block _ c => c
  | .loop c => c
  | .cond _ a _ => a
  | c => c
def cR : Code → Code
  | .seq _ b => b
  | .cond _ _ b => b
  | c => c

theorem loopM_run {S X : Type} {B : S → Option (Stp S X)} {f : Nat → S} {r : X} : ∀ (n m : Nat), n < m → (∀ i, i < n → B (f i) = some (.next (f (i + 1)))) → B (f n) = some (.done r) → loopM B m (f 0) = some r := by
  intro n
  induction n generalizing f with
  | zero =>
    intro m hm _ hd
    cases m with
    | zero => omega
    | succ m => simp only [loopM, hd]
  | succ n ih =>
    intro m hm hs hd
    cases m with
    | zero => omega
    | succ m =>
      simp only [loopM, hs 0 (by omega)]
      exact ih (f := fun i => f (i + 1)) m (by omega) (fun i hi => hs (i + 1) (by omega)) hd

theorem wrap64 {n : Int} (h0 : -9223372036854775808 ≤ n) (h1 : n < 9223372036854775808) : IntKind.i64.wrap n = n := by
  rw [IntKind.wrap_i64]; omega

/-- a function by what it answers -/
theorem FnE.OK.of {P : Program} {Γ : Nat → Option AV} {f : FuncId} {g g' : FnE} (h : FnE.OK P Γ f g)
    (nat : ∀ {R : Type} (args : List AV) (hs : LHp) (k : AEnd → LHp → Option R), g'.run args hs k = (g'.run args hs fun a h => some (a, h)).bind fun p => k p.1 p.2)
    (eq : ∀ args hs ae hs', g'.run args hs (fun a h => some (a, h)) = some (ae, hs') → g.run args hs (fun a h => some (a, h)) = some (ae, hs')) : FnE.OK P Γ f g' :=
  ⟨nat, fun args hs ae hs' hr => h.ok args hs ae hs' (eq args hs ae hs' hr)⟩

/-- a pure answer -/
def fnE (F : List AV → LHp → Option (AEnd × LHp)) : FnE := { run := fun args hs k => (F args hs).bind fun p => k p.1 p.2 }
theorem fnE_ok {P : Program} {Γ : Nat → Option AV} {f : FuncId} {g : FnE} {F : List AV → LHp → Option (AEnd × LHp)} (h : FnE.OK P Γ f g)
    (eq : ∀ args hs p, F args hs = some p → g.run args hs (fun a h => some (a, h)) = some p) : FnE.OK P Γ f (fnE F) :=
  FnE.OK.of h (fun args hs k => by
    simp only [fnE]
    cases F args hs <;> rfl) (fun args hs ae hs' hr => by
    simp only [fnE] at hr
    obtain ⟨p, hp, hr⟩ := bind_some hr
    cases hr
    exact eq _ _ _ hp)

end Go.Vm
