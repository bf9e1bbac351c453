/- Part WB of the abstract machine: numbers as words, words as numbers (math.Float32bits and its like); answers of functions as trees. -/
import Derived.Test.YtckoidchbbfkkaaGreatDoorS23
import Derived.Test.YtckoidchbbfkkaaGreatDoorS31
namespace Go.Vm

def xFrombits (fk : FloatKind) (ik : IntKind) : ExtE := { run := fun args k => match args with
  | [.d (.int i) n] => bif decide (i = ik) then k (.d (.flt fk) (canonF fk n.toNat)) else none
  | _ => none }
def xBits (fk : FloatKind) (ik : IntKind) : ExtE := { run := fun args k => match args with
  | [.d (.flt f) b] => bif decide (f = fk) then (bif fNaN fk b then none else k (.d (.int ik) (b : Int))) else none
  | _ => none }

theorem xFrombits_ok {P : Program} {f : FuncId} {fn : Func} {fk : FloatKind} {ik : IntKind} {row : Array Value → Sem Value} (hrow : ∀ n, row #[.int ik n] = pure (.float fk n.toNat)) (hf : P.funcs[f]? = some fn) (hb : fn.body.isNone = true) (hn : (fn.name == "runtime.NumGoroutine") = false) (hx : Extern.findNext fn = none) (hr : Extern.find fn = some row) : ExtE.OK P f (xFrombits fk ik) := by
  refine ⟨fun args k => by
    simp only [xFrombits]
    split
    · rename_i i n
      cases decide (i = ik) <;> rfl
    · rfl, fun args k r h => ?_⟩
  simp only [xFrombits] at h
  split at h
  · rename_i i n
    cases hc : decide (i = ik) with
    | false => rw [hc] at h; cases h
    | true =>
      rw [hc] at h
      obtain rfl := of_decide_eq_true hc
      refine ⟨_, h, fun w im μ hp vals hl hv => ?_⟩
      obtain ⟨u, rfl, h1⟩ := one_val hl hv
      have e1 := scal_eq (u := .int i n) rfl h1
      subst e1
      refine ⟨.float fk n.toNat, w, ext_run hf hb hn hx hr _ w w ?_, rfl, rfl, rfl, rfl, ?_⟩
      · rw [hrow]; rfl
      · exact ⟨⟨_, rfl, rfl⟩, rfl⟩
  · cases h

theorem xBits_ok {P : Program} {f : FuncId} {fn : Func} {fk : FloatKind} {ik : IntKind} {row : Array Value → Sem Value} (hrow : ∀ n, row #[.float fk n] = pure (.int ik n)) (hf : P.funcs[f]? = some fn) (hb : fn.body.isNone = true) (hn : (fn.name == "runtime.NumGoroutine") = false) (hx : Extern.findNext fn = none) (hr : Extern.find fn = some row) : ExtE.OK P f (xBits fk ik) := by
  refine ⟨fun args k => by
    simp only [xBits]
    split
    · rename_i i n
      cases decide (i = fk) <;> cases fNaN fk n <;> rfl
    · rfl, fun args k r h => ?_⟩
  simp only [xBits] at h
  split at h
  · rename_i g b
    cases hc : decide (g = fk) with
    | false => rw [hc] at h; cases h
    | true =>
      rw [hc] at h
      obtain rfl := of_decide_eq_true hc
      simp only [cond_true] at h
      cases hq : fNaN g b with
      | true => rw [hq] at h; cases h
      | false =>
        rw [hq] at h
        refine ⟨_, h, fun w im μ hp vals hl hv => ?_⟩
        obtain ⟨u, rfl, h1⟩ := one_val hl hv
        obtain ⟨⟨q, h2, h3⟩, h4⟩ := h1
        have hq' : q = b := by
          unfold canonF at h3
          cases hn' : fNaN g q with
          | true =>
            rw [if_pos hn'] at h3
            subst h3
            cases g <;> exact absurd hq (by decide)
          | false => rw [hn'] at h3; simpa using h3
        subst hq'
        have e1 : u = .float g q := by
          cases u <;> simp_all [Value.cells, vIsAgg, AV.isAgg, Ty.isAgg]
        subst e1
        refine ⟨.int ik q, w, ext_run hf hb hn hx hr _ w w ?_, rfl, rfl, rfl, rfl, constAV_rep _ _ _ _ (.int ik _)⟩
        rw [hrow]; rfl
  · cases h

/-! ### answers as trees -/

inductive Tq : Type 1 where
  | leaf (a : AEnd) (h : LHp)
  | br (c : Bool) (a b : Tq)
  | opt {α : Type} (x : Option α) (f : α → Tq)
  | no
def Tq.run {R : Type} : Tq → (AEnd → LHp → Option R) → Option R
  | .leaf a h, k => k a h
  | .br c a b, k => bif c then a.run k else b.run k
  | .opt x f, k => x.bind fun v => (f v).run k
  | .no, _ => none
theorem Tq.eq : ∀ (t : Tq) {R : Type} (k : AEnd → LHp → Option R), t.run k = (t.run fun a h => some (a, h)).bind fun p => k p.1 p.2
  | .leaf _ _, _, _ => rfl
  | .br c a b, _, k => by
    cases c with
    | true => exact Tq.eq a k
    | false => exact Tq.eq b k
  | .opt x f, _, k => by
    cases x with
    | none => rfl
    | some v => exact Tq.eq (f v) k
  | .no, _, _ => rfl
theorem Tq.br_no {R : Type} {c : Bool} {t : Tq} {k : AEnd → LHp → Option R} {r : R} (h : (Tq.br c t .no).run k = some r) : c = true ∧ t.run k = some r := by
  cases c with
  | true => exact ⟨rfl, h⟩
  | false => cases h

def treeE (F : List AV → LHp → Tq) : FnE := { run := fun args hs k => (F args hs).run k }
theorem treeE_ok {P : Program} {Γ : Nat → Option AV} {f : FuncId} {g : FnE} {F : List AV → LHp → Tq} (h : FnE.OK P Γ f g)
    (eq : ∀ args hs p, (F args hs).run (fun a h => some (a, h)) = some p → g.run args hs (fun a h => some (a, h)) = some p) : FnE.OK P Γ f (treeE F) :=
  FnE.OK.of h (fun _ _ _ => Tq.eq _ _) fun args hs ae hs' hr => eq args hs _ hr

end Go.Vm
