/- Part WB of the abstract machine: numbers as words, words as numbers (math.Float32bits and its like); answers of functions as trees. -/
import Derived.Test.YtnkhoojomojbpaaGreatDoorK22
import Derived.Test.YtnkhoojomojbpaaGreatDoorK26
namespace Go.Vm
def kv (fk : FloatKind) (ik : IntKind) : kU := { run := fun args k => match args with
 | [.d (.int i) n] => bif decide (i = ik) then k (.d (.flt fk) (ca fk n.toNat)) else none
 | _ => none }
def Aw (fk : FloatKind) (ik : IntKind) : kU := { run := fun args k => match args with
 | [.d (.flt f) b] => bif decide (f = fk) then (bif zp fk b then none else k (.d (.int ik) (b : Int))) else none
 | _ => none }
theorem ox {P : Program} {f : FuncId} {fn : Func} {fk : FloatKind} {ik : IntKind} {row : Array Value -> Sem Value} (hrow : ∀ n, row #[.int ik n] = pure (.float fk n.toNat)) (hf : P.funcs[f]? = some fn) (hb : fn.body.isNone = true) (hn : (fn.name == "runtime.NumGoroutine") = false) (hx : Extern.findNext fn = none) (hr : Extern.find fn = some row) : kU.OK P f (kv fk ik) := by
 refine ⟨fun args k => by
  simp only [kv]
  split
  ·rename_i i n
   cases decide (i = ik) <;> rfl
  ·rfl, fun args k r h => ?_⟩
 simp only [kv] at h
 split at h
 ·rename_i i n
  cases hc : decide (i = ik) with
  | false => rw [hc] at h; cases h
  | true =>
   rw [hc] at h
   obtain rfl := aU hc
   refine ⟨_, h, fun w im μ hp vals hl hv => ?_⟩
   obtain ⟨u, rfl, h1⟩ := ri hl hv
   have e1 := bu (u := .int i n) rfl h1
   subst e1
   refine ⟨.float fk n.toNat, w, kW hf hb hn hx hr _ w w ?_, rfl, rfl, rfl, rfl, ?_⟩
   ·rw [hrow]; rfl
   ·exact ⟨⟨_, rfl, rfl⟩, rfl⟩
 ·cases h
theorem Ax {P : Program} {f : FuncId} {fn : Func} {fk : FloatKind} {ik : IntKind} {row : Array Value -> Sem Value} (hrow : ∀ n, row #[.float fk n] = pure (.int ik n)) (hf : P.funcs[f]? = some fn) (hb : fn.body.isNone = true) (hn : (fn.name == "runtime.NumGoroutine") = false) (hx : Extern.findNext fn = none) (hr : Extern.find fn = some row) : kU.OK P f (Aw fk ik) := by
 refine ⟨fun args k => by
  simp only [Aw]
  split
  ·rename_i i n
   cases decide (i = fk) <;> cases zp fk n <;> rfl
  ·rfl, fun args k r h => ?_⟩
 simp only [Aw] at h
 split at h
 ·rename_i g b
  cases hc : decide (g = fk) with
  | false => rw [hc] at h; cases h
  | true =>
   rw [hc] at h
   obtain rfl := aU hc
   simp only [ai] at h
   cases hq : zp g b with
   | true => rw [hq] at h; cases h
   | false =>
    rw [hq] at h
    refine ⟨_, h, fun w im μ hp vals hl hv => ?_⟩
    obtain ⟨u, rfl, h1⟩ := ri hl hv
    obtain ⟨⟨q, h2, h3⟩, h4⟩ := h1
    have hq' : q = b := by
     unfold ca at h3
     cases zj : zp g q with
     | true =>
      rw [if_pos zj] at h3
      subst h3
      cases g <;> exact absurd hq (by decide)
     | false => rw [zj] at h3; simpa using h3
    subst hq'
    have e1 : u = .float g q := by
     cases u <;> simp_all [Value.cells, aY, AV.isAgg, Ty.isAgg]
    subst e1
    refine ⟨.int ik q, w, kW hf hb hn hx hr _ w w ?_, rfl, rfl, rfl, rfl, aP _ _ _ _ (.int ik _)⟩
    rw [hrow]; rfl
 ·cases h
inductive Tq : Type 1 where
 | leaf (a : aq) (h : LHp)
 | br (c : Bool) (a b : Tq)
 | opt {α : Type} (x : Option α) (f : α -> Tq)
 | no
def Tq.run {R : Type} : Tq -> (aq -> LHp -> Option R) -> Option R
 | .leaf a h, k => k a h
 | .br c a b, k => bif c then a.run k else b.run k
 | .opt x f, k => x.bind fun v => (f v).run k
 | .no, _ => none
theorem Tq.eq : ∀ (t : Tq) {R : Type} (k : aq -> LHp -> Option R), t.run k = (t.run fun a h => some (a, h)).bind fun p => k p.1 p.2
 | .leaf _ _, _, _ => rfl
 | .br c a b, _, k => by
  cases c with
  | true => exact Tq.eq a k
  | false => exact Tq.eq b k
 | .opt x f, _, k => by
  cases x with
  | none => rfl
  | some v => exact Tq.eq (f v) k
 | .no, _, _ => rfl
theorem Tq.br_no {R : Type} {c : Bool} {t : Tq} {k : aq -> LHp -> Option R} {r : R} (h : (Tq.br c t .no).run k = some r) : c = true /\ t.run k = some r := by
 cases c with
 | true => exact ⟨rfl, h⟩
 | false => cases h
def ao (F : List AV -> LHp -> Tq) : FnE := { run := fun args hs k => (F args hs).run k }
theorem KO {P : Program} {Γ : Nat -> Option AV} {f : FuncId} {g : FnE} {F : List AV -> LHp -> Tq} (h : FnE.OK P Γ f g)
  (eq : ∀ args hs p, (F args hs).run (fun a h => some (a, h)) = some p -> g.run args hs (fun a h => some (a, h)) = some p) : FnE.OK P Γ f (ao F) :=
 FnE.OK.of h (fun _ _ _ => Tq.eq _ _) fun args hs ae aH hr => eq args hs _ hr
end Go.Vm
