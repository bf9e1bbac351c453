/- Part WJ of the abstract machine: square roots and floors of doubles. -/
import Derived.Test.YtnkhoojomojbpaaGreatDoorK27
import Derived.Test.YtnkhoojomojbpaaGreatDoorK36
namespace Go.Vm
theorem AO {d : Ieee.Datum} {n : Nat} (h : d.isNaN = true) : d.root n = none := by
 cases d with
 | nan s t => rfl
 | number s m i => cases h
 | infinity s => cases h
theorem DT (x : Nat) : FloatKind.f64.format.sqrt x = FloatKind.f64.format.sqrt (ca .f64 x) := by
 unfold Ieee.Format.sqrt
 rcases kS .f64 x with h | ⟨h1, h2⟩
 ·rw [h]
 ·rw [AO h1, AO h2]
def V6 (x : Nat) : Nat := match FloatKind.f64.format.sqrt x with | some z => ca .f64 z | none => J8 .f64
def Fm : kU := { run := fun args k => match args with
 | [.d (.flt .f64) x] => k (.d (.flt .f64) (V6 x))
 | _ => none }
theorem AP (r : Nat) : Extern.MathSqrt.sqrt #[.float .f64 r] = (match FloatKind.f64.format.sqrt r with | some z => pure (.float .f64 z) | none => do pure (.float .f64 (← choose (.nanBits .f64 r r)))) := rfl
theorem Ie (nm : String) (r : Nat) (hn : (FloatKind.f64.format.read r).isNaN = false) : Extern.MathFloor.toIntegral nm .down #[.float .f64 r] = pure (.float .f64 (FloatKind.f64.encode ((FloatKind.f64.decode r).integral .down))) := by
 show (match FloatKind.f64.decode r with
  | .nan s t => _
  | d => _) = _
 cases hd : FloatKind.f64.decode r with
 | nan s t => exact absurd (show (FloatKind.f64.format.read r).isNaN = true by rw [show FloatKind.f64.format.read r = .nan s t from hd]; rfl) (by rw [hn]; decide)
 | number s m i => rfl
 | infinity s => rfl
theorem KX {P : Program} {f : FuncId} {fn : Func} (hf : P.funcs[f]? = some fn) (hb : fn.body.isNone = true) (hn : (fn.name == "runtime.NumGoroutine") = false) (hx : Extern.findNext fn = none) (hr : Extern.find fn = some Extern.MathSqrt.sqrt) : kU.OK P f Fm := by
 refine ⟨fun args k => by
  simp only [Fm]
  split <;> rfl, fun args k r h => ?_⟩
 simp only [Fm] at h
 split at h
 ·rename_i x
  refine ⟨_, h, fun w im μ hp vals hl hv => ?_⟩
  obtain ⟨u, rfl, h1⟩ := ri hl hv
  obtain ⟨r1, rfl, c1⟩ := kR h1
  have hc := DT r1
  rw [c1] at hc
  unfold V6
  rw [← hc]
  cases hq : FloatKind.f64.format.sqrt r1 with
  | some z =>
   refine ⟨.float .f64 z, w, kW hf hb hn hx hr _ w w ?_, rfl, rfl, rfl, rfl, ?_⟩
   ·show (Extern.MathSqrt.sqrt #[.float .f64 r1]).run P w = _
    rw [AP, hq]; rfl
   ·exact ⟨⟨_, rfl, rfl⟩, rfl⟩
  | none =>
   refine ⟨.float .f64 ((Question.nanBits .f64 r1 r1).cut (w.tape w.drawn (.nanBits .f64 r1 r1))), { w with drawn := w.drawn + 1 }, kW hf hb hn hx hr _ w _ ?_, rfl, rfl, rfl, rfl, ?_⟩
   ·show (Extern.MathSqrt.sqrt #[.float .f64 r1]).run P w = _
    rw [AP, hq]; rfl
   ·exact ⟨⟨_, rfl, E6 _ _ _ _⟩, rfl⟩
 ·cases h
def XL (x : Nat) : Nat := ca .f64 (FloatKind.f64.encode ((FloatKind.f64.decode x).integral .down))
def xG : kU := { run := fun args k => match args with
 | [.d (.flt .f64) x] => bif (FloatKind.f64.format.read x).isNaN then none else k (.d (.flt .f64) (XL x))
 | _ => none }
theorem Ig {P : Program} {f : FuncId} {fn : Func} (hf : P.funcs[f]? = some fn) (hb : fn.body.isNone = true) (hn : (fn.name == "runtime.NumGoroutine") = false) (hx : Extern.findNext fn = none) (hr : Extern.find fn = some (Extern.MathFloor.toIntegral "math.archFloor" .down)) : kU.OK P f xG := by
 refine ⟨fun args k => by
  simp only [xG]
  split
  ·rename_i x
   cases (FloatKind.f64.format.read x).isNaN <;> rfl
  ·rfl, fun args k r h => ?_⟩
 simp only [xG] at h
 split at h
 ·rename_i x
  cases hc : (FloatKind.f64.format.read x).isNaN with
  | true => rw [hc] at h; cases h
  | false =>
   rw [hc] at h
   refine ⟨_, h, fun w im μ hp vals hl hv => ?_⟩
   obtain ⟨u, rfl, h1⟩ := ri hl hv
   obtain ⟨r1, rfl, c1⟩ := kR h1
   have er : r1 = x := by
    rcases kS .f64 r1 with h2 | ⟨_, h3⟩
    ·rw [← c1, h2]
    ·rw [c1, hc] at h3; cases h3
   subst er
   refine ⟨.float .f64 (FloatKind.f64.encode ((FloatKind.f64.decode r1).integral .down)), w, kW hf hb hn hx hr _ w w ?_, rfl, rfl, rfl, rfl, ⟨⟨_, rfl, rfl⟩, rfl⟩⟩
   show (Extern.MathFloor.toIntegral "math.archFloor" .down #[.float .f64 r1]).run P w = _
   rw [Ie _ _ hc]
   rfl
 ·cases h
end Go.Vm
