/- Part WJ of the abstract machine: square roots and floors of doubles. -/
import Derived.Test.YtnkhoojomojbpaaGreatDoorQ27
import Derived.Test.YtnkhoojomojbpaaGreatDoorQ36
namespace Go.Vm
theorem A8 {d : Ieee.Datum} {n : Nat} (h : d.isNaN = true) : d.root n = none := by
 cases d with
 | nan s t => rfl
 | number s m i => cases h
 | infinity s => cases h
theorem D8 (x : Nat) : FloatKind.f64.format.sqrt x = FloatKind.f64.format.sqrt (aI .f64 x) := by
 unfold Ieee.Format.sqrt
 rcases jh .f64 x with h | ⟨h1, h2⟩
 ·rw [h]
 ·rw [A8 h1, A8 h2]
def V8 (x : Nat) : Nat := match FloatKind.f64.format.sqrt x with | some z => aI .f64 z | none => Ke .f64
def Ft : lI := { run := fun args k => match args with
 | [.d (.flt .f64) x] => k (.d (.flt .f64) (V8 x))
 | _ => none }
theorem A9 (r : Nat) : Extern.MathSqrt.sqrt #[.float .f64 r] = (match FloatKind.f64.format.sqrt r with | some z => pure (.float .f64 z) | none => do pure (.float .f64 (← choose (.nanBits .f64 r r)))) := rfl
theorem Ip (nm : String) (r : Nat) (hn : (FloatKind.f64.format.read r).isNaN = false) : Extern.MathFloor.toIntegral nm .down #[.float .f64 r] = pure (.float .f64 (FloatKind.f64.encode ((FloatKind.f64.decode r).integral .down))) := by
 show (match FloatKind.f64.decode r with
  | .nan s t => _
  | d => _) = _
 cases hd : FloatKind.f64.decode r with
 | nan s t => exact absurd (show (FloatKind.f64.format.read r).isNaN = true by rw [show FloatKind.f64.format.read r = .nan s t from hd]; rfl) (by rw [hn]; decide)
 | number s m i => rfl
 | infinity s => rfl
theorem K7 {P : Program} {f : FuncId} {fn : Func} (hf : P.funcs[f]? = some fn) (hb : fn.body.isNone = true) (hn : (fn.name == "runtime.NumGoroutine") = false) (hx : Extern.findNext fn = none) (hr : Extern.find fn = some Extern.MathSqrt.sqrt) : lI.OK P f Ft := by
 refine ⟨fun args k => by
  simp only [Ft]
  split <;> rfl, fun args k r h => ?_⟩
 simp only [Ft] at h
 split at h
 ·rename_i x
  refine ⟨_, h, fun w im μ hp vals hl hv => ?_⟩
  obtain ⟨u, rfl, h1⟩ := rX hl hv
  obtain ⟨r1, rfl, c1⟩ := lG h1
  have hc := D8 r1
  rw [c1] at hc
  unfold V8
  rw [← hc]
  cases hq : FloatKind.f64.format.sqrt r1 with
  | some z =>
   refine ⟨.float .f64 z, w, lL hf hb hn hx hr _ w w ?_, rfl, rfl, rfl, rfl, ?_⟩
   ·show (Extern.MathSqrt.sqrt #[.float .f64 r1]).run P w = _
    rw [A9, hq]; rfl
   ·exact ⟨⟨_, rfl, rfl⟩, rfl⟩
  | none =>
   refine ⟨.float .f64 ((Question.nanBits .f64 r1 r1).cut (w.tape w.drawn (.nanBits .f64 r1 r1))), { w with drawn := w.drawn + 1 }, lL hf hb hn hx hr _ w _ ?_, rfl, rfl, rfl, rfl, ?_⟩
   ·show (Extern.MathSqrt.sqrt #[.float .f64 r1]).run P w = _
    rw [A9, hq]; rfl
   ·exact ⟨⟨_, rfl, Fg _ _ _ _⟩, rfl⟩
 ·cases h
def XI (x : Nat) : Nat := aI .f64 (FloatKind.f64.encode ((FloatKind.f64.decode x).integral .down))
def yj : lI := { run := fun args k => match args with
 | [.d (.flt .f64) x] => bif (FloatKind.f64.format.read x).isNaN then none else k (.d (.flt .f64) (XI x))
 | _ => none }
theorem Iq {P : Program} {f : FuncId} {fn : Func} (hf : P.funcs[f]? = some fn) (hb : fn.body.isNone = true) (hn : (fn.name == "runtime.NumGoroutine") = false) (hx : Extern.findNext fn = none) (hr : Extern.find fn = some (Extern.MathFloor.toIntegral "math.archFloor" .down)) : lI.OK P f yj := by
 refine ⟨fun args k => by
  simp only [yj]
  split
  ·rename_i x
   cases (FloatKind.f64.format.read x).isNaN <;> rfl
  ·rfl, fun args k r h => ?_⟩
 simp only [yj] at h
 split at h
 ·rename_i x
  cases hc : (FloatKind.f64.format.read x).isNaN with
  | true => rw [hc] at h; cases h
  | false =>
   rw [hc] at h
   refine ⟨_, h, fun w im μ hp vals hl hv => ?_⟩
   obtain ⟨u, rfl, h1⟩ := rX hl hv
   obtain ⟨r1, rfl, c1⟩ := lG h1
   have er : r1 = x := by
    rcases jh .f64 r1 with h2 | ⟨_, h3⟩
    ·rw [← c1, h2]
    ·rw [c1, hc] at h3; cases h3
   subst er
   refine ⟨.float .f64 (FloatKind.f64.encode ((FloatKind.f64.decode r1).integral .down)), w, lL hf hb hn hx hr _ w w ?_, rfl, rfl, rfl, rfl, ⟨⟨_, rfl, rfl⟩, rfl⟩⟩
   show (Extern.MathFloor.toIntegral "math.archFloor" .down #[.float .f64 r1]).run P w = _
   rw [Ip _ _ hc]
   rfl
 ·cases h
end Go.Vm
