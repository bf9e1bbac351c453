/- Part T of the abstract machine: functions without a body. -/
import Derived.Test.YtnkhoojomojbpaaGreatDoorK21
import Derived.Lib.Bytealg
namespace Go.Vm
theorem kW {P : Program} {f : FuncId} {fn : Func} {row : Array Value -> Sem Value} (hf : P.funcs[f]? = some fn) (hb : fn.body.isNone = true) (hn : (fn.name == "runtime.NumGoroutine") = false) (hx : Extern.findNext fn = none) (hr : Extern.find fn = some row) (vals : Array Value) (w w' : World) {v : Value}
  (h : (row vals).run P w = .ok v w') : (callFunc f vals).run P w = .ok (.value v) w' := by
 rw [run_callFunc_extern hf hn hb hx hr, h]; rfl
def xB : kU := { run := fun args k => match args with
 | [.d .str l, .d (.int .u8) c] => bif 0 <= c && c < 256 then k (.d (.int .i64) (Lib.countByte l c.toNat.toUInt8 : Int)) else none
 | _ => none }
def kX : kU := { run := fun args k => match args with
 | [.d .str l, .d (.int .u8) c] => bif 0 <= c && c < 256 then k (.d (.int .i64) (Lib.indexByte l c.toNat.toUInt8)) else none
 | _ => none }
theorem Au {w : World} {im : Nat -> Prop} {μ : Mu} {hp : Hp} {a b : AV} {vals : List Value} (hl : vals.length = [a, b].length) (h : ∀ (i : Nat) (x : AV) (v : Value), [a, b][i]? = some x -> vals[i]? = some v -> bo w im μ hp x v) : ∃ u v, vals = [u, v] /\ bo w im μ hp a u /\ bo w im μ hp b v := by
 match vals, hl with
 | [u, v], _ => exact ⟨u, v, rfl, h 0 a u rfl rfl, h 1 b v rfl rfl⟩
theorem ri {w : World} {im : Nat -> Prop} {μ : Mu} {hp : Hp} {a : AV} {vals : List Value} (hl : vals.length = [a].length) (h : ∀ (i : Nat) (x : AV) (v : Value), [a][i]? = some x -> vals[i]? = some v -> bo w im μ hp x v) : ∃ u, vals = [u] /\ bo w im μ hp a u := by
 match vals, hl with
 | [u], _ => exact ⟨u, rfl, h 0 a u rfl rfl⟩
theorem H5 {P : Program} {f : FuncId} {fn : Func} (hf : P.funcs[f]? = some fn) (hb : fn.body.isNone = true) (hn : (fn.name == "runtime.NumGoroutine") = false) (hx : Extern.findNext fn = none) (hr : Extern.find fn = some Extern.BytealgCount.count) : kU.OK P f xB := by
 refine ⟨fun args k => by
  simp only [xB]
  split
  ·rename_i l c
   cases decide (0 <= c) && decide (c < 256) <;> rfl
  ·rfl, fun args k r h => ?_⟩
 simp only [xB] at h
 split at h
 ·rename_i l c
  cases hc : (decide (0 <= c) && decide (c < 256)) with
  | false => rw [hc] at h; cases h
  | true =>
   rw [hc] at h
   refine ⟨_, h, fun w im μ hp vals hl hv => ?_⟩
   obtain ⟨u, v, rfl, h1, h2⟩ := Au hl hv
   have e1 := bu (u := .string ⟨l.toArray⟩) rfl h1
   have e2 := bu (u := .int .u8 c) rfl h2
   subst e1 e2
   exact ⟨.int .i64 (Lib.countByte l c.toNat.toUInt8 : Int), w, kW hf hb hn hx hr _ w w (Lib.run_countString _ _ _), rfl, rfl, rfl, rfl, aP _ _ _ _ (.int .i64 _)⟩
 ·cases h
theorem uM {P : Program} {f : FuncId} {fn : Func} (hf : P.funcs[f]? = some fn) (hb : fn.body.isNone = true) (hn : (fn.name == "runtime.NumGoroutine") = false) (hx : Extern.findNext fn = none) (hr : Extern.find fn = some Extern.BytealgIndexByte.indexByte) : kU.OK P f kX := by
 refine ⟨fun args k => by
  simp only [kX]
  split
  ·rename_i l c
   cases decide (0 <= c) && decide (c < 256) <;> rfl
  ·rfl, fun args k r h => ?_⟩
 simp only [kX] at h
 split at h
 ·rename_i l c
  cases hc : (decide (0 <= c) && decide (c < 256)) with
  | false => rw [hc] at h; cases h
  | true =>
   rw [hc] at h
   refine ⟨_, h, fun w im μ hp vals hl hv => ?_⟩
   obtain ⟨u, v, rfl, h1, h2⟩ := Au hl hv
   have e1 := bu (u := .string ⟨l.toArray⟩) rfl h1
   have e2 := bu (u := .int .u8 c) rfl h2
   subst e1 e2
   refine ⟨.int .i64 (Lib.indexByte l c.toNat.toUInt8), w, kW hf hb hn hx hr _ w w ?_, rfl, rfl, rfl, rfl, aP _ _ _ _ (.int .i64 _)⟩
   exact Lib.run_indexByteString _ _ _
 ·cases h
end Go.Vm
