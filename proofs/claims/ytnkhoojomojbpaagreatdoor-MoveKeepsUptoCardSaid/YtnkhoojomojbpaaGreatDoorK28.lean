/- Part WA of the abstract machine: from a function's run to what a row asks of it: its memory is kept, the globals that it reads hold their list. -/
import Derived.Test.YtnkhoojomojbpaaGreatDoorK25
import Derived.Deep.DeepHandedRow
import Derived.LaidLaws
import Derived.Lib.LaidTab
import Derived.OpenShut
import Derived.RowKit3
namespace Go.Vm
open Go.ChangeShapes Go.WideShapes
structure oy (W w' : World) : Prop where
 os : w'.os = W.os
 output : w'.output = W.output
 grow : W.heap.size <= w'.heap.size
 old : ∀ b, b < W.heap.size -> w'.heap[b]? = W.heap[b]?
theorem oy.frame {W w' : World} (h : oy W w') (may : MemPlace -> Prop) : W.keptBut w' may := by
 refine ⟨h.os, h.output, fun i hi => ?_⟩
 rw [h.old i hi]
 split <;> simp_all
theorem oy.frozen {W w' : World} (h : oy W w') {a : Addr} (ha : a.block < W.heap.size) : w'.frozen? a = W.frozen? a := by
 unfold World.frozen?
 rw [h.old _ ha]
theorem oy.cell {W w' : World} (h : oy W w') {a : Addr} (ha : a.block < W.heap.size) : w'.cell? a = W.cell? a :=
 World.cell?_of_block (h.old _ ha)
theorem FnH.mono {P : Program} {Γ : Nat -> Option AV} {f : FuncId} {args : List AV} {h0 : Hp} {R R' : aq -> Hp -> Prop} (h : FnH P Γ f args h0 R) (hr : ∀ ae h1, R ae h1 -> R' ae h1) : FnH P Γ f args h0 R' :=
 ⟨h.1, fun W im μ vals a b c d => Calls.mono (h.2 W im μ vals a b c d) fun _ _ ⟨ae, h1, bI, bh, k, s⟩ => ⟨ae, h1, bI, bh, hr _ _ k, s⟩⟩
theorem DP {P : Program} {Γ : Nat -> Option AV} {f : FuncId} {args : List AV} (h : FnH P Γ f args (aA []) fun ae _ => ae = .ret [.d .bool true])
  {W : World} {im : Nat -> Prop} {vals : List Value} (iC : ∀ b, im b -> b < W.heap.size) (hg : kT Γ W im) (ha : RepFs W im (fun _ => .none) (aA []) args vals) :
  Calls P f vals.toArray W fun e w' => e = .returned (.bool true) /\ oy W w' := by
 have hI : jR W im (fun _ => .none) (aA []) := ⟨fun _ _ h => (by cases h), fun _ _ _ h => (by cases h), fun _ _ => rfl, fun _ _ h => (by cases h)⟩
 refine Calls.mono (h.2 W im (fun _ => .none) vals iC hg hI ha) ?_
 rintro e w' ⟨ae, h1, bI, bh, rfl, hs, he⟩
 obtain ⟨v, rfl, h2, h3⟩ := he
 refine ⟨?_, hs.os, hs.output, hs.grow, fun b hb => hs.old b hb (fun o ho => by cases ho)⟩
 have zo : v.cells.toList = [.bool true] := h2
 have h3' : aY v = false := h3
 cases v <;> simp_all [Value.cells, aY]
def rk {H : Type} (xs : List (ak)) : DataW H := .agg (xs.map fun x => .lit (.string x))
theorem uN {H : Type} {enc : TypeId × Value -> H} {P : Program} {w : World} {base : Nat} {sp : Nat -> Bool} {held : Bool} {fuel : Nat} {t e : TypeId} {n : Nat} {cs : List Value} {zs : List (ak)} {p : List MemPlace}
  (ht : P.underlying t = some (.array n e)) (he : P.underlying e = some .string) (hce : P.cellsOf e = 1) (hct : P.cellsOf t = n)
  (h : DataW.trod enc P w base sp held fuel t cs = some (rk zs, p)) : zs.length = n /\ cs = zs.map fun z => Value.string ⟨z.toArray⟩ := by
 cases fuel with
 | zero => simp [DataW.trod] at h
 | succ fuel =>
  simp only [DataW.trod, ht, hce, hct, Nat.mul_one] at h
  split at h
  ·rename_i hl
   obtain ⟨xs, hm, hx⟩ := Option.map_eq_some_iff.1 h
   have hxs : xs.map (·.1) = zs.map fun z => (DataW.lit (.string z) : DataW H) := by
    have := congrArg Prod.fst hx
    simpa [rk] using this
   have hxl : xs.length = n := by simpa using Lib.mapM_length hm
   have hzl : zs.length = n := by
    have := congrArg List.length hxs
    simp at this
    omega
   refine ⟨hzl, ?_⟩
   apply List.ext_getElem?
   intro i
   by_cases hi : i < n
   ·obtain ⟨b, hb, hf⟩ := Lib.mapM_at hm i i (by simp [hi])
    obtain ⟨z, hc, rfl, _⟩ := DataW.trod_string he hf
    have h1 : cs[i]? = some (.string z) := by
     have := congrArg (·[0]?) hc
     simpa [List.getElem?_take, List.getElem?_drop] using this
    have h2 : (xs.map (·.1))[i]? = some (DataW.lit (.string z.data.toList) : DataW H) := by simp [hb]
    rw [hxs] at h2
    simp only [List.getElem?_map, Option.map_eq_some_iff, DataW.lit.injEq, Lit.string.injEq] at h2
    obtain ⟨z', P0, rfl⟩ := h2
    simp [h1, P0]
   ·rw [List.getElem?_eq_none (by omega), List.getElem?_eq_none (by simp; omega)]
  ·cases h
theorem Ay {w : World} {im : Nat -> Prop} : ∀ zs : List (ak), aR (aM w im .str) (zs.map fun z => Value.string ⟨z.toArray⟩) zs
 | [] => rfl
 | z :: zs => ⟨[.string ⟨z.toArray⟩], _, rfl, rfl, Ay zs⟩
theorem uO {P : Program} {w : World} {x : String × DataW Unit} {l : List (String × DataW Unit)} {ps : List MemPlace} (h : DataW.LaidVars P w (x :: l) ps) : ∃ q, DataW.LaidVars P w l q := by
 obtain ⟨_, _, _, _, _, q, _, _, _, _, h, _⟩ := h
 exact ⟨q, h⟩
theorem H9 {P : Program} {W : World} {name : String} {zs : List (ak)} {rest : List (String × DataW Unit)} {g : Nat} {t e : TypeId} {n : Nat} {ps : List MemPlace}
  (hg : P.globalNamed name = some g) (hty : (P.globals[g]?).map (·.type) = some t) (ht : P.underlying t = some (.array n e)) (he : P.underlying e = some .string) (hce : P.cellsOf e = 1) (hct : P.cellsOf t = n) (hn : 0 < n)
  (h : DataW.LaidVars P W ((name, rk zs) :: rest) ps) : g < W.heap.size /\ ∀ im : Nat -> Prop, im g -> bo W im (fun _ => .none) (fun _ => none) (.ip (.arr n .str) zs) (.pointer (some ⟨g, 0, none⟩)) := by
 obtain ⟨g', t', cs, fuel, p, q, PI, ht', hvar, hd, _, _⟩ := h
 obtain rfl := Option.some.inj (hg.symm.trans PI)
 obtain rfl := Option.some.inj (hty.symm.trans ht')
 obtain ⟨hl, pw⟩ := uN ht he hce hct hd
 have hcell : bX W g 0 cs.toList := fun j v hj => by
  have := World.var?_cell hg hvar j
  rw [Nat.zero_add, this]
  simpa using hj
 refine ⟨?_, fun im iC => ⟨⟨g, 0, rfl, iC, cs.toList, hcell, hl, by rw [pw]; exact Ay zs⟩, rfl⟩⟩
 rcases Nat.lt_or_ge g W.heap.size with bJ | uA
 ·exact bJ
 ·have h0 : ∃ v, cs.toList[0]? = some v := by
   rw [pw]
   exact ⟨_, List.getElem?_eq_getElem (by simp; omega)⟩
  obtain ⟨v, hv⟩ := h0
  have := hcell 0 v hv
  simp [World.cell?, Array.getElem?_eq_none uA] at this
mutual
def flatD : DataW Unit -> List Value
  | .lit (.int k n) => [.int k n]
  | .lit (.string b) => [.string ⟨b.toArray⟩]
  | .lit (.bool b) => [.bool b]
  | .agg ps => flatDs ps
  | _ => []
def flatDs : List (DataW Unit) -> List Value
  | [] => []
  | d :: r => flatD d ++ flatDs r
end
def XI (d : DataW Unit) : Obj -> Obj
 | .cells _ t frozen => .cells (flatD d).toArray t frozen
 | o => o
def DQ (P : Program) (w : World) : List (String × DataW Unit) -> World
 | [] => w
 | (n, d) :: r =>
  match P.globalNamed n with
  | some g => DQ P { w with heap := w.heap.modify g (XI d) } r
  | none => DQ P w r
end Go.Vm
