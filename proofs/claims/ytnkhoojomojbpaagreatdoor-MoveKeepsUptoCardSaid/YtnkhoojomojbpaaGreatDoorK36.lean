/- Part WG of the abstract machine: arguments that hold slices: from their reading to data (RepD), and back behind the call. -/
import Derived.Test.YtnkhoojomojbpaaGreatDoorK28
import Derived.Test.YtnkhoojomojbpaaGreatDoorK35
import Derived.Carry
namespace Go.Vm
open Go.ChangeShapes Go.WideShapes Go.RowKit
mutual
/-- the program's type t is τ -/
def readTy (P : Program) : Ty -> TypeId -> Bool
  | .int k, t => (match P.underlying t with | some (.int k') => decide (k' = k) | _ => false)
  | .bool, t => (match P.underlying t with | some .bool => true | _ => false)
  | .str, t => (match P.underlying t with | some .string => true | _ => false)
  | .flt _, _ => false
  | .unit, _ => false
  | .slice e, t => (match P.underlying t with | some (.slice u) => Nat.beq (P.cellsOf u) e.size && Nat.ble 1 e.size && readTy P e u | _ => false)
  | .arr _ _, _ => false
  | .pair a b, t => (match P.underlying t with
    | some (.struct fs) => Nat.beq (P.cellsOf t) (a.size + b.size) && (match fs.toList with | f :: r => Nat.beq f.offset 0 && Nat.beq (P.cellsOf f.type) a.size && readTy P a f.type && readFs P b a.size r | [] => false)
    | _ => false)
def readFs (P : Program) : Ty -> Nat -> List Field -> Bool
  | .unit, _, fs => fs.isEmpty
  | .pair a b, off, fs => (match fs with | f :: r => Nat.beq f.offset off && Nat.beq (P.cellsOf f.type) a.size && readTy P a f.type && readFs P b (off + a.size) r | [] => false)
  | _, _, _ => false
end
def WfD : (t : Ty) -> t.den -> Prop
 | .int k, n => (Lit.int k n).wf = true
 | .bool, _ => True
 | .str, s => s.length <= maxLen
 | .flt _, _ => True
 | .slice e, xs => xs.length <= maxLen /\ ∀ x ∈ xs, WfD e x
 | .unit, _ => True
 | .pair a b, x => WfD a x.1 /\ WfD b x.2
 | .arr _ e, xs => ∀ x ∈ xs, WfD e x
theorem Fl {α : Type} {w : World} {a : Addr} {sz : Nat} {F : List Value -> α -> Prop} {G : α -> Prop} : ∀ (n i0 : Nat), (∀ i, i0 <= i -> i < i0 + n -> ∃ cs z, w.cells? 0 (a.add (i * sz)) sz = some cs /\ F cs z /\ G z) ->
  ∃ (cs : List Value) (zs : List α), zs.length = n /\ aR F cs zs /\ (∀ z ∈ zs, G z) /\ cs.length = n * sz /\ ∀ i j, i < n -> j < sz -> w.cell? ((a.add ((i0 + i) * sz)).add j) = cs[i * sz + j]?
 | 0, _, _ => ⟨[], [], rfl, rfl, fun _ h => (by cases h), by simp, fun i j h => (by omega)⟩
 | n + 1, i0, h => by
  obtain ⟨c, z, hc, hf, hg⟩ := h i0 (Nat.le_refl _) (by omega)
  obtain ⟨cs, zs, h1, h2, h3, h4, h5⟩ := Fl n (i0 + 1) fun i hi fc => h i (by omega) (by omega)
  obtain ⟨_, hl, hcell⟩ := World.cells?_some hc
  refine ⟨c ++ cs, z :: zs, by simp [h1], ⟨c, cs, rfl, hf, h2⟩, fun y hy => ?_, by rw [List.length_append, hl, h4, Nat.add_mul]; omega, fun i j hi hj => ?_⟩
  ·rcases List.mem_cons.1 hy with rfl | hy
   ·exact hg
   ·exact h3 y hy
  ·cases i with
   | zero =>
    rw [Nat.add_zero, hcell j hj, Nat.zero_mul, Nat.zero_add, List.getElem?_append_left (by omega)]
   | succ i =>
    have := h5 i j (by omega) hj
    rw [show i0 + (i + 1) = i0 + 1 + i by omega, this, List.getElem?_append_right (by rw [hl, Nat.add_mul]; omega), hl, Nat.add_mul, Nat.one_mul]
    congr 1
    omega
section
variable {H : Type} {enc : TypeId × Value -> H} {P : Program} {w : World} {sp : Nat -> Bool} {held : Bool}
theorem QG {a : Addr} {v : Value} (h : w.cell? a = some v) : a.block < w.heap.size := by
 rcases Nat.lt_or_ge a.block w.heap.size with bJ | uA
 ·exact bJ
 ·simp [World.cell?, Array.getElem?_eq_none uA] at h
end
theorem oy.same {W W' : World} (h : oy W W') {p : MemPlace} (hp : p.block < W.heap.size) : W.sameAt W' p := by
 cases p with
 | cell b off => exact h.cell (a := ⟨b, off, none⟩) hp
 | map b => exact h.old b hp
theorem oy.trodAll {H : Type} {enc : TypeId × Value -> H} {P : Program} (hl : laidOutB P = true) {W W' : World} (hk : oy W W') {sp : Nat -> Bool} : ∀ {ts : List TypeId} {vs : List Value} {ds : List (DataW H)} {ps : List MemPlace},
  (∀ t ∈ ts, P.readableRec t = true /\ t < P.types.size) -> (∀ p ∈ ps, p.block < W.heap.size) -> (∀ p ∈ ps, sp p.block = true) -> DataW.TrodAll enc P W 0 (fun _ => true) true ts vs ds ps -> DataW.TrodAll enc P W' 0 sp true ts vs ds ps
 | [], [], [], _, _, _, _, h => h
 | _ :: _, _ :: _, _ :: _, _, ht, hp, hs, ⟨p, q, h1, h2, e⟩ =>
  ⟨p, q, WideElems.Trod_stays hl (ht _ (List.mem_cons.2 (Or.inl rfl))).1 (ht _ (List.mem_cons.2 (Or.inl rfl))).2 h1 (fun x hx => hk.same (hp x (by rw [e]; exact List.mem_append_left _ hx))) (fun x hx => hs x (by rw [e]; exact List.mem_append_left _ hx)),
   oy.trodAll hl hk (fun t h => ht t (List.mem_cons.2 (Or.inr h))) (fun x hx => hp x (by rw [e]; exact List.mem_append_right _ hx)) (fun x hx => hs x (by rw [e]; exact List.mem_append_right _ hx)) h2, e⟩
 | [], _ :: _, _, _, _, _, _, h => h.elim
 | [], [], _ :: _, _, _, _, _, h => h.elim
 | _ :: _, [], _, _, _, _, _, h => h.elim
 | _ :: _, _ :: _, [], _, _, _, _, h => h.elim
theorem Ic {H : Type} {enc : TypeId × Value -> H} {P : Program} {f : Func} {s : ChangeSpec} {apart fresh handsOn again : Bool} {W W' : World} {args : Array Value} {v : Value} {ds gs : List (DataW H)} {before : List MemPlace}
  (hl : laidOutB P = true) (ht : ∀ t ∈ f.params.toList, P.readableRec t = true /\ t < P.types.size)
  (hW : DataW.Whole enc P f.params.toList s.vars apart W args.toList ds gs before) (bJ : ∀ p ∈ before, p.block < W.heap.size) (hv0 : s.vars = [])
  (hres : ∀ (b : Nat) (sp : Nat -> Bool) (hd : Bool), DataW.TrodAll enc P W' b sp hd f.resultTypes.toList (v.resultList f.resultTypes.size) (s.fn H (ds ++ gs)).results [])
  (hargs : (s.fn H (ds ++ gs)).args = ds) (hvars : (s.fn H (ds ++ gs)).vars = [])
  (hk : oy W W')
  (JY : ∀ (j : Nat) (t : TypeId) (r : Value), f.resultTypes[j]? = some t -> (v.resultList f.resultTypes.size)[j]? = some r -> Value.okWide P W' .any 0 t r) :
  s.post enc P f apart fresh handsOn again W args v W' := by
 have hW' := hW
 obtain ⟨p, q, hA, hV, rfl, hfz, hnd⟩ := hW
 obtain ⟨rfl, rfl⟩ : gs = [] /\ q = [] := by
  rw [hv0] at hV
  cases gs with
  | nil => exact ⟨rfl, hV⟩
  | cons _ _ => exact hV.elim
 simp only [List.append_nil] at bJ hfz hnd
 have hA1 : ∀ sp : Nat -> Bool, (∀ b, b < W.heap.size -> sp b = true) -> DataW.TrodAll enc P W' 0 sp true f.params.toList args.toList ds p :=
  fun sp hs => hk.trodAll hl ht bJ (fun x hx => hs _ (bJ x hx)) hA
 have hV1 : ∀ sp : Nat -> Bool, DataW.TrodVars enc P W' sp s.vars ([] : List (DataW H)) [] := by
  intro sp
  rw [hv0]
  rfl
 refine ⟨ds, [], p ++ [], [], p, [], hW', hres _ _ _, ?_, ?_, hk.frame _, fun _ => ⟨JY, (s.fn H (ds ++ [])).results ++ ds, [], p, ⟨p, [], ?_, hV1 _, by simp, ?_, ?_⟩, fun x hx _ => by simpa using hx⟩⟩
 ·rw [hargs]
  exact hA1 _ fun b hb => by simpa using hb
 ·rw [hvars]
  exact hV1 _
 ·exact trodAll_append (hA1 _ fun _ _ => rfl) (hres _ _ _)
 ·intro b off hb
  rw [hk.frozen (bJ _ hb)]
  exact hfz b off hb
 ·intro ha
  exact hnd ha
end Go.Vm
