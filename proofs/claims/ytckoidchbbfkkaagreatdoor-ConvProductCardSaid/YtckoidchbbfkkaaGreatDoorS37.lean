/- Part WG of the abstract machine: arguments that hold slices: from their reading to data (RepD), and back behind the call. -/
import Derived.Test.YtckoidchbbfkkaaGreatDoorS27
import Derived.Test.YtckoidchbbfkkaaGreatDoorS36
import Derived.Carry
namespace Go.Vm
open Go.ChangeShapes Go.WideShapes Go.RowKit

mutual
/-- the program's type t is τ -/
def readTy (P : Program) : Ty → TypeId → Bool
  | .int k, t => (match P.underlying t with | some (.int k') => decide (k' = k) | _ => false)
  | .bool, t => (match P.underlying t with | some .bool => true | _ => false)
  | .str, t => (match P.underlying t with | some .string => true | _ => false)
  | .flt _, _ => false
  | .unit, _ => false
  | .slice e, t => (match P.underlying t with | some (.slice u) => Nat.beq (P.cellsOf u) e.size && Nat.ble 1 e.size && readTy P e u | _ => false)
  | .arr _ _, _ => false
  | .pair a b, t => (match P.underlying t with
    | some (.struct fs) => Nat.beq (P.cellsOf t) (a.size + b.size) && (match fs.toList with | f :: r => Nat.beq f.offset 0 && Nat.beq (P.cellsOf f.type) a.size && readTy P a f.type && readFs P b a.size r | [] => false)
    | _ => false)
def readFs (P : Program) : Ty → Nat → List Field → Bool
  | .unit, _, fs => fs.isEmpty
  | .pair a b, off, fs => (match fs with | f :: r => Nat.beq f.offset off && Nat.beq (P.cellsOf f.type) a.size && readTy P a f.type && readFs P b (off + a.size) r | [] => false)
  | _, _, _ => false
end

/-- data as it comes in: numbers within their kinds, lists no longer than can be -/
def WfD : (t : Ty) → t.den → Prop
  | .int k, n => (Lit.int k n).wf = true
  | .bool, _ => True
  | .str, s => s.length ≤ maxLen
  | .flt _, _ => True
  | .slice e, xs => xs.length ≤ maxLen ∧ ∀ x ∈ xs, WfD e x
  | .unit, _ => True
  | .pair a b, x => WfD a x.1 ∧ WfD b x.2
  | .arr _ e, xs => ∀ x ∈ xs, WfD e x

theorem rows_of {α : Type} {w : World} {a : Addr} {sz : Nat} {F : List Value → α → Prop} {G : α → Prop} : ∀ (n i0 : Nat), (∀ i, i0 ≤ i → i < i0 + n → ∃ cs z, w.cells? 0 (a.add (i * sz)) sz = some cs ∧ F cs z ∧ G z) →
    ∃ (cs : List Value) (zs : List α), zs.length = n ∧ RepL F cs zs ∧ (∀ z ∈ zs, G z) ∧ cs.length = n * sz ∧ ∀ i j, i < n → j < sz → w.cell? ((a.add ((i0 + i) * sz)).add j) = cs[i * sz + j]?
  | 0, _, _ => ⟨[], [], rfl, rfl, fun _ h => (by cases h), by simp, fun i j h => (by omega)⟩
  | n + 1, i0, h => by
    obtain ⟨c, z, hc, hf, hg⟩ := h i0 (Nat.le_refl _) (by omega)
    obtain ⟨cs, zs, h1, h2, h3, h4, h5⟩ := rows_of n (i0 + 1) fun i hi hi' => h i (by omega) (by omega)
    obtain ⟨_, hl, hcell⟩ := World.cells?_some hc
    refine ⟨c ++ cs, z :: zs, by simp [h1], ⟨c, cs, rfl, hf, h2⟩, fun y hy => ?_, by rw [List.length_append, hl, h4, Nat.add_mul]; omega, fun i j hi hj => ?_⟩
    · rcases List.mem_cons.1 hy with rfl | hy
      · exact hg
      · exact h3 y hy
    · cases i with
      | zero =>
        rw [Nat.add_zero, hcell j hj, Nat.zero_mul, Nat.zero_add, List.getElem?_append_left (by omega)]
      | succ i =>
        have := h5 i j (by omega) hj
        rw [show i0 + (i + 1) = i0 + 1 + i by omega, this, List.getElem?_append_right (by rw [hl, Nat.add_mul]; omega), hl, Nat.add_mul, Nat.one_mul]
        congr 1
        omega

section
variable {H : Type} {enc : TypeId × Value → H} {P : Program} {w : World} {sp : Nat → Bool} {held : Bool}

theorem cell_lt {a : Addr} {v : Value} (h : w.cell? a = some v) : a.block < w.heap.size := by
  rcases Nat.lt_or_ge a.block w.heap.size with hlt | hge
  · exact hlt
  · simp [World.cell?, Array.getElem?_eq_none hge] at h

mutual
theorem open_ty : ∀ (τ : Ty) (t : TypeId) (fuel : Nat) (cs : List Value) (x : DataW H × List MemPlace), readTy P τ t = true → DataW.trod enc P w 0 sp held fuel t cs = some x →
    ∃ y : τ.den, RepD w (fun b => b < w.heap.size) τ cs y ∧ WfD τ y
  | .int k, t, fuel, cs, x, hr, h => by
    simp only [readTy] at hr
    split at hr
    · rename_i k' hu
      obtain rfl := of_decide_eq_true hr
      obtain ⟨n, rfl, _, hw⟩ := DataW.trod_int hu h
      exact ⟨n, rfl, hw⟩
    · cases hr
  | .bool, t, fuel, cs, x, hr, h => by
    simp only [readTy] at hr
    split at hr
    · rename_i hu
      obtain ⟨n, rfl, _⟩ := DataW.trod_bool hu h
      exact ⟨n, rfl, trivial⟩
    · cases hr
  | .str, t, fuel, cs, x, hr, h => by
    simp only [readTy] at hr
    split at hr
    · rename_i hu
      obtain ⟨s, rfl, _, hw⟩ := DataW.trod_string hu h
      refine ⟨s.data.toList, by simp [RepD], ?_⟩
      simpa [WfD] using hw
    · cases hr
  | .flt _, _, _, _, _, hr, _ => by simp [readTy] at hr
  | .unit, _, _, _, _, hr, _ => by simp [readTy] at hr
  | .arr _ _, _, _, _, _, hr, _ => by simp [readTy] at hr
  | .slice e, t, fuel, cs, x, hr, h => by
    simp only [readTy] at hr
    split at hr
    · rename_i u hu
      simp only [Bool.and_eq_true] at hr
      obtain ⟨⟨h1, h2⟩, h3⟩ := hr
      have h1 := Nat.eq_of_beq_eq_true h1
      have h2 := Nat.le_of_ble_eq_true h2
      rcases DataW.trod_slice hu h with ⟨rfl, _⟩ | ⟨a, len, cap, elems, rest, n, _, rfl, _, _, hlc, hcm, hel, helem, _, _⟩
      · exact ⟨[], ⟨none, 0, rfl, Nat.le_refl _, by simp, fun _ => rfl, rfl⟩, by simp [WfD]⟩
      · have hall : ∀ i, 0 ≤ i → i < 0 + len → ∃ c z, w.cells? 0 (a.add (i * P.cellsOf u)) (P.cellsOf u) = some c ∧ RepD w (fun b => b < w.heap.size) e c z ∧ WfD e z := by
          intro i _ hi
          have := helem i (by omega)
          rw [List.getElem?_eq_getElem (by omega)] at this
          obtain ⟨c, hc, hx⟩ := Option.bind_eq_some_iff.1 this
          obtain ⟨z, h4, h5⟩ := open_ty e u n c _ h3 hx
          exact ⟨c, z, hc, h4, h5⟩
        obtain ⟨c, zs, hz, hrep, hg, hcl, hcell⟩ := rows_of len 0 hall
        refine ⟨zs, ⟨some a, cap, by rw [hz], by omega, hcm, fun h => (by cases h), ?_⟩, by rw [hz]; omega, hg⟩
        cases len with
        | zero => exact .inl (List.eq_nil_of_length_eq_zero hz)
        | succ len =>
          right
          have hc0 := hcell 0 0 (by omega) (by omega)
          rw [List.getElem?_eq_getElem (by rw [hcl, h1]; exact Nat.lt_of_lt_of_le (by omega) (Nat.mul_le_mul (show 1 ≤ len + 1 by omega) h2))] at hc0
          have hspot : a.spot = none := by simpa [Addr.add] using World.cell?_spot hc0
          obtain ⟨b, off, spot⟩ := a
          obtain rfl : spot = none := hspot
          have hb := cell_lt hc0
          simp only [add_plain] at hb
          refine ⟨rfl, hb, c, fun j v hj => ?_, hrep⟩
          have hj' := (List.getElem?_eq_some_iff.1 hj).1
          rw [hcl] at hj'
          have hm := Nat.div_add_mod j (P.cellsOf u)
          have := hcell (j / P.cellsOf u) (j % P.cellsOf u) (Nat.div_lt_of_lt_mul (by rw [Nat.mul_comm]; exact hj')) (Nat.mod_lt _ (by omega))
          rw [add_plain, add_plain, Nat.zero_add, Nat.mul_comm, hm, Nat.add_assoc, hm] at this
          exact this.trans hj
    · cases hr
  | .pair a b, t, fuel, cs, x, hr, h => by
    simp only [readTy] at hr
    split at hr
    · rename_i fs hu
      simp only [Bool.and_eq_true] at hr
      obtain ⟨h1, hr⟩ := hr
      have h1 := Nat.eq_of_beq_eq_true h1
      obtain ⟨xs, n, _, _, hl, hxl, hf⟩ := DataW.trod_struct hu h
      split at hr
      · rename_i f r hfs
        simp only [Bool.and_eq_true] at hr
        obtain ⟨⟨⟨g1, g2⟩, g3⟩, g4⟩ := hr
        have g1 := Nat.eq_of_beq_eq_true g1
        have g2 := Nat.eq_of_beq_eq_true g2
        have hf' : ∀ (i : Nat) (f' : Field), (f :: r)[i]? = some f' → DataW.trod enc P w 0 sp held n f'.type ((cs.drop f'.offset).take (P.cellsOf f'.type)) = xs[i]? := by
          intro i f' hi
          exact hf i f' (by rw [← hfs] at hi; simpa using hi)
        have hlen : xs.length = (f :: r).length := by rw [hxl, ← hfs]; simp
        have hx0 := hf' 0 f rfl
        rw [List.getElem?_eq_getElem (by rw [hlen]; simp)] at hx0
        rw [g1, g2, List.drop_zero] at hx0
        obtain ⟨y1, k1, k2⟩ := open_ty a f.type n _ _ g3 hx0
        obtain ⟨y2, k3, k4⟩ := open_fs b a.size r n cs (by rw [hl, h1]) g4 (fun i f' hi => ⟨xs[i + 1]'(by rw [hlen]; have := (List.getElem?_eq_some_iff.1 hi).1; simp; omega), by rw [hf' (i + 1) f' hi, List.getElem?_eq_getElem]⟩)
        exact ⟨(y1, y2), ⟨_, _, (List.take_append_drop a.size cs).symm, k1, k3⟩, k2, k4⟩
      · cases hr
    · cases hr
theorem open_fs : ∀ (τ : Ty) (off : Nat) (fs : List Field) (n : Nat) (cs : List Value), cs.length = off + τ.size → readFs P τ off fs = true → (∀ (i : Nat) (f : Field), fs[i]? = some f → ∃ x, DataW.trod enc P w 0 sp held n f.type ((cs.drop f.offset).take (P.cellsOf f.type)) = some x) →
    ∃ y : τ.den, RepD w (fun b => b < w.heap.size) τ (cs.drop off) y ∧ WfD τ y
  | .unit, off, fs, n, cs, hl, _, _ => ⟨(), List.drop_eq_nil_of_le (by rw [hl]; exact Nat.le_refl _), trivial⟩
  | .pair a b, off, fs, n, cs, hl, hr, h => by
    simp only [readFs] at hr
    split at hr
    · rename_i f r
      simp only [Bool.and_eq_true] at hr
      obtain ⟨⟨⟨g1, g2⟩, g3⟩, g4⟩ := hr
      have g1 := Nat.eq_of_beq_eq_true g1
      have g2 := Nat.eq_of_beq_eq_true g2
      obtain ⟨x, hx⟩ := h 0 f rfl
      rw [g1, g2] at hx
      obtain ⟨y1, k1, k2⟩ := open_ty a f.type n _ _ g3 hx
      obtain ⟨y2, k3, k4⟩ := open_fs b (off + a.size) r n cs (by rw [hl]; simp [Ty.size, Nat.add_assoc]) g4 (fun i f' hi => h (i + 1) f' hi)
      refine ⟨(y1, y2), ⟨_, _, (List.take_append_drop a.size (cs.drop off)).symm, k1, ?_⟩, k2, k4⟩
      rw [List.drop_drop]
      exact k3
    · cases hr
  | .int _, _, _, _, _, _, hr, _ => by simp [readFs] at hr
  | .bool, _, _, _, _, _, hr, _ => by simp [readFs] at hr
  | .str, _, _, _, _, _, hr, _ => by simp [readFs] at hr
  | .flt _, _, _, _, _, _, hr, _ => by simp [readFs] at hr
  | .slice _, _, _, _, _, _, hr, _ => by simp [readFs] at hr
  | .arr _ _, _, _, _, _, _, hr, _ => by simp [readFs] at hr
end

/-- an argument, opened -/
theorem open_arg {τ : Ty} {t : TypeId} {v : Value} {d : DataW H} {p : List MemPlace} (hr : readTy P τ t = true) (hagg : vIsAgg v = τ.isAgg) (h : DataW.Trod enc P w 0 sp held t v d p) :
    ∃ y : τ.den, RepD w (fun b => b < w.heap.size) τ v.cells.toList y ∧ WfD τ y ∧ RepV w (fun b => b < w.heap.size) (fun _ => .none) (hget []) (.d τ y) v := by
  obtain ⟨fuel, h⟩ := h
  obtain ⟨y, h1, h2⟩ := open_ty τ t fuel _ _ hr h
  exact ⟨y, h1, h2, h1, hagg⟩
end

theorem Kept.same {W W' : World} (h : Kept W W') {p : MemPlace} (hp : p.block < W.heap.size) : W.sameAt W' p := by
  cases p with
  | cell b off => exact h.cell (a := ⟨b, off, none⟩) hp
  | map b => exact h.old b hp

/-- the arguments read behind the call as they did -/
theorem Kept.trodAll {H : Type} {enc : TypeId × Value → H} {P : Program} (hl : laidOutB P = true) {W W' : World} (hk : Kept W W') {sp : Nat → Bool} : ∀ {ts : List TypeId} {vs : List Value} {ds : List (DataW H)} {ps : List MemPlace},
    (∀ t ∈ ts, P.readableRec t = true ∧ t < P.types.size) → (∀ p ∈ ps, p.block < W.heap.size) → (∀ p ∈ ps, sp p.block = true) → DataW.TrodAll enc P W 0 (fun _ => true) true ts vs ds ps → DataW.TrodAll enc P W' 0 sp true ts vs ds ps
  | [], [], [], _, _, _, _, h => h
  | _ :: _, _ :: _, _ :: _, _, ht, hp, hs, ⟨p, q, h1, h2, e⟩ =>
    ⟨p, q, WideElems.Trod_stays hl (ht _ (List.mem_cons.2 (Or.inl rfl))).1 (ht _ (List.mem_cons.2 (Or.inl rfl))).2 h1 (fun x hx => hk.same (hp x (by rw [e]; exact List.mem_append_left _ hx))) (fun x hx => hs x (by rw [e]; exact List.mem_append_left _ hx)),
      Kept.trodAll hl hk (fun t h => ht t (List.mem_cons.2 (Or.inr h))) (fun x hx => hp x (by rw [e]; exact List.mem_append_right _ hx)) (fun x hx => hs x (by rw [e]; exact List.mem_append_right _ hx)) h2, e⟩
  | [], _ :: _, _, _, _, _, _, h => h.elim
  | [], [], _ :: _, _, _, _, _, h => h.elim
  | _ :: _, [], _, _, _, _, _, h => h.elim
  | _ :: _, _ :: _, [], _, _, _, _, h => h.elim

/-- a row's answer: it returns a bool, its arguments read as they did -/
theorem post_kept {H : Type} {enc : TypeId × Value → H} {P : Program} {f : Func} {s : ChangeSpec} {apart fresh handsOn again : Bool} {W W' : World} {args : Array Value} {v : Value} {ds gs : List (DataW H)} {before : List MemPlace}
    (hl : laidOutB P = true) (ht : ∀ t ∈ f.params.toList, P.readableRec t = true ∧ t < P.types.size)
    (hW : DataW.Whole enc P f.params.toList s.vars apart W args.toList ds gs before) (hlt : ∀ p ∈ before, p.block < W.heap.size) (hv0 : s.vars = [])
    (hres : ∀ (b : Nat) (sp : Nat → Bool) (hd : Bool), DataW.TrodAll enc P W' b sp hd f.resultTypes.toList (v.resultList f.resultTypes.size) (s.fn H (ds ++ gs)).results [])
    (hargs : (s.fn H (ds ++ gs)).args = ds) (hvars : (s.fn H (ds ++ gs)).vars = [])
    (hk : Kept W W')
    (hok : ∀ (j : Nat) (t : TypeId) (r : Value), f.resultTypes[j]? = some t → (v.resultList f.resultTypes.size)[j]? = some r → Value.okWide P W' .any 0 t r) :
    s.post enc P f apart fresh handsOn again W args v W' := by
  have hW' := hW
  obtain ⟨p, q, hA, hV, rfl, hfz, hnd⟩ := hW
  obtain ⟨rfl, rfl⟩ : gs = [] ∧ q = [] := by
    rw [hv0] at hV
    cases gs with
    | nil => exact ⟨rfl, hV⟩
    | cons _ _ => exact hV.elim
  simp only [List.append_nil] at hlt hfz hnd
  have hA1 : ∀ sp : Nat → Bool, (∀ b, b < W.heap.size → sp b = true) → DataW.TrodAll enc P W' 0 sp true f.params.toList args.toList ds p :=
    fun sp hs => hk.trodAll hl ht hlt (fun x hx => hs _ (hlt x hx)) hA
  have hV1 : ∀ sp : Nat → Bool, DataW.TrodVars enc P W' sp s.vars ([] : List (DataW H)) [] := by
    intro sp
    rw [hv0]
    rfl
  refine ⟨ds, [], p ++ [], [], p, [], hW', hres _ _ _, ?_, ?_, hk.frame _, fun _ => ⟨hok, (s.fn H (ds ++ [])).results ++ ds, [], p, ⟨p, [], ?_, hV1 _, by simp, ?_, ?_⟩, fun x hx _ => by simpa using hx⟩⟩
  · rw [hargs]
    exact hA1 _ fun b hb => by simpa using hb
  · rw [hvars]
    exact hV1 _
  · exact trodAll_append (hA1 _ fun _ _ => rfl) (hres _ _ _)
  · intro b off hb
    rw [hk.frozen (hlt _ hb)]
    exact hfz b off hb
  · intro ha
    exact hnd ha

end Go.Vm
