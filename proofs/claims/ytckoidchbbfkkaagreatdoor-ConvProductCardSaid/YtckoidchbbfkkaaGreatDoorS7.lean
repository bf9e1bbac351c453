/- Part G of the abstract machine: slices: index, cut, length, literals, make, append. -/
import Derived.Test.YtckoidchbbfkkaaGreatDoorS6
namespace Go.Vm

/-- more than any list of a proof here ever holds -/
def lim : Nat := 4294967296

section
variable {P : Program} {C : Ctx}

/-- t: a slice type, its elements of esz cells -/
def SlT (P : Program) (t : TypeId) (esz : Nat) : Prop := ∃ e i, P.underlying t = some (.slice e) ∧ P.info? e = some i ∧ i.size = esz
/-- t: an array type of n elements of esz cells -/
def ArT (P : Program) (t : TypeId) (n esz : Nat) : Prop := ∃ e i, P.underlying t = some (.array n e) ∧ P.info? e = some i ∧ i.size = esz

/-- an array that is somewhere, turning or not -/
theorem RepO.arr {w : World} {im : Nat → Prop} {μ : Mu} {hp : Hp} {pl : Pl} {T : TypeId} {e : Ty} {m : Nat} {z : Bool} {xs : List e.den} (h : RepO w im μ hp pl (.arr T e m z xs)) :
    (∃ a, pl = .nil a ∧ xs = []) ∨ ∃ b cap cs, (pl = .row b cap ∨ pl = .fz b cap) ∧ xs.length ≤ cap ∧ cap ≤ maxLen ∧ CellsAt w b 0 cs ∧ RepL (RepD w im e) cs xs := by
  rcases h with h | ⟨_, b, cap, cells, h1, h2, h3, h4, h5, h6⟩ | ⟨_, b, cap, cs, h1, h2, h3, h4, h5, h6⟩
  · exact .inl h
  · refine .inr ⟨b, cap, _, .inl h1, h3, h4, ?_, h6⟩
    have := (cellsAt_block h2).sub 0 (xs.length * e.size)
    simpa using this
  · exact .inr ⟨b, cap, cs, .inr h1, h3, h4, h5, h6⟩

/-- what a slice reads as -/
inductive Src (hp : Hp) : AV → (e : Ty) → List e.den → Prop
  | d {e : Ty} {xs : List e.den} : Src hp (.d (.slice e) xs) e xs
  | os {o n : Nat} {T : TypeId} {e : Ty} {z : Bool} {xs : List e.den} : hp o = some (.arr T e n z xs) → Src hp (.os o n) e xs
  | nils {e : Ty} : Src hp .nils e []
  | emp {e : Ty} : Src hp .emp e []

def AV.objs : AV → List Nat
  | .os o _ => [o]
  | .oe o _ _ => [o]
  | .ow o _ _ _ => [o]
  | .op o _ _ => [o]
  | _ => []

theorem Src.hp {hp hp' : Hp} {a : AV} {e : Ty} {xs : List e.den} (h : Src hp a e xs) (hk : ∀ k ∈ a.objs, hp' k = hp k) : Src hp' a e xs := by
  cases h with
  | d => exact .d
  | os h1 => exact .os ((hk _ (by simp [AV.objs])).trans h1)
  | nils => exact .nils
  | emp => exact .emp

def SrcV (w : World) (im : Nat → Prop) (e : Ty) (xs : List e.den) (v : Value) : Prop :=
  ∃ a cap, v = .slice a xs.length cap ∧ xs.length ≤ cap ∧ (xs = [] ∨ ∃ b off cs, a = some ⟨b, off, none⟩ ∧ CellsAt w b off cs ∧ RepL (RepD w im e) cs xs)

theorem slice_of_cells {v : Value} {a : Option Addr} {n cap : Nat} (h : v.cells.toList = [.slice a n cap]) (hag : vIsAgg v = false) : v = .slice a n cap := by
  cases v <;> simp_all [Value.cells, vIsAgg]

theorem Src.sound {w : World} {im : Nat → Prop} {μ : Mu} {hp : Hp} {a : AV} {e : Ty} {xs : List e.den} {v : Value} (h : Src hp a e xs) (hv : RepV w im μ hp a v)
    (hob : ∀ k ob, hp k = some ob → RepO w im μ hp (μ k) ob) : SrcV w im e xs v := by
  cases h with
  | d =>
    obtain ⟨hr, hag⟩ := hv
    simp only [RepA, RepD] at hr
    obtain ⟨ad, cap, hc, h1, h2, h0, h3⟩ := hr
    refine ⟨ad, cap, slice_of_cells hc hag, h1, ?_⟩
    cases ad with
    | none => exact .inl h3
    | some ad =>
      rcases h3 with h3 | ⟨hs, _, cs, h4, h5⟩
      · exact .inl h3
      · obtain ⟨b, off, sp⟩ := ad
        simp only at hs
        subst hs
        exact .inr ⟨b, off, cs, rfl, h4, h5⟩
  | @os o n T e z xs ho =>
    obtain ⟨hr, hag⟩ := hv
    simp only [RepA] at hr
    obtain ⟨T', e', m', z', xs', ho', hle, u, hc, h1, hpl⟩ := hr
    rw [ho] at ho'
    cases ho'
    have hpl2 := hpl rfl
    clear hpl
    rcases (hob o _ ho).arr with ⟨ad, hp', rfl⟩ | ⟨b, cap, cs, hp', h1', h2', h3', h4'⟩
    · rw [hp'] at hpl2
      simp only [PlSlice] at hpl2
      subst hpl2
      exact ⟨ad, 0, slice_of_cells hc hag, Nat.le_refl _, .inl rfl⟩
    · have hpl3 : u = .slice (some ⟨b, 0, none⟩) xs.length cap := by rcases hp' with hp' | hp' <;> rw [hp'] at hpl2 <;> exact hpl2
      subst hpl3
      exact ⟨some ⟨b, 0, none⟩, cap, slice_of_cells hc hag, h1', .inr ⟨b, 0, _, rfl, h3', h4'⟩⟩
  | nils =>
    obtain ⟨hr, hag⟩ := hv
    simp only [RepA] at hr
    exact ⟨none, 0, slice_of_cells hr hag, Nat.le_refl _, .inl rfl⟩
  | emp =>
    obtain ⟨hr, hag⟩ := hv
    simp only [RepA] at hr
    obtain ⟨ad, hr⟩ := hr
    exact ⟨ad, 0, slice_of_cells hr hag, Nat.le_refl _, .inl rfl⟩

variable {s : ASt} {dst : Option Tmp} {ty : TypeId} {pos : String} {aft : Array Edge} {gd : Option (Nat × Bool)}

theorem ok_len_slice {x : Operand} {t : TypeId} {e : Ty} {xs : List e.den} {av : AV} {esz : Nat} (hx : s.ev C x = av) (hs : Src s.hp av e xs) (ht : SlT P t esz) :
    OpOK P C ⟨dst, .call ⟨.builtin .len, #[x], #[t]⟩, ty, pos, aft, gd⟩ ⟨dst, .d (.int .i64) (xs.length : Int), av.objs, []⟩ s :=
  ok_read av.objs fun w im μ hp ρ h hk hob => by
    obtain ⟨ad, cap, hv, _⟩ := (hs.hp hk).sound (hx ▸ h x (by simp [Op.operands, Call.operands])) hob
    obtain ⟨et, i, h1, _, _⟩ := ht
    refine ⟨.int .i64 xs.length, w, ?_, rfl, rfl, rfl, rfl, constAV_rep _ _ _ _ (.int .i64 xs.length)⟩
    simp [execOp, resolve, invoke, builtin, hv, Builtin.len_, run_underlying h1, goInt]

theorem ok_len_str {x : Operand} {t : TypeId} {l : List UInt8} (hx : s.ev C x = .d .str l) (ht : P.underlying t = some .string) :
    OpOK P C ⟨dst, .call ⟨.builtin .len, #[x], #[t]⟩, ty, pos, aft, gd⟩ ⟨dst, .d (.int .i64) (l.length : Int), [], []⟩ s :=
  ok_pure fun w im μ hp ρ h => by
    have e1 := scal_eq (u := .string ⟨l.toArray⟩) (by rw [hx]; rfl) (h x (by simp [Op.operands, Call.operands]))
    refine ⟨.int .i64 l.length, ?_, constAV_rep _ _ _ _ (.int .i64 l.length)⟩
    have hsz : (⟨l.toArray⟩ : ByteArray).size = l.length := by simp [ByteArray.size]
    simp [execOp, resolve, invoke, builtin, e1, Builtin.len_, run_underlying ht, goInt, hsz]

theorem int_eq {w : World} {im : Nat → Prop} {μ : Mu} {hp : Hp} {k : IntKind} {n : Int} {v : Value} (h : RepV w im μ hp (.d (.int k) n) v) : v = .int k n := scal_eq (u := .int k n) rfl h

/-- an element's place in a slice that does not turn -/
theorem ok_index_d {x y : Operand} {t : TypeId} {e : Ty} {xs : List e.den} {k : IntKind} {n : Int} {z : e.den} (hx : s.ev C x = .d (.slice e) xs) (hy : s.ev C y = .d (.int k) n) (ht : SlT P t e.size) (h0 : 0 ≤ n) (hz : xs[n.toNat]? = some z) :
    OpOK P C ⟨dst, .indexAddr t x y, ty, pos, aft, gd⟩ ⟨dst, .ip e z, [], []⟩ s :=
  ok_pure fun w im μ hp ρ h => by
    obtain ⟨hr, hag⟩ := hx ▸ h x (by simp [Op.operands])
    have e2 := int_eq (hy ▸ h y (by simp [Op.operands]))
    simp only [RepA, RepD] at hr
    obtain ⟨ad, cap, hc, _, _, _, h3⟩ := hr
    have hv := slice_of_cells hc hag
    obtain ⟨et, i, h1, h2, h4⟩ := ht
    have hlt : n.toNat < xs.length := (List.getElem?_eq_some_iff.1 hz).1
    cases ad with
    | none => have h3' : xs = [] := h3; rw [h3'] at hlt; simp at hlt
    | some ad =>
      rcases h3 with h3 | ⟨hs, him, cs, h5, h6⟩
      · rw [h3] at hlt; simp at hlt
      · obtain ⟨b, off, sp⟩ := ad
        simp only at hs him h5
        subst hs
        obtain ⟨hg, hgl⟩ := RepL.get (RepD.length e) h6 hz
        refine ⟨.pointer (some ⟨b, off + n.toNat * e.size, none⟩), ?_, ⟨?_, rfl⟩⟩
        · have hlt' : n < (xs.length : Int) := by omega
          simp [execOp, hv, e2, Instr.indexAt, asIntOf, run_underlying h1, h0, hlt', sizeOf, typeInfo, h2, h4, addr_add]
        · simp only [RepA, Value.cells]
          exact ⟨b, off + n.toNat * e.size, rfl, him, _, h5.sub (n.toNat * e.size) e.size, hg⟩

/-- an element's place in an array that does not turn -/
theorem ok_index_ipArr {x y : Operand} {t : TypeId} {m : Nat} {e : Ty} {xs : List e.den} {k : IntKind} {n : Int} {z : e.den} (hx : s.ev C x = .ip (.arr m e) xs) (hy : s.ev C y = .d (.int k) n) (ht : ArT P t m e.size) (h0 : 0 ≤ n) (hz : xs[n.toNat]? = some z) :
    OpOK P C ⟨dst, .indexAddr t x y, ty, pos, aft, gd⟩ ⟨dst, .ip e z, [], []⟩ s :=
  ok_pure fun w im μ hp ρ h => by
    obtain ⟨hr, hag⟩ := hx ▸ h x (by simp [Op.operands])
    have e2 := int_eq (hy ▸ h y (by simp [Op.operands]))
    simp only [RepA] at hr
    obtain ⟨b, off, he, him, ds, hc, hd⟩ := hr
    have hv : ρ x = .pointer (some ⟨b, off, none⟩) := by
      generalize ρ x = v at he hag
      cases v <;> simp_all [Value.cells, vIsAgg, AV.isAgg]
    simp only [RepD] at hd
    obtain ⟨hm, hl⟩ := hd
    obtain ⟨et, i, h1, h2, h4⟩ := ht
    have hlt : n.toNat < xs.length := (List.getElem?_eq_some_iff.1 hz).1
    obtain ⟨hg, hgl⟩ := RepL.get (RepD.length e) hl hz
    refine ⟨.pointer (some ⟨b, off + n.toNat * e.size, none⟩), ?_, ⟨?_, rfl⟩⟩
    · have hlt' : n < (m : Int) := by omega
      simp [execOp, hv, e2, Instr.indexAt, asIntOf, run_underlying h1, h0, hlt', sizeOf, typeInfo, h2, h4, addr_add, Instr.sureAddr]
    · simp only [RepA, Value.cells]
      exact ⟨b, off + n.toNat * e.size, rfl, him, _, hc.sub (n.toNat * e.size) e.size, hg⟩

/-- an element's place in an array that is a variable, or part of one -/
theorem ok_index_opArr {x y : Operand} {t : TypeId} {m o : Nat} {p p' : List Nat} {off off1 off' : Nat} {v : AV} {e : Ty} {xs : List e.den} {k : IntKind} {n : Int} {z : e.den} (hx : s.ev C x = .op o p off) (hp : s.hp o = some (.box v))
    (hs : Sub v p off1 (.d (.arr m e) xs)) (hy : s.ev C y = .d (.int k) n) (ht : ArT P t m e.size) (h0 : 0 ≤ n) (hz : xs[n.toNat]? = some z) (_hp' : p ++ [n.toNat] = p') (ho : off + n.toNat * e.size = off') :
    OpOK P C ⟨dst, .indexAddr t x y, ty, pos, aft, gd⟩ ⟨dst, .op o p' off', [o], []⟩ s :=
  ok_read [o] fun w im μ hp' ρ h hk hob => by
    subst ho
    obtain ⟨b, u', h1', h2', hv⟩ := ptr_eq (hx ▸ h x (by simp [Op.operands]))
    have e2 := int_eq (hy ▸ h y (by simp [Op.operands]))
    have hpo : hp' o = some (.box v) := (hk o (by simp)).trans hp
    obtain ⟨b', cells, T, he, hc, hr⟩ := hob o _ hpo
    obtain ⟨c1, c2, c3, _, _, hu⟩ := hs.sound _ hr
    simp only [RepA, RepD] at hu
    obtain ⟨et, i, h1, h2, h4⟩ := ht
    have hlt : n.toNat < xs.length := (List.getElem?_eq_some_iff.1 hz).1
    have hm := hu.1
    refine ⟨.pointer (some ⟨b, off + n.toNat * e.size, none⟩), w, ?_, rfl, rfl, rfl, rfl, ⟨?_, rfl⟩⟩
    · have hlt' : n < (m : Int) := by omega
      simp [execOp, hv, e2, Instr.indexAt, asIntOf, run_underlying h1, h0, hlt', sizeOf, typeInfo, h2, h4, addr_add, Instr.sureAddr]
    · simp only [RepA, Value.cells]
      exact ⟨b, u', h1', h2', rfl⟩

/-- an element's place in an array of one's own -/
theorem ok_index_os {x y : Operand} {t : TypeId} {o m : Nat} {T : TypeId} {e : Ty} {fz : Bool} {xs : List e.den} {k : IntKind} {n : Int} {z : e.den} (hx : s.ev C x = .os o m) (ho : s.hp o = some (.arr T e m fz xs)) (hy : s.ev C y = .d (.int k) n)
    (ht : SlT P t e.size) (h0 : 0 ≤ n) (hz : xs[n.toNat]? = some z) : OpOK P C ⟨dst, .indexAddr t x y, ty, pos, aft, gd⟩ ⟨dst, .oe o m n.toNat, [o], []⟩ s :=
  ok_read [o] fun w im μ hp ρ h hk hob => by
    obtain ⟨hr, hag⟩ := hx ▸ h x (by simp [Op.operands])
    have e2 := int_eq (hy ▸ h y (by simp [Op.operands]))
    have hpo : hp o = some (.arr T e m fz xs) := (hk o (by simp)).trans ho
    simp only [RepA] at hr
    obtain ⟨T', e', m', z', xs', ho', hle, u, hc, h1, hpl⟩ := hr
    rw [hpo] at ho'
    cases ho'
    have hpl2 := hpl rfl
    clear hpl
    have hlt : n.toNat < xs.length := (List.getElem?_eq_some_iff.1 hz).1
    obtain ⟨et, i, h1', h2', h4'⟩ := ht
    rcases (hob o _ hpo).arr with ⟨ad, hp', rfl⟩ | ⟨b, cap, cs, hp', _⟩
    · simp at hlt
    · have hpl3 : u = .slice (some ⟨b, 0, none⟩) xs.length cap := by rcases hp' with hp' | hp' <;> rw [hp'] at hpl2 <;> exact hpl2
      subst hpl3
      have hv := slice_of_cells hc hag
      refine ⟨.pointer (some ⟨b, n.toNat * e.size, none⟩), w, ?_, rfl, rfl, rfl, rfl, ⟨?_, rfl⟩⟩
      · have hlt' : n < (xs.length : Int) := by omega
        simp [execOp, hv, e2, Instr.indexAt, asIntOf, run_underlying h1', h0, hlt', sizeOf, typeInfo, h2', h4', addr_add]
      · simp only [RepA, Value.cells]
        exact ⟨T, e, m, fz, xs, hpo, Nat.le_refl _, _, rfl, rfl, fun _ => ⟨b, cap, hp', rfl⟩⟩

/-- an element's place in a window -/
theorem ok_index_ow {x y : Operand} {t : TypeId} {o m j q : Nat} {T : TypeId} {e : Ty} {fz : Bool} {xs : List e.den} {k : IntKind} {n : Int} (hx : s.ev C x = .ow o m j q) (ho : s.hp o = some (.arr T e m fz xs)) (hy : s.ev C y = .d (.int k) n)
    (ht : SlT P t e.size) (h0 : 0 ≤ n) (hz : n < q) : OpOK P C ⟨dst, .indexAddr t x y, ty, pos, aft, gd⟩ ⟨dst, .oe o m (j + n.toNat), [o], []⟩ s :=
  ok_read [o] fun w im μ hp ρ h hk hob => by
    obtain ⟨hr, hag⟩ := hx ▸ h x (by simp [Op.operands])
    have e2 := int_eq (hy ▸ h y (by simp [Op.operands]))
    have hpo : hp o = some (.arr T e m fz xs) := (hk o (by simp)).trans ho
    simp only [RepA] at hr
    obtain ⟨T', e', m', z', xs', ho', hle, u, hc, h1, hpl⟩ := hr
    rw [hpo] at ho'
    cases ho'
    obtain ⟨b, cap, hp1, rfl⟩ := hpl rfl
    obtain ⟨et, i, h1', h2', h4'⟩ := ht
    have hv := slice_of_cells hc hag
    refine ⟨.pointer (some ⟨b, (j + n.toNat) * e.size, none⟩), w, ?_, rfl, rfl, rfl, rfl, ⟨?_, rfl⟩⟩
    · simp [execOp, hv, e2, Instr.indexAt, asIntOf, run_underlying h1', h0, hz, sizeOf, typeInfo, h2', h4', addr_add, Nat.add_mul]
    · simp only [RepA, Value.cells]
      exact ⟨T, e, m, fz, xs, hpo, Nat.le_refl _, _, rfl, rfl, fun _ => ⟨b, cap, hp1, rfl⟩⟩

theorem ok_load_oe {t : TypeId} {x : Operand} {o m i : Nat} {T : TypeId} {e : Ty} {fz : Bool} {xs : List e.den} {z : e.den} (hx : s.ev C x = .oe o m i) (ho : s.hp o = some (.arr T e m fz xs)) (hz : xs[i]? = some z) (ht : TyS P t e.size e.isAgg) :
    OpOK P C ⟨dst, .load t x, ty, pos, aft, gd⟩ ⟨dst, .d e z, [o], []⟩ s :=
  ok_read [o] fun w im μ hp ρ h hk hob => by
    obtain ⟨hr, hag⟩ := hx ▸ h x (by simp [Op.operands])
    have hpo : hp o = some (.arr T e m fz xs) := (hk o (by simp)).trans ho
    simp only [RepA] at hr
    obtain ⟨T', e', m', z', xs', ho', hle, u, hc, h1, hpl⟩ := hr
    rw [hpo] at ho'
    cases ho'
    obtain ⟨b, cap, hp1, rfl⟩ := hpl rfl
    have hlt : i < xs.length := (List.getElem?_eq_some_iff.1 hz).1
    rcases (hob o _ hpo).arr with ⟨ad, hp', rfl⟩ | ⟨b', cap', cs, hp', _, _, hb, hl⟩
    · simp at hlt
    · obtain ⟨rfl, rfl⟩ : b' = b ∧ cap' = cap := by
        rcases hp1 with hp1 | hp1 <;> rcases hp' with hp' | hp' <;> rw [hp1] at hp' <;> cases hp' <;> exact ⟨rfl, rfl⟩
      have hv : ρ x = .pointer (some ⟨b', i * e.size, none⟩) := by
        generalize ρ x = v at hc hag
        cases v <;> simp_all [Value.cells, vIsAgg, AV.isAgg]
      obtain ⟨hg, hgl⟩ := RepL.get (RepD.length e) hl hz
      have hA : RepA w im μ hp (.d e z) (List.take e.size (List.drop (i * e.size) cs)) := by simp only [RepA]; exact hg
      have hca2 := hb.sub (i * e.size) e.size
      rw [Nat.zero_add] at hca2
      refine ⟨mkVal e.isAgg _, w, ?_, rfl, rfl, rfl, rfl, hA.toV⟩
      simp only [execOp, hv, Instr.loadAt, Instr.sureAddr, Sem.run_bind, Sem.run_pure, Result.andThen_ok]
      rw [run_loadVar' ht w hca2 hgl (fun hag => by have := asize_one (a := .d e z) hag; simpa [AV.asize] using this)]
      rfl

/-! ### cuts -/

theorem run_sliceBound (w : World) {k : IntKind} {n : Int} {y : Nat} (h0 : 0 ≤ n) (h1 : n ≤ y) (c : BoundsCode) : (Instr.sliceBound (.int k n) y c).run P w = .ok n.toNat w := by
  simp [Instr.sliceBound, asIntOf, h0, h1]

/-- a bound that may be left out: the number that it comes to -/
def BndIs (C : Ctx) (s : ASt) (x : Option Operand) (dflt n : Nat) : Prop :=
  match x with
  | none => n = dflt
  | some x => ∃ (k : IntKind) (z : Int), s.ev C x = .d (.int k) z ∧ 0 ≤ z ∧ z.toNat = n

theorem run_bounds (w : World) {lo hi : Option Value} {len cap l h : Nat} (hlo : match lo with | none => l = 0 | some v => ∃ k z, v = .int k z ∧ 0 ≤ z ∧ z.toNat = l) (hhi : match hi with | none => h = len | some v => ∃ k z, v = .int k z ∧ 0 ≤ z ∧ z.toNat = h)
    (h1 : l ≤ h) (h2 : h ≤ cap) (b : Bool) : (Instr.sliceBounds b len cap lo hi none).run P w = .ok (l, h, cap) w := by
  cases lo with
  | none =>
    simp only at hlo; subst hlo
    cases hi with
    | none => simp only at hhi; subst hhi; simp [Instr.sliceBounds]
    | some v =>
      obtain ⟨k, z, rfl, hz, rfl⟩ := hhi
      simp [Instr.sliceBounds, run_sliceBound w hz (show z ≤ (cap : Int) by omega)]
  | some u =>
    obtain ⟨k', z', rfl, hz', rfl⟩ := hlo
    cases hi with
    | none => simp only at hhi; subst hhi; simp [Instr.sliceBounds, run_sliceBound w hz' (show z' ≤ ((h : Nat) : Int) by omega)]
    | some v =>
      obtain ⟨k, z, rfl, hz, rfl⟩ := hhi
      simp [Instr.sliceBounds, run_sliceBound w hz (show z ≤ (cap : Int) by omega), run_sliceBound w hz' (show z' ≤ ((z.toNat : Nat) : Int) by omega)]

theorem bnd_rep {s : ASt} {x : Option Operand} {dflt n : Nat} (h : BndIs C s x dflt n) {w : World} {im : Nat → Prop} {μ : Mu} {hp : Hp} {ρ : Operand → Value} (hr : ∀ o, x = some o → RepV w im μ hp (s.ev C o) (ρ o)) :
    match x.map ρ with | none => n = dflt | some v => ∃ k z, v = .int k z ∧ 0 ≤ z ∧ z.toNat = n := by
  cases x with
  | none => exact h
  | some o =>
    obtain ⟨k, z, he, h0, h1⟩ := h
    exact ⟨k, z, int_eq (he ▸ hr o rfl), h0, h1⟩

theorem ok_slice_d {t : TypeId} {x : Operand} {lo hi : Option Operand} {e : Ty} {xs : List e.den} {l h : Nat} (hx : s.ev C x = .d (.slice e) xs) (ht : SlT P t e.size) (hlo : BndIs C s lo 0 l) (hhi : BndIs C s hi xs.length h)
    (h1 : l ≤ h) (h2 : h ≤ xs.length) : OpOK P C ⟨dst, .slice t x lo hi none, ty, pos, aft, gd⟩ ⟨dst, .d (.slice e) ((xs.take h).drop l), [], []⟩ s :=
  ok_pure fun w im μ hp ρ hr => by
    obtain ⟨hA, hag⟩ := hx ▸ hr x (by simp [Op.operands])
    simp only [RepA, RepD] at hA
    obtain ⟨ad, cap, hc, h3, h4, h00, h5⟩ := hA
    have hv := slice_of_cells hc hag
    obtain ⟨et, i, hu, hi', hsz⟩ := ht
    have hb := run_bounds (P := P) w (len := xs.length) (cap := cap) (bnd_rep hlo (fun o ho => hr o (by subst ho; simp [Op.operands]))) (bnd_rep hhi (fun o ho => hr o (by subst ho; cases lo <;> simp [Op.operands]))) h1 (by omega) true
    refine ⟨.slice (if cap = l then ad else ad.map (·.add (l * e.size))) (h - l) (cap - l), ?_, ⟨?_, rfl⟩⟩
    · simp [execOp, hv, Instr.sliceAt, Instr.slice, run_underlying hu, hb, sizeOf, typeInfo, hi', hsz]
    · simp only [RepA, RepD, Value.cells]
      have hl : ((xs.take h).drop l).length = h - l := by rw [List.length_drop, List.length_take]; omega
      refine ⟨_, cap - l, by rw [hl], by omega, by omega, ?_, ?_⟩
      · split
        · intro hn; rw [hn] at h00; have := h00 rfl; omega
        · intro hn
          rw [Option.map_eq_none_iff] at hn
          have := h00 hn; omega
      · by_cases hcl : cap = l
        · have : (xs.take h).drop l = [] := by
            apply List.eq_nil_of_length_eq_zero; omega
          rw [if_pos hcl, this]
          cases ad with
          | none => rfl
          | some ad => exact .inl rfl
        · rw [if_neg hcl]
          cases ad with
          | none => have h5' : xs = [] := h5; rw [h5']; simp [SliceAt]
          | some ad =>
            rcases h5 with h5 | ⟨hs, him, cs, h6, h7⟩
            · rw [h5]; exact .inl (by simp)
            · obtain ⟨b, off, sp⟩ := ad
              simp only at hs him h6
              subst hs
              simp only [Option.map_some, addr_add, SliceAt]
              refine .inr ⟨trivial, him, (cs.take (h * e.size)).drop (l * e.size), ?_, RepL.drop (RepD.length e) (RepL.take (RepD.length e) h7 h) l⟩
              intro j v hj
              rw [List.getElem?_drop, List.getElem?_take] at hj
              split at hj
              · have := h6 _ _ hj; rw [Nat.add_assoc]; exact this
              · cases hj

theorem ok_slice_str {t : TypeId} {x : Operand} {lo hi : Option Operand} {xs : List UInt8} {l h : Nat} (hx : s.ev C x = .d .str xs) (ht : P.underlying t = some .string) (hlo : BndIs C s lo 0 l) (hhi : BndIs C s hi xs.length h)
    (h1 : l ≤ h) (h2 : h ≤ xs.length) : OpOK P C ⟨dst, .slice t x lo hi none, ty, pos, aft, gd⟩ ⟨dst, .d .str ((xs.take h).drop l), [], []⟩ s :=
  ok_pure fun w im μ hp ρ hr => by
    have e1 := scal_eq (u := .string ⟨xs.toArray⟩) (by rw [hx]; rfl) (hr x (by simp [Op.operands]))
    have hsz : (⟨xs.toArray⟩ : ByteArray).size = xs.length := by simp [ByteArray.size]
    have hb := run_bounds (P := P) w (len := xs.length) (cap := xs.length) (bnd_rep hlo (fun o ho => hr o (by subst ho; simp [Op.operands]))) (bnd_rep hhi (fun o ho => hr o (by subst ho; cases lo <;> simp [Op.operands]))) h1 h2 false
    refine ⟨.string ⟨((xs.take h).drop l).toArray⟩, ?_, ⟨by simp [RepA, RepD, Value.cells], rfl⟩⟩
    have hex : (⟨xs.toArray⟩ : ByteArray).extract l h = ⟨((xs.take h).drop l).toArray⟩ := by
      apply ByteArray.ext
      rw [ByteArray.data_extract]
      apply Array.ext'
      rw [Array.toList_extract, List.extract_eq_take_drop, List.drop_take]
    simp [execOp, e1, Instr.sliceAt, Instr.slice, run_underlying ht, hsz, hb, hex]

/-- x[:0:0] -/
theorem ok_slice_emp {t : TypeId} {x hh mx : Operand} {lo : Option Operand} {e : Ty} {xs : List e.den} {av : AV} {esz : Nat} (hx : s.ev C x = av) (hs : Src s.hp av e xs) (ht : SlT P t esz) (hlo : BndIs C s lo 0 0) (hhi : s.ev C hh = .d (.int .i64) 0) (hmx : s.ev C mx = .d (.int .i64) 0) :
    OpOK P C ⟨dst, .slice t x lo (some hh) (some mx), ty, pos, aft, gd⟩ ⟨dst, .emp, av.objs, []⟩ s :=
  ok_read av.objs fun w im μ hp ρ hr hk hob => by
    obtain ⟨ad, cap, hv, hcap, _⟩ := (hs.hp hk).sound (hx ▸ hr x (by simp [Op.operands])) hob
    obtain ⟨et, i, hu, hi', hsz⟩ := ht
    have e1 := int_eq (hhi ▸ hr hh (by cases lo <;> simp [Op.operands]))
    have e2 := int_eq (hmx ▸ hr mx (by cases lo <;> simp [Op.operands]))
    have hl := bnd_rep (ρ := ρ) hlo (fun o ho => hr o (by subst ho; simp [Op.operands]))
    refine ⟨.slice ad 0 0, w, ?_, rfl, rfl, rfl, rfl, ⟨by simp only [RepA, Value.cells]; exact ⟨ad, rfl⟩, rfl⟩⟩
    cases lo with
    | none =>
      simp [execOp, hv, e1, e2, Instr.sliceAt, Instr.slice, run_underlying hu, Instr.sliceBounds, run_sliceBound, sizeOf, typeInfo, hi']
    | some lo =>
      obtain ⟨k, z, h1, h2, h3⟩ := hl
      obtain rfl : z = 0 := by omega
      simp [execOp, hv, h1, e1, e2, Instr.sliceAt, Instr.slice, run_underlying hu, Instr.sliceBounds, run_sliceBound, sizeOf, typeInfo, hi']

end
end Go.Vm
