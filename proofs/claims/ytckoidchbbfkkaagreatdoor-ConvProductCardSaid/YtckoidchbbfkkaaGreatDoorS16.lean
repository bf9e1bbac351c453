/- Part O of the abstract machine: the executor's other operations. -/
import Derived.Test.YtckoidchbbfkkaaGreatDoorS15
import Derived.Lib.AppendZerosOnto
namespace Go.Vm

variable {R : Type}

section
variable {P : Program} {C : Ctx} {s : ASt}
variable {dst : Option Tmp} {ty : TypeId} {pos : String} {aft : Array Edge} {gd : Option (Nat × Bool)}

theorem ok_slice_F {t : TypeId} {x : Operand} {lo hi : Option Operand} {e : Ty} {xs : List e.den} {l h : Nat} (hx : CoeF s.hp (s.ev C x) (.slice e) xs) (rdl : List Nat) (hrd : ∀ k ∈ (s.ev C x).osl, k ∈ rdl) (ht : SlT P t e.size) (hlo : BndIs C s lo 0 l) (hhi : BndIs C s hi xs.length h)
    (h1 : l ≤ h) (h2 : h ≤ xs.length) : OpOK P C ⟨dst, .slice t x lo hi none, ty, pos, aft, gd⟩ ⟨dst, .d (.slice e) ((xs.take h).drop l), rdl, []⟩ s :=
  ok_read rdl fun w im μ hp ρ hr hk hob => by
    have hxc : CoeF hp (s.ev C x) (.slice e) xs := hx.congr (fun k h => hk k (hrd k h))
    obtain ⟨hA0, hag⟩ := (hr x (by simp [Op.operands])).toA hxc.plain
    rw [hxc.agg] at hag
    have hA := hxc.sound hob _ hA0
    simp only [RepD] at hA
    obtain ⟨ad, cap, hc, h3, h4, h00, h5⟩ := hA
    have hv := slice_of_cells hc hag
    obtain ⟨et, i, hu, hi', hsz⟩ := ht
    have hb := run_bounds (P := P) w (len := xs.length) (cap := cap) (bnd_rep hlo (fun o ho => hr o (by subst ho; simp [Op.operands]))) (bnd_rep hhi (fun o ho => hr o (by subst ho; cases lo <;> simp [Op.operands]))) h1 (by omega) true
    refine ⟨.slice (if cap = l then ad else ad.map (·.add (l * e.size))) (h - l) (cap - l), w, ?_, rfl, rfl, rfl, rfl, ⟨?_, rfl⟩⟩
    · simp [execOp, hv, Instr.sliceAt, Instr.slice, run_underlying hu, hb, sizeOf, typeInfo, hi', hsz]
    · simp only [RepA, RepD, Value.cells]
      have hl : ((xs.take h).drop l).length = h - l := by rw [List.length_drop, List.length_take]; omega
      refine ⟨_, cap - l, by rw [hl], by omega, by omega, ?_, ?_⟩
      · split
        · intro hn; rw [hn] at h00; have := h00 rfl; omega
        · intro hn
          rw [Option.map_eq_none_iff] at hn
          have := h00 hn; omega
      · by_cases hcl : cap = l
        · have : (xs.take h).drop l = [] := by
            apply List.eq_nil_of_length_eq_zero; omega
          rw [if_pos hcl, this]
          cases ad with
          | none => rfl
          | some ad => exact .inl rfl
        · rw [if_neg hcl]
          cases ad with
          | none => have h5' : xs = [] := h5; rw [h5']; simp [SliceAt]
          | some ad =>
            rcases h5 with h5 | ⟨hs, him, cs, h6, h7⟩
            · rw [h5]; exact .inl (by simp)
            · obtain ⟨b, off, sp⟩ := ad
              simp only at hs him h6
              subst hs
              simp only [Option.map_some, addr_add, SliceAt]
              refine .inr ⟨trivial, him, (cs.take (h * e.size)).drop (l * e.size), ?_, RepL.drop (RepD.length e) (RepL.take (RepD.length e) h7 h) l⟩
              intro j v hj
              rw [List.getElem?_drop, List.getElem?_take] at hj
              split at hj
              · have := h6 _ _ hj; rw [Nat.add_assoc]; exact this
              · cases hj


theorem run_bounds3 (w : World) {lo hi mx : Option Value} {len cap l h m : Nat} (hlo : match lo with | none => l = 0 | some v => ∃ k z, v = .int k z ∧ 0 ≤ z ∧ z.toNat = l) (hhi : match hi with | none => h = 0 | some v => ∃ k z, v = .int k z ∧ 0 ≤ z ∧ z.toNat = h)
    (hmx : match mx with | none => m = 0 | some v => ∃ k z, v = .int k z ∧ 0 ≤ z ∧ z.toNat = m) (h1 : l ≤ h) (h2 : h ≤ m) (h3 : m ≤ cap) : hi.isSome = true → mx.isSome = true → (Instr.sliceBounds true len cap lo hi mx).run P w = .ok (l, h, m) w := by
  intro hs1 hs2
  cases hi with
  | none => cases hs1
  | some v =>
    cases mx with
    | none => cases hs2
    | some u =>
      obtain ⟨k, z, rfl, hz, rfl⟩ := hhi
      obtain ⟨k2, z2, rfl, hz2, rfl⟩ := hmx
      cases lo with
      | none =>
        simp only at hlo; subst hlo
        simp [Instr.sliceBounds, run_sliceBound w hz2 (show z2 ≤ (cap : Int) by omega), run_sliceBound w hz (show z ≤ ((z2.toNat : Nat) : Int) by omega)]
      | some u' =>
        obtain ⟨k', z', rfl, hz', rfl⟩ := hlo
        simp [Instr.sliceBounds, run_sliceBound w hz2 (show z2 ≤ (cap : Int) by omega), run_sliceBound w hz (show z ≤ ((z2.toNat : Nat) : Int) by omega), run_sliceBound w hz' (show z' ≤ ((z.toNat : Nat) : Int) by omega)]

theorem ok_slice3_F {t : TypeId} {x hh mm : Operand} {lo : Option Operand} {m : Nat} {e : Ty} {xs : List e.den} {l h : Nat} (hx : CoeF s.hp (s.ev C x) (.slice e) xs) (rdl : List Nat) (hrd : ∀ k ∈ (s.ev C x).osl, k ∈ rdl) (ht : SlT P t e.size) (hlo : BndIs C s lo 0 l) (hhi : BndIs C s (some hh) 0 h) (hmm : BndIs C s (some mm) 0 m) (h2m : h ≤ m) (hml : m ≤ xs.length)
    (h1 : l ≤ h) (h2 : h ≤ xs.length) : OpOK P C ⟨dst, .slice t x lo (some hh) (some mm), ty, pos, aft, gd⟩ ⟨dst, .d (.slice e) ((xs.take h).drop l), rdl, []⟩ s :=
  ok_read rdl fun w im μ hp ρ hr hk hob => by
    have hxc : CoeF hp (s.ev C x) (.slice e) xs := hx.congr (fun k h => hk k (hrd k h))
    obtain ⟨hA0, hag⟩ := (hr x (by simp [Op.operands])).toA hxc.plain
    rw [hxc.agg] at hag
    have hA := hxc.sound hob _ hA0
    simp only [RepD] at hA
    obtain ⟨ad, cap, hc, h3, h4, h00, h5⟩ := hA
    have hv := slice_of_cells hc hag
    obtain ⟨et, i, hu, hi', hsz⟩ := ht
    have hb := run_bounds3 (P := P) w (lo := lo.map ρ) (hi := some (ρ hh)) (mx := some (ρ mm)) (len := xs.length) (cap := cap) (bnd_rep hlo (fun o ho => hr o (by subst ho; simp [Op.operands]))) (bnd_rep hhi (fun o ho => hr o (by cases ho; cases lo <;> simp [Op.operands]))) (bnd_rep hmm (fun o ho => hr o (by cases ho; cases lo <;> simp [Op.operands]))) h1 h2m (by omega : m ≤ cap) rfl rfl
    refine ⟨.slice (if m = l then ad else ad.map (·.add (l * e.size))) (h - l) (m - l), w, ?_, rfl, rfl, rfl, rfl, ⟨?_, rfl⟩⟩
    · simp [execOp, hv, Instr.sliceAt, Instr.slice, run_underlying hu, hb, sizeOf, typeInfo, hi', hsz]
    · simp only [RepA, RepD, Value.cells]
      have hl : ((xs.take h).drop l).length = h - l := by rw [List.length_drop, List.length_take]; omega
      refine ⟨_, m - l, by rw [hl], by omega, by omega, ?_, ?_⟩
      · split
        · intro hn; rw [hn] at h00; have := h00 rfl; omega
        · intro hn
          rw [Option.map_eq_none_iff] at hn
          have := h00 hn; omega
      · by_cases hcl : m = l
        · have : (xs.take h).drop l = [] := by
            apply List.eq_nil_of_length_eq_zero; omega
          rw [if_pos hcl, this]
          cases ad with
          | none => rfl
          | some ad => exact .inl rfl
        · rw [if_neg hcl]
          cases ad with
          | none => have h5' : xs = [] := h5; rw [h5']; simp [SliceAt]
          | some ad =>
            rcases h5 with h5 | ⟨hs, him, cs, h6, h7⟩
            · rw [h5]; exact .inl (by simp)
            · obtain ⟨b, off, sp⟩ := ad
              simp only at hs him h6
              subst hs
              simp only [Option.map_some, addr_add, SliceAt]
              refine .inr ⟨trivial, him, (cs.take (h * e.size)).drop (l * e.size), ?_, RepL.drop (RepD.length e) (RepL.take (RepD.length e) h7 h) l⟩
              intro j v hj
              rw [List.getElem?_drop, List.getElem?_take] at hj
              split at hj
              · have := h6 _ _ hj; rw [Nat.add_assoc]; exact this
              · cases hj


end

section
variable {E : Env} {C : Ctx} {s : LSt} {k : E1 → Option R} {r : R} {dst : Option Tmp} {ty : TypeId} {pos : String} {aft : Array Edge} {gd : Option (Nat × Bool)}

/-- put into a list -/
def setN {α : Type} (xs : List α) (i : Nat) (y : α) : Option (List α) := bif Nat.blt i xs.length then some (xs.set i y) else none
theorem setN_some {α : Type} {xs zs : List α} {i : Nat} {y : α} (h : setN xs i y = some zs) : i < xs.length ∧ xs.set i y = zs := by
  unfold setN at h
  cases hb : Nat.blt i xs.length with
  | false => rw [hb] at h; cases h
  | true => rw [hb] at h; cases h; exact ⟨Nat.le_of_ble_eq_true hb, rfl⟩

/-- behind a freeze -/
theorem Does.frozen {o : Oper} {e : E1} (l : List Nat) (hk : k ⟨e.av, e.rd, e.wr ++ fzAll s.hp l, e.nx⟩ = some r) (h : OpOK E.P C o (e.eff o.dst) ⟨s.fr.get, hpSet (hget s.hp) (fzAll s.hp l)⟩) : Does E C o s k r :=
  ⟨_, hk, OpW.frozen (e := e) l h.w⟩

theorem ev_fz {E : Env} {C : Ctx} (hΓ : C.Γ = E.gam) (s : LSt) (hp : Hp) (x : Operand) : (⟨s.fr.get, hp⟩ : ASt).ev C x = s.ev E x := ev_eq hΓ s x

def opStore (E : Env) (t : TypeId) (x y : Operand) (s : LSt) (k : E1 → Option R) : Option R :=
  match s.ev E x with
  | .op o p off =>
    (match hget s.hp o with
    | some (.box v) => bif (s.ev E y).plain then setA v p (s.ev E y) (fun off' v' => bif Nat.beq off' off && tyN E.P t (s.ev E y).asize then k ⟨.undef, [], [(o, .box v')], s.nx⟩ else none) else none
    | _ => none)
  | .oe o m i =>
    let l := (s.ev E y).osl
    let fz := fzAll s.hp l
    (match hget (fz ++ s.hp) o with
    | some (.arr T e m' false xs) =>
      bif Nat.beq m m' && tyN E.P t e.size then
        (match toD (fz ++ s.hp) (s.ev E y) e with
        | some z => (setN xs i z).bind fun zs => k ⟨.undef, l, [(o, .arr T e m false zs)] ++ fz, s.nx⟩
        | none => none)
      else none
    | _ => none)
  | _ => none

theorem opStore_ok (hΓ : C.Γ = E.gam) {t : TypeId} {x y : Operand} (h : opStore E t x y s k = some r) : Does E C ⟨none, .store t x y, ty, pos, aft, gd⟩ s k r := by
  unfold opStore at h
  have ex := ev_eq hΓ s x
  have ey := ev_eq hΓ s y
  split at h
  · rename_i o p off hx
    rw [hx] at ex
    split at h
    · rename_i v ho
      cases hpl : (s.ev E y).plain with
      | false => rw [hpl] at h; cases h
      | true =>
        rw [hpl] at h
        obtain ⟨off', v', h1, h2⟩ := setA_some v p _ _ r h
        cases hb : Nat.beq off' off && tyN E.P t (s.ev E y).asize with
        | false => rw [hb] at h2; cases h2
        | true =>
          rw [hb] at h2
          simp only [Bool.and_eq_true] at hb
          obtain ⟨b, hty⟩ := tyN_spec hb.2
          exact .of _ h2 (ok_store_op ex ey hpl ho h1 (Nat.eq_of_beq_eq_true hb.1) hty)
    · cases h
  · rename_i o m i hx
    simp only at h
    split at h
    · rename_i T e m' xs ho
      cases hb : Nat.beq m m' && tyN E.P t e.size with
      | false => rw [hb] at h; cases h
      | true =>
        rw [hb] at h
        simp only [Bool.and_eq_true] at hb
        have hm := Nat.eq_of_beq_eq_true hb.1
        subst hm
        obtain ⟨b, hty⟩ := tyN_spec hb.2
        cases hz : toD (fzAll s.hp (s.ev E y).osl ++ s.hp) (s.ev E y) e with
        | none => simp only [cond_true, hz] at h; cases h
        | some z =>
          simp only [cond_true, hz] at h
          obtain ⟨zs, hzs, h⟩ := bind_some h
          obtain ⟨g1, rfl⟩ := setN_some hzs
          refine .frozen (e := ⟨.undef, (s.ev E y).osl, [(o, .arr T e m false (xs.set i z))], s.nx⟩) (s.ev E y).osl h ?_
          have hc := toD_some hz
          rw [hget_append] at hc ho
          exact ok_store_oeF (by rw [ev_fz hΓ, hx]) ho g1 (by rw [ev_fz hΓ]; exact hc) _ (by rw [ev_fz hΓ]; exact fun _ h => h) hty
    · cases h
  · cases h

/-! ### fields -/

def fld? (P : Program) (t : TypeId) (f : Nat) : Option Nat :=
  match P.underlying t with
  | some (.struct fs) => (match fs[f]? with | some fl => (match P.info? fl.type with | some i => bif Nat.beq i.size 0 then none else some fl.offset | none => none) | none => none)
  | _ => none
theorem fld_some {P : Program} {t : TypeId} {f o : Nat} (h : fld? P t f = some o) : FldAt P t f o := by
  unfold fld? at h
  split at h
  · rename_i fs hfs
    split at h
    · rename_i fl hfl
      split at h
      · rename_i i hi
        cases hb : Nat.beq i.size 0 with
        | true => rw [hb] at h; cases h
        | false => rw [hb] at h; cases h; exact ⟨fs, fl, i, hfs, hfl, rfl, hi, beq_ne hb⟩
      · cases h
    · cases h
  · cases h

def fldV? (P : Program) (t : TypeId) (f : Nat) : Option (Nat × Nat × Bool) :=
  match P.underlying t with
  | some (.struct fs) => (match fs[f]? with | some fl => (match tyS? P fl.type with | some (n, b) => some (fl.offset, n, b) | none => none) | none => none)
  | _ => none
theorem fldV_some {P : Program} {t : TypeId} {f o n : Nat} {b : Bool} (h : fldV? P t f = some (o, n, b)) : FldV P t f o n b := by
  unfold fldV? at h
  split at h
  · rename_i fs hfs
    split at h
    · rename_i fl hfl
      split at h
      · rename_i n' b' hi
        cases h
        exact ⟨fs, fl, hfs, hfl, rfl, tyS_some hi⟩
      · cases h
    · cases h
  · cases h

theorem ok_field_oeF {P : Program} {s : ASt} {t : TypeId} {x : Operand} {f kk off' o m i : Nat} {T : TypeId} {e τ' : Ty} {xs : List e.den} {z : e.den} {y' : τ'.den} (hx : s.ev C x = .oe o m i) (ho : s.hp o = some (.arr T e m true xs)) (hz : xs[i]? = some z)
    (hf : FldAt P t f kk) (hs : Sub (.d e z) [f] off' (.d τ' y')) (hoff : off' = kk) : OpOK P C ⟨dst, .fieldAddr t x f, ty, pos, aft, gd⟩ ⟨dst, .ip τ' y', [o], []⟩ s :=
  ok_read [o] fun w im μ hp ρ h hk hob => by
    subst hoff
    obtain ⟨hr, hag⟩ := hx ▸ h x (by simp [Op.operands])
    have hpo : hp o = some (.arr T e m true xs) := (hk o (by simp)).trans ho
    simp only [RepA] at hr
    obtain ⟨T', e', m', z', xs', ho', hle, u, hc, h1, hpl⟩ := hr
    rw [hpo] at ho'
    cases ho'
    obtain ⟨b, cap, hp1, rfl⟩ := hpl rfl
    have hlt : i < xs.length := (List.getElem?_eq_some_iff.1 hz).1
    rcases hob o _ hpo with ⟨ad, hp', rfl⟩ | ⟨hz', _⟩ | ⟨_, b', cap', cs, hp', him, _, _, hb, hl⟩
    · simp at hlt
    · cases hz'
    · obtain rfl : b' = b := by
        rcases hp1 with hp1 | hp1 <;> rw [hp1] at hp' <;> cases hp' <;> rfl
      have hv : ρ x = .pointer (some ⟨b', i * e.size, none⟩) := by
        generalize ρ x = v at hc hag
        cases v <;> simp_all [Value.cells, vIsAgg, AV.isAgg]
      obtain ⟨hg, hgl⟩ := RepL.get (RepD.length e) hl hz
      have hca2 := hb.sub (i * e.size) e.size
      rw [Nat.zero_add] at hca2
      obtain ⟨c1, c2, c3, hcs, hl1, hu⟩ := hs.sound (w := w) (im := im) (μ := μ) (hp := hp) _ (by simp only [RepA]; exact hg)
      rw [hcs] at hca2
      have hca3 := (CellsAt.append hca2).2
      rw [hl1] at hca3
      refine ⟨.pointer (some ⟨b', i * e.size + off', none⟩), w, ?_, rfl, rfl, rfl, rfl, ?_, rfl⟩
      · simp only [execOp, hv, Sem.run_bind, run_fieldAt hf, Result.andThen_ok]; rfl
      · simp only [RepA, Value.cells] at hu ⊢
        exact ⟨b', i * e.size + off', rfl, him, c2, (CellsAt.append hca3).1, hu⟩

def opFieldAddr (E : Env) (t : TypeId) (x : Operand) (f : Nat) (s : LSt) (k : E1 → Option R) : Option R :=
  match fld? E.P t f with
  | some kk =>
    (match s.ev E x with
    | .op o p off => k (s.pv (.op o (p ++ [f]) (off + kk)))
    | .ip τ y => subD τ y [f] (fun off' u => match u with | .d τ' y' => bif Nat.beq off' kk then k (s.pv (.ip τ' y')) else none | _ => none)
    | .oe o m i =>
      let fz := fzAll s.hp [o]
      (match hget (fz ++ s.hp) o with
      | some (.arr _ e m' true xs) =>
        bif Nat.beq m m' then
          (match xs[i]? with
          | some z => subD e z [f] (fun off' u => match u with | .d τ' y' => bif Nat.beq off' kk then k ⟨.ip τ' y', [o], fz, s.nx⟩ else none | _ => none)
          | none => none)
        else none
      | _ => none)
    | _ => none)
  | none => none

theorem opFieldAddr_ok (hΓ : C.Γ = E.gam) {t : TypeId} {x : Operand} {f : Nat} (h : opFieldAddr E t x f s k = some r) : Does E C ⟨dst, .fieldAddr t x f, ty, pos, aft, gd⟩ s k r := by
  unfold opFieldAddr at h
  have ex := ev_eq hΓ s x
  split at h
  · rename_i kk hf
    split at h
    · rename_i o p off hx
      rw [hx] at ex
      exact .of _ h (ok_field_op ex (fld_some hf) rfl rfl)
    · rename_i τ y hx
      rw [hx] at ex
      obtain ⟨off', u, h1, h2⟩ := subD_some τ y [f] _ r h
      split at h2
      · rename_i τ' y'
        cases hb : Nat.beq off' kk with
        | false => rw [hb] at h2; cases h2
        | true => rw [hb] at h2; exact .of _ h2 (ok_field_ip ex (fld_some hf) h1 (Nat.eq_of_beq_eq_true hb))
      · cases h2
    · rename_i o m i hx
      simp only at h
      split at h
      · rename_i T e m' xs ho
        cases hb : Nat.beq m m' with
        | false => rw [hb] at h; cases h
        | true =>
          rw [hb] at h
          have hm := Nat.eq_of_beq_eq_true hb
          subst hm
          simp only [cond_true] at h
          split at h
          · rename_i z hz
            obtain ⟨off', u, h1, h2⟩ := subD_some e z [f] _ r h
            split at h2
            · rename_i τ' y'
              cases hb : Nat.beq off' kk with
              | false => rw [hb] at h2; cases h2
              | true =>
                rw [hb] at h2
                refine .frozen (e := ⟨.ip τ' y', [o], [], s.nx⟩) [o] h2 ?_
                rw [hget_append] at ho
                exact ok_field_oeF (by rw [ev_fz hΓ, hx]) ho hz (fld_some hf) h1 (Nat.eq_of_beq_eq_true hb)
            · cases h2
          · cases h
      · cases h
    · cases h
  · cases h

def opField (E : Env) (t : TypeId) (x : Operand) (f : Nat) (s : LSt) (k : E1 → Option R) : Option R :=
  match fldV? E.P t f with
  | some (kk, n, b) =>
    bif (s.ev E x).plain && (s.ev E x).isAgg then
      subA (s.ev E x) [f] (fun off' u => bif Nat.beq off' kk && (Nat.beq u.asize n && (bif u.isAgg then b else !b)) then k (s.pv u) else none)
    else none
  | none => none

theorem opField_ok (hΓ : C.Γ = E.gam) {t : TypeId} {x : Operand} {f : Nat} (h : opField E t x f s k = some r) : Does E C ⟨dst, .field t x f, ty, pos, aft, gd⟩ s k r := by
  unfold opField at h
  have ex := ev_eq hΓ s x
  split at h
  · rename_i kk n b hf
    cases hb : (s.ev E x).plain && (s.ev E x).isAgg with
    | false => rw [hb] at h; cases h
    | true =>
      rw [hb] at h
      simp only [Bool.and_eq_true] at hb
      obtain ⟨off', u, h1, h2⟩ := subA_some _ [f] _ r h
      cases hc : Nat.beq off' kk && (Nat.beq u.asize n && (bif u.isAgg then b else !b)) with
      | false => rw [hc] at h2; cases h2
      | true =>
        rw [hc] at h2
        simp only [Bool.and_eq_true] at hc
        obtain ⟨c1, c2, c3⟩ := hc
        have hv := fldV_some hf
        rw [← Nat.eq_of_beq_eq_true c2] at hv
        have : b = u.isAgg := by cases hq : u.isAgg <;> rw [hq] at c3 <;> cases b <;> simp_all
        rw [this] at hv
        exact .of _ h2 (ok_fieldV ex hb.1 hb.2 h1 hv (Nat.eq_of_beq_eq_true c1))
  · cases h

/-! ### elements -/

def opIndexAddr (E : Env) (t : TypeId) (x y : Operand) (s : LSt) (k : E1 → Option R) : Option R :=
  match s.ev E x, s.ev E y with
  | .d (.slice e) xs, .d (.int _) n => bif slIs E.P t e.size then (idx xs n).bind fun z => k (s.pv (.ip e z)) else none
  | .ip (.arr m e) xs, .d (.int _) n => bif arIs E.P t m e.size then (idx xs n).bind fun z => k (s.pv (.ip e z)) else none
  | .os o m, .d (.int _) n =>
    (match hget s.hp o with
    | some (.arr _ e m' _ xs) => bif Nat.beq m m' && slIs E.P t e.size then (idx xs n).bind fun _ => k (s.pr (.oe o m n.toNat) [o]) else none
    | _ => none)
  | .ow o m j q, .d (.int _) n =>
    (match hget s.hp o with
    | some (.arr _ e m' _ xs) => bif Nat.beq m m' && (slIs E.P t e.size && (decide (0 ≤ n) && decide (n < q))) then (xs[j + n.toNat]?).bind fun _ => k (s.pr (.oe o m (j + n.toNat)) [o]) else none
    | _ => none)
  | .op o p off, .d (.int _) n =>
    (match hget s.hp o with
    | some (.box v) => subA v p (fun _ u => match u with | .d (.arr m e) xs => bif arIs E.P t m e.size then (idx xs n).bind fun _ => k (s.pr (.op o (p ++ [n.toNat]) (off + n.toNat * e.size)) [o]) else none | _ => none)
    | _ => none)
  | _, _ => none

theorem opIndexAddr_ok (hΓ : C.Γ = E.gam) {t : TypeId} {x y : Operand} (h : opIndexAddr E t x y s k = some r) : Does E C ⟨dst, .indexAddr t x y, ty, pos, aft, gd⟩ s k r := by
  unfold opIndexAddr at h
  have ex := ev_eq hΓ s x
  have ey := ev_eq hΓ s y
  split at h
  · rename_i e xs kk n hx hy
    rw [hx] at ex; rw [hy] at ey
    cases hb : slIs E.P t e.size with
    | false => rw [hb] at h; cases h
    | true =>
      rw [hb] at h
      obtain ⟨z, hz, h⟩ := bind_some h
      exact .of _ h (ok_index_d ex ey (slIs_spec hb) (idx_some hz).1 (idx_some hz).2)
  · rename_i m e xs kk n hx hy
    rw [hx] at ex; rw [hy] at ey
    cases hb : arIs E.P t m e.size with
    | false => rw [hb] at h; cases h
    | true =>
      rw [hb] at h
      obtain ⟨z, hz, h⟩ := bind_some h
      exact .of _ h (ok_index_ipArr ex ey (arIs_spec hb) (idx_some hz).1 (idx_some hz).2)
  · rename_i o m kk n hx hy
    rw [hx] at ex; rw [hy] at ey
    split at h
    · rename_i T e m' fz xs ho
      cases hb : Nat.beq m m' && slIs E.P t e.size with
      | false => rw [hb] at h; cases h
      | true =>
        rw [hb] at h
        simp only [Bool.and_eq_true] at hb
        have hm := Nat.eq_of_beq_eq_true hb.1
        subst hm
        obtain ⟨z, hz, h⟩ := bind_some h
        exact .of _ h (ok_index_os ex ho ey (slIs_spec hb.2) (idx_some hz).1 (idx_some hz).2)
    · cases h
  · rename_i o m j q kk n hx hy
    rw [hx] at ex; rw [hy] at ey
    split at h
    · rename_i T e m' fz xs ho
      cases hb : Nat.beq m m' && (slIs E.P t e.size && (decide (0 ≤ n) && decide (n < q))) with
      | false => rw [hb] at h; cases h
      | true =>
        rw [hb] at h
        simp only [Bool.and_eq_true, decide_eq_true_eq] at hb
        have hm := Nat.eq_of_beq_eq_true hb.1
        subst hm
        obtain ⟨z, hz, h⟩ := bind_some h
        exact .of _ h (ok_index_ow ex ho ey (slIs_spec hb.2.1) hb.2.2.1 hb.2.2.2)
    · cases h
  · rename_i o p off kk n hx hy
    rw [hx] at ex; rw [hy] at ey
    split at h
    · rename_i v ho
      obtain ⟨off1, u, h1, h2⟩ := subA_some v p _ r h
      split at h2
      · rename_i m e xs
        cases hb : arIs E.P t m e.size with
        | false => rw [hb] at h2; cases h2
        | true =>
          rw [hb] at h2
          obtain ⟨z, hz, h2⟩ := bind_some h2
          exact .of _ h2 (ok_index_opArr ex ho h1 ey (arIs_spec hb) (idx_some hz).1 (idx_some hz).2 rfl rfl)
      · cases h2
    · cases h
  · cases h

def isStr (P : Program) (t : TypeId) : Bool := match P.underlying t with | some .string => true | _ => false
theorem isStr_spec {P : Program} {t : TypeId} (h : isStr P t = true) : P.underlying t = some .string := by
  unfold isStr at h
  split at h
  · rename_i hm; exact hm
  · cases h

def arE? (E : Env) (t : TypeId) (m : Nat) (e : Ty) : Bool :=
  match E.P.underlying t with
  | some (.array m' T) => Nat.beq m' m && tyIs E.P T e.size e.isAgg && (match lk E.ty t with | some τ => decide (τ = .arr m e) | none => false)
  | _ => false
theorem arE_spec (hE : E.OK) {t : TypeId} {m : Nat} {e : Ty} (h : arE? E t m e = true) : ArE E.P t m e := by
  unfold arE? at h
  split at h
  · rename_i m' T hT
    simp only [Bool.and_eq_true] at h
    obtain ⟨⟨h1, h2⟩, h3⟩ := h
    split at h3
    · rename_i τ hτ
      have := of_decide_eq_true h3
      subst this
      obtain ⟨i, z, g1, g2, g3, g4, g5⟩ := (hE.ty _ (lk_mem hτ)).info
      rw [← Nat.eq_of_beq_eq_true h1] at *
      exact ⟨⟨T, hT, tyIs_spec h2⟩, ⟨i, z, g1, g4, g5⟩⟩
    · cases h3
  · cases h

def opIndex (E : Env) (t : TypeId) (x y : Operand) (s : LSt) (k : E1 → Option R) : Option R :=
  match s.ev E x, s.ev E y with
  | .d .str l, .d (.int _) n => bif isStr E.P t then (sidx l n).bind fun z => k (s.pv (.d (.int .u8) z)) else none
  | .d (.arr m e) xs, .d (.int _) n => bif arE? E t m e then (idx xs n).bind fun z => k (s.pv (.d e z)) else none
  | _, _ => none

theorem opIndex_ok (hE : E.OK) (hΓ : C.Γ = E.gam) {t : TypeId} {x y : Operand} (h : opIndex E t x y s k = some r) : Does E C ⟨dst, .index t x y, ty, pos, aft, gd⟩ s k r := by
  unfold opIndex at h
  have ex := ev_eq hΓ s x
  have ey := ev_eq hΓ s y
  split at h
  · rename_i l kk n hx hy
    rw [hx] at ex; rw [hy] at ey
    cases hb : isStr E.P t with
    | false => rw [hb] at h; cases h
    | true =>
      rw [hb] at h
      obtain ⟨z, hz, h⟩ := bind_some h
      obtain ⟨h0, b, hb2, rfl⟩ := sidx_some hz
      exact .of _ h (ok_index_str ex ey (isStr_spec hb) h0 hb2)
  · rename_i m e xs kk n hx hy
    rw [hx] at ex; rw [hy] at ey
    cases hb : arE? E t m e with
    | false => rw [hb] at h; cases h
    | true =>
      rw [hb] at h
      obtain ⟨z, hz, h⟩ := bind_some h
      exact .of _ h (ok_index_arr ex ey (arE_spec hE hb) hz)
  · cases h

/-! ### cuts -/

def bnd? (E : Env) (s : LSt) (x : Option Operand) (dflt : Int) : Option Int :=
  match x with
  | none => some dflt
  | some x => (match s.ev E x with | .d (.int _) n => some n | _ => none)
theorem bnd_is (hΓ : C.Γ = E.gam) {x : Option Operand} {dflt : Nat} {z : Int} (h : bnd? E s x dflt = some z) (h0 : 0 ≤ z) (hp : Hp) : BndIs C ⟨s.fr.get, hp⟩ x dflt z.toNat := by
  unfold bnd? at h
  split at h
  · cases h; simp [BndIs]
  · rename_i y
    split at h
    · rename_i kk n hn
      cases h
      exact ⟨kk, z, by rw [ev_fz hΓ]; exact hn, h0, rfl⟩
    · cases h

def isZero (E : Env) (s : LSt) (x : Operand) : Bool := match s.ev E x with | .d (.int .i64) n => n == 0 | _ => false
theorem isZero_spec (hΓ : C.Γ = E.gam) {x : Operand} (h : isZero E s x = true) : s.toA.ev C x = .d (.int .i64) 0 := by
  unfold isZero at h
  rw [ev_eq hΓ]
  split at h
  · rename_i n hn
    have : n = 0 := by simpa using h
    rw [hn, this]
  · cases h

theorem ok_slice_nils {P : Program} {s : ASt} {t : TypeId} {x : Operand} {lo hi : Option Operand} {esz : Nat} (hx : s.ev C x = .nils) (ht : SlT P t esz) (hlo : BndIs C s lo 0 0) (hhi : BndIs C s hi 0 0) :
    OpOK P C ⟨dst, .slice t x lo hi none, ty, pos, aft, gd⟩ ⟨dst, .nils, [], []⟩ s :=
  ok_pure fun w im μ hp ρ hr => by
    obtain ⟨hA, hag⟩ := hx ▸ hr x (by simp [Op.operands])
    simp only [RepA] at hA
    have hv := slice_of_cells hA hag
    obtain ⟨et, i, hu, hi', hsz⟩ := ht
    have hb := run_bounds (P := P) w (len := 0) (cap := 0) (bnd_rep hlo (fun o ho => hr o (by subst ho; simp [Op.operands]))) (bnd_rep hhi (fun o ho => hr o (by subst ho; cases lo <;> simp [Op.operands]))) (Nat.le_refl _) (Nat.le_refl _) true
    refine ⟨.slice none 0 0, ?_, ⟨by simp only [RepA, Value.cells], rfl⟩⟩
    simp [execOp, hv, Instr.sliceAt, Instr.slice, run_underlying hu, hb, sizeOf, typeInfo, hi']

/-- x[:k], x given up -/
theorem ok_slice_trunc {P : Program} {s : ASt} {t : TypeId} {x : Operand} {hi : Option Operand} {o n kk : Nat} {T : TypeId} {e : Ty} {xs : List e.den} (hx : s.ev C x = .os o n) (ho : s.hp o = some (.arr T e n false xs)) (ht : SlT P t e.size)
    (hhi : BndIs C s hi xs.length kk) (hk : kk ≤ xs.length) : OpOK P C ⟨dst, .slice t x none hi none, ty, pos, aft, gd⟩ ⟨dst, .os o (n + 1), [], [(o, .arr T e (n + 1) false (xs.take kk))]⟩ s := by
  intro s1 hop hhp im μ a w hi' hd
  have hx1 : s1.ev C x = .os o n := (hop x (by simp [Op.operands])).trans hx
  have ho1 : s1.hp o = some (.arr T e n false xs) := (hhp o (.inr (by simp))).trans ho
  have hh1 : BndIs C s1 hi xs.length kk := by
    cases hi with
    | none => exact hhi
    | some y =>
      obtain ⟨k, z, h1, h2, h3⟩ := hhi
      exact ⟨k, z, (hop y (by simp [Op.operands])).trans h1, h2, h3⟩
  obtain ⟨hr, hag⟩ := hx1 ▸ hi'.ev x
  simp only [RepA] at hr
  obtain ⟨T', e', m', z', xs', ho', hle, u, hc, h1, hpl⟩ := hr
  rw [ho1] at ho'
  cases ho'
  have hpl2 := hpl rfl
  clear hpl
  have hv : a.eval x = u := by
    have : (a.eval x).cells.toList = [u] := hc
    generalize a.eval x = v at this hag
    cases v <;> simp_all [Value.cells, vIsAgg, AV.isAgg]
  obtain ⟨et, i, hu, hi2, hsz⟩ := ht
  have hlt : (xs.take kk).length = kk := by rw [List.length_take]; omega
  have key : ∃ v', (execOp a.eval ⟨dst, .slice t x none hi none, ty, pos, aft, gd⟩).run P w = .ok (.value v') w ∧ v'.oneCell' = true ∧ PlSlice (μ o) kk v' ∧
      ((∃ a, μ o = .nil a ∧ xs.take kk = []) ∨ (false = false ∧ ∃ b cap cells, μ o = .row b cap ∧ w.heap[b]? = some (.cells cells T (0, 0)) ∧ (xs.take kk).length ≤ cap ∧ cap ≤ maxLen ∧ cells.size = cap * e.size ∧ RepL (RepD w im e) (cells.toList.take ((xs.take kk).length * e.size)) (xs.take kk))) := by
    rcases hi'.obj o _ ho1 with ⟨ad, hp', rfl⟩ | ⟨_, b, cap, cells, hp', hb, hcap, hmax, hsz', hl⟩ | ⟨hz, _⟩
    · simp only [List.length_nil, Nat.le_zero] at hk
      subst hk
      rw [hp'] at hpl2 ⊢
      simp only [PlSlice] at hpl2
      subst hpl2
      have hb := run_bounds (P := P) w (lo := none) (len := 0) (cap := 0) rfl (bnd_rep hh1 (fun o _ => hi'.ev o)) (Nat.le_refl _) (Nat.le_refl _) true
      refine ⟨.slice ad 0 0, ?_, rfl, rfl, .inl ⟨ad, rfl, rfl⟩⟩
      simp [execOp, hv, Instr.sliceAt, Instr.slice, run_underlying hu, hb, sizeOf, typeInfo, hi2, hsz]
    · rw [hp'] at hpl2 ⊢
      simp only [PlSlice] at hpl2
      subst hpl2
      have hb2 := run_bounds (P := P) w (lo := none) (len := xs.length) (cap := cap) rfl (bnd_rep hh1 (fun o _ => hi'.ev o)) (Nat.zero_le kk) (by omega) true
      refine ⟨.slice (some ⟨b, 0, none⟩) kk cap, ?_, rfl, rfl, .inr ⟨rfl, b, cap, cells, rfl, hb, by omega, hmax, hsz', ?_⟩⟩
      · by_cases hc0 : cap = 0
        · rw [hc0] at hb2 hv ⊢
          simp [execOp, hv, Instr.sliceAt, Instr.slice, run_underlying hu, hb2, sizeOf, typeInfo, hi2, hsz]
        · simp [execOp, hv, Instr.sliceAt, Instr.slice, run_underlying hu, hb2, sizeOf, typeInfo, hi2, hsz, hc0, addr_add]
      · have := RepL.take (RepD.length e) hl kk
        rw [List.take_take] at this
        rw [hlt]
        rw [Nat.min_eq_left (Nat.mul_le_mul_right _ hk)] at this
        exact this
    · cases hz
  obtain ⟨v', g1, g2, g3, g4⟩ := key
  have hev : ∀ ob, s1.hp o = some ob → ObEv ob (μ o) (.arr T e (n + 1) false (xs.take kk)) (μ o) := by
    intro ob hob
    rw [ho1] at hob
    obtain rfl := Option.some.inj hob
    exact ⟨_, _, _, rfl, .inr (Nat.lt_succ_self _)⟩
  have hw : WStep w w (μ o).blk := ⟨rfl, rfl, rfl, Nat.le_refl _, fun _ _ _ => rfl⟩
  have ev := hi'.evObj hev hw
  refine ⟨v', w, im, _, .inl g1, hi'.obj1 hev hw (fun b hb => ⟨(hi'.sep o b hb).2.1, .inl hb⟩) ?_ hd ?_⟩
  · rcases g4 with ⟨b, h2, h3⟩ | ⟨h0, b, cap, cells, h2, h3, h4, h5, h6, h7⟩
    · exact .inl ⟨b, h2, h3⟩
    · exact .inr (.inl ⟨rfl, b, cap, cells, h2, h3, h4, h5, h6, RepL.mono (RepD.mono ev.fim ev.fheap e) _ _ h7⟩)
  · refine RepV.ofA ?_ (by cases v' <;> simp_all [Value.oneCell', vIsAgg, AV.isAgg])
    simp only [RepA]
    exact ⟨T, e, _, _, _, hpSet_one _ _ _, Nat.le_refl _, v', by rw [(one_cells g2).1], g2, fun _ => by rw [updMu_same, hlt]; exact g3⟩

/-- a window in an array of one's own -/
theorem ok_slice_osw {P : Program} {s : ASt} {t : TypeId} {x : Operand} {lo hi : Option Operand} {o n l h : Nat} {T : TypeId} {e : Ty} {fz : Bool} {xs : List e.den} (hx : s.ev C x = .os o n) (ho : s.hp o = some (.arr T e n fz xs)) (ht : SlT P t e.size)
    (hlo : BndIs C s lo 0 l) (hhi : BndIs C s hi xs.length h) (h1 : l < h) (h2 : h ≤ xs.length) : OpOK P C ⟨dst, .slice t x lo hi none, ty, pos, aft, gd⟩ ⟨dst, .ow o n l (h - l), [o], []⟩ s :=
  ok_read [o] fun w im μ hp ρ hr hk hob => by
    obtain ⟨hA, hag⟩ := hx ▸ hr x (by simp [Op.operands])
    have hpo : hp o = some (.arr T e n fz xs) := (hk o (by simp)).trans ho
    simp only [RepA] at hA
    obtain ⟨T', e', m', z', xs', ho', hle, u, hc, hu1, hpl⟩ := hA
    rw [hpo] at ho'
    cases ho'
    have hpl2 := hpl rfl
    clear hpl
    obtain ⟨et, i, hu, hi', hsz⟩ := ht
    rcases (hob o _ hpo).arr with ⟨ad, hp', rfl⟩ | ⟨b, cap, cs, hp', hcap, _⟩
    · simp at h2; omega
    · have hpl3 : u = .slice (some ⟨b, 0, none⟩) xs.length cap := by rcases hp' with hp' | hp' <;> rw [hp'] at hpl2 <;> exact hpl2
      subst hpl3
      have hv := slice_of_cells hc hag
      have hb := run_bounds (P := P) w (len := xs.length) (cap := cap) (bnd_rep hlo (fun o ho => hr o (by subst ho; simp [Op.operands]))) (bnd_rep hhi (fun o ho => hr o (by subst ho; cases lo <;> simp [Op.operands]))) (Nat.le_of_lt h1) (by omega) true
      have hne : ¬ cap = l := by omega
      refine ⟨.slice (some ⟨b, l * e.size, none⟩) (h - l) (cap - l), w, ?_, rfl, rfl, rfl, rfl, ⟨?_, rfl⟩⟩
      · simp [execOp, hv, Instr.sliceAt, Instr.slice, run_underlying hu, hb, sizeOf, typeInfo, hi', hsz, hne, addr_add]
      · simp only [RepA, Value.cells]
        exact ⟨T, e, n, fz, xs, hpo, Nat.le_refl _, _, rfl, rfl, fun _ => ⟨b, cap, hp', rfl⟩⟩

/-- a window in a window -/
theorem ok_slice_ow {P : Program} {s : ASt} {t : TypeId} {x : Operand} {lo hi : Option Operand} {o n j q l h : Nat} {T : TypeId} {e : Ty} {fz : Bool} {xs : List e.den} (hx : s.ev C x = .ow o n j q) (ho : s.hp o = some (.arr T e n fz xs)) (ht : SlT P t e.size)
    (hlo : BndIs C s lo 0 l) (hhi : BndIs C s hi q h) (h1 : l < h) (h2 : j + h ≤ xs.length) : OpOK P C ⟨dst, .slice t x lo hi none, ty, pos, aft, gd⟩ ⟨dst, .ow o n (j + l) (h - l), [o], []⟩ s :=
  ok_read [o] fun w im μ hp ρ hr hk hob => by
    obtain ⟨hA, hag⟩ := hx ▸ hr x (by simp [Op.operands])
    have hpo : hp o = some (.arr T e n fz xs) := (hk o (by simp)).trans ho
    simp only [RepA] at hA
    obtain ⟨T', e', m', z', xs', ho', hle, u, hc, hu1, hpl⟩ := hA
    rw [hpo] at ho'
    cases ho'
    obtain ⟨b, cap, hp1, rfl⟩ := hpl rfl
    obtain ⟨et, i, hu, hi', hsz⟩ := ht
    rcases (hob o _ hpo).arr with ⟨ad, hp', rfl⟩ | ⟨b', cap', cs, hp', hcap, _⟩
    · simp at h2; omega
    · obtain ⟨rfl, rfl⟩ : b' = b ∧ cap' = cap := by
        rcases hp1 with hp1 | hp1 <;> rcases hp' with hp' | hp' <;> rw [hp1] at hp' <;> cases hp' <;> exact ⟨rfl, rfl⟩
      have hv := slice_of_cells hc hag
      have hb := run_bounds (P := P) w (len := q) (cap := cap' - j) (bnd_rep hlo (fun o ho => hr o (by subst ho; simp [Op.operands]))) (bnd_rep hhi (fun o ho => hr o (by subst ho; cases lo <;> simp [Op.operands]))) (Nat.le_of_lt h1) (by omega) true
      have hne : ¬ cap' - j = l := by omega
      refine ⟨.slice (some ⟨b', (j + l) * e.size, none⟩) (h - l) (cap' - (j + l)), w, ?_, rfl, rfl, rfl, rfl, ⟨?_, rfl⟩⟩
      · simp [execOp, hv, Instr.sliceAt, Instr.slice, run_underlying hu, hb, sizeOf, typeInfo, hi', hsz, hne, addr_add, Nat.add_mul, Nat.sub_sub]
      · simp only [RepA, Value.cells]
        exact ⟨T, e, n, fz, xs, hpo, Nat.le_refl _, _, rfl, rfl, fun _ => ⟨b', cap', hp', rfl⟩⟩

/-- a window's bounds -/
def win (len : Nat) (l h : Int) : Option (Nat × Nat) := bif decide (0 ≤ l) && (decide (l < h) && decide (h ≤ len)) then some (l.toNat, (h - l).toNat) else none
theorem win_some {len : Nat} {l h : Int} {p : Nat × Nat} (hw : win len l h = some p) : 0 ≤ l ∧ l < h ∧ h ≤ len ∧ p = (l.toNat, h.toNat - l.toNat) := by
  unfold win at hw
  cases hb : decide (0 ≤ l) && (decide (l < h) && decide (h ≤ len)) with
  | false => rw [hb] at hw; cases hw
  | true =>
    rw [hb] at hw
    simp only [Bool.and_eq_true, decide_eq_true_eq] at hb
    cases hw
    exact ⟨hb.1, hb.2.1, hb.2.2, by rw [show (h - l).toNat = h.toNat - l.toNat by omega]⟩

/-- where x[l:h] is written through: the text's places -/
def keepAt (pos : String) : Bool := pos == "linear.go:45" || pos == "move.go:92" || pos == "slices.go:528"

/-- where x[:k] gives up x: the text's places -/
def truncAt (pos : String) : Bool := pos == "slices.go:428"

/-- x[l:h:m] -/
def opSlice3 (E : Env) (t : TypeId) (x : Operand) (lo : Option Operand) (hh mm : Operand) (s : LSt) (k : E1 → Option R) : Option R :=
  let fz := fzAll s.hp (s.ev E x).osl
  match srcA (fz ++ s.hp) (s.ev E x) none with
  | some ⟨e, _⟩ =>
    bif slIs E.P t e.size then
      (match toD (fz ++ s.hp) (s.ev E x) (.slice e), bnd? E s lo 0, bnd? E s (some hh) 0, bnd? E s (some mm) 0 with
      | some ys, some a, some b, some m => bif decide (0 ≤ m) && decide (b ≤ m) && decide (m ≤ ys.length) then (cut ys a b).bind fun zs => k ⟨.d (.slice e) zs, (s.ev E x).osl, fz, s.nx⟩ else none
      | _, _, _, _ => none)
    else none
  | none => none

theorem opSlice3_ok (hΓ : C.Γ = E.gam) {t : TypeId} {x hh mm : Operand} {lo : Option Operand} (h : opSlice3 E t x lo hh mm s k = some r) : Does E C ⟨dst, .slice t x lo (some hh) (some mm), ty, pos, aft, gd⟩ s k r := by
  unfold opSlice3 at h
  simp only at h
  split at h
  · rename_i e xs hs
    cases hb : slIs E.P t e.size with
    | false => rw [hb] at h; cases h
    | true =>
      rw [hb] at h
      simp only [cond_true] at h
      split at h
      · rename_i ys a b m hy ha hb2 hm2
        cases hc : decide (0 ≤ m) && decide (b ≤ m) && decide (m ≤ (ys.length : Int)) with
        | false => rw [hc] at h; cases h
        | true =>
          rw [hc] at h
          simp only [Bool.and_eq_true, decide_eq_true_eq] at hc
          simp only [cond_true] at h
          obtain ⟨zs, hz, h⟩ := bind_some h
          obtain ⟨c1, c2, c3, c4, rfl⟩ := cut_some hz
          refine .frozen (e := ⟨.d (.slice e) ((ys.take b.toNat).drop a.toNat), (s.ev E x).osl, [], s.nx⟩) (s.ev E x).osl h ?_
          have hcd := toD_some hy
          rw [hget_append] at hcd
          exact ok_slice3_F (by rw [ev_fz hΓ]; exact hcd) _ (by rw [ev_fz hΓ]; exact fun _ h => h) (slIs_spec hb) (bnd_is hΓ (dflt := 0) ha c1 _) (bnd_is hΓ (dflt := 0) hb2 c3 _) (bnd_is hΓ (dflt := 0) hm2 hc.1.1 _) (by omega) (by omega) c2 c4
      · cases h
  · cases h

/-- the element type, and is the slice type one of its? -/
def opSlice (E : Env) (tr kp : Bool) (t : TypeId) (x : Operand) (lo hi mx : Option Operand) (s : LSt) (k : E1 → Option R) : Option R :=
  match mx with
  | none =>
    (match s.ev E x with
    | .nils => bif (match E.P.underlying t with | some (.slice e) => (match E.P.info? e with | some _ => true | none => false) | _ => false) then
        (match bnd? E s lo 0 with
        | some a => (match bnd? E s hi 0 with | some b => bif (a == 0) && (b == 0) then k (s.pv .nils) else none | none => none)
        | none => none)
      else none
    | .d .str l =>
      bif isStr E.P t then
        (match bnd? E s lo 0 with
        | some a => (match bnd? E s hi l.length with | some b => (cut l a b).bind fun zs => k (s.pv (.d .str zs)) | none => none)
        | none => none)
      else none
    | .d (.slice e) xs =>
      bif slIs E.P t e.size then
        (match bnd? E s lo 0 with
        | some a => (match bnd? E s hi xs.length with | some b => (cut xs a b).bind fun zs => k (s.pv (.d (.slice e) zs)) | none => none)
        | none => none)
      else none
    | .os o n =>
      bif tr then
        (match lo with
        | some _ => none
        | none =>
          (match hget s.hp o with
          | some (.arr T e m false xs) =>
            bif Nat.beq n m && slIs E.P t e.size then
              (match bnd? E s hi xs.length with
              | some b => (cut xs 0 b).bind fun zs => k ⟨.os o (n + 1), [], [(o, .arr T e (n + 1) false zs)], s.nx⟩
              | none => none)
            else none
          | _ => none))
      else bif kp then
        (match hget s.hp o with
        | some (.arr _ e m _ xs) =>
          bif Nat.beq n m && slIs E.P t e.size then
            (match bnd? E s lo 0 with
            | some a => (match bnd? E s hi xs.length with | some b => (win xs.length a b).bind fun p => k (s.pr (.ow o n p.1 p.2) [o]) | none => none)
            | none => none)
          else none
        | _ => none)
      else
      let fz := fzAll s.hp [o]
      (match hget (fz ++ s.hp) o with
      | some (.arr _ e m true xs) =>
        bif Nat.beq n m && slIs E.P t e.size then
          (match bnd? E s lo 0 with
          | some a => (match bnd? E s hi xs.length with | some b => (cut xs a b).bind fun zs => k ⟨.d (.slice e) zs, [o], fz, s.nx⟩ | none => none)
          | none => none)
        else none
      | _ => none)
    | .ow o n j q =>
      (match hget s.hp o with
      | some (.arr _ e m _ xs) =>
        bif Nat.beq n m && slIs E.P t e.size then
          (match bnd? E s lo 0 with
          | some a => (match bnd? E s hi q with | some b => (win q a b).bind fun p => bif Nat.ble (j + q) xs.length then k (s.pr (.ow o n (j + p.1) p.2) [o]) else none | none => none)
          | none => none)
        else none
      | _ => none)
    | _ => none)
  | some m =>
    (match hi with
    | none => none
    | some h =>
      bif isZero E s h && isZero E s m then
        (match lo with
        | some _ => none
        | none =>
          (match E.P.underlying t with
          | some (.slice T) => (match srcA s.hp (s.ev E x) (lk E.ty T) with | some ⟨e, _⟩ => bif slIs E.P t e.size then k (s.pr .emp (s.ev E x).objs) else none | none => none)
          | _ => none))
      else opSlice3 E t x lo h m s k)

theorem opSlice_ok (hΓ : C.Γ = E.gam) {tr kp : Bool} {t : TypeId} {x : Operand} {lo hi mx : Option Operand} (h : opSlice E tr kp t x lo hi mx s k = some r) : Does E C ⟨dst, .slice t x lo hi mx, ty, pos, aft, gd⟩ s k r := by
  unfold opSlice at h
  have ex := ev_eq hΓ s x
  split at h
  · split at h
    · rename_i hx
      rw [hx] at ex
      cases hb : (match E.P.underlying t with | some (.slice e) => (match E.P.info? e with | some _ => true | none => false) | _ => false) with
      | false => rw [hb] at h; cases h
      | true =>
        rw [hb] at h
        simp only [cond_true] at h
        split at h
        · rename_i a ha
          split at h
          · rename_i b hb2
            cases hab : (a == 0) && (b == 0) with
            | false => rw [hab] at h; cases h
            | true =>
              rw [hab] at h
              simp only [Bool.and_eq_true, beq_iff_eq] at hab
              obtain ⟨rfl, rfl⟩ := hab
              split at hb
              · rename_i e he
                split at hb
                · rename_i i hi'
                  exact .of _ h (ok_slice_nils ex ⟨e, i, he, hi', rfl⟩ (bnd_is hΓ (dflt := 0) ha (Int.le_refl 0) _) (bnd_is hΓ (dflt := 0) hb2 (Int.le_refl 0) _))
                · cases hb
              · cases hb
          · cases h
        · cases h
    · rename_i l hx
      rw [hx] at ex
      cases hb : isStr E.P t with
      | false => rw [hb] at h; cases h
      | true =>
        rw [hb] at h
        simp only [cond_true] at h
        split at h
        · rename_i a ha
          split at h
          · rename_i b hb2
            obtain ⟨zs, hz, h⟩ := bind_some h
            obtain ⟨c1, c2, c3, c4, rfl⟩ := cut_some hz
            exact .of _ h (ok_slice_str ex (isStr_spec hb) (bnd_is hΓ (dflt := 0) ha c1 _) (bnd_is hΓ hb2 c3 _) c2 c4)
          · cases h
        · cases h
    · rename_i e xs hx
      rw [hx] at ex
      cases hb : slIs E.P t e.size with
      | false => rw [hb] at h; cases h
      | true =>
        rw [hb] at h
        simp only [cond_true] at h
        split at h
        · rename_i a ha
          split at h
          · rename_i b hb2
            obtain ⟨zs, hz, h⟩ := bind_some h
            obtain ⟨c1, c2, c3, c4, rfl⟩ := cut_some hz
            exact .of _ h (ok_slice_d ex (slIs_spec hb) (bnd_is hΓ (dflt := 0) ha c1 _) (bnd_is hΓ hb2 c3 _) c2 c4)
          · cases h
        · cases h
    · rename_i o n hx
      cases htr : tr with
      | true =>
        rw [htr] at h
        simp only [cond_true] at h
        rw [hx] at ex
        split at h
        · cases h
        · split at h
          · rename_i T e m xs ho
            cases hb : Nat.beq n m && slIs E.P t e.size with
            | false => rw [hb] at h; cases h
            | true =>
              rw [hb] at h
              simp only [Bool.and_eq_true] at hb
              have hm := Nat.eq_of_beq_eq_true hb.1
              subst hm
              simp only [cond_true] at h
              split at h
              · rename_i b hb2
                obtain ⟨zs, hz, h⟩ := bind_some h
                obtain ⟨c1, c2, c3, c4, rfl⟩ := cut_some hz
                have := ok_slice_trunc (dst := dst) (ty := ty) (pos := pos) (aft := aft) (gd := gd) ex ho (slIs_spec hb.2) (bnd_is hΓ hb2 c3 _) c4
                rw [show (xs.take b.toNat).drop (0 : Int).toNat = xs.take b.toNat from rfl] at h
                exact .of _ h this
              · cases h
          · cases h
      | false =>
      rw [htr] at h
      simp only [cond_false] at h
      cases hkp : kp with
      | true =>
        rw [hkp] at h
        simp only [cond_true] at h
        rw [hx] at ex
        split at h
        · rename_i T e m fz xs ho
          cases hb : Nat.beq n m && slIs E.P t e.size with
          | false => rw [hb] at h; cases h
          | true =>
            rw [hb] at h
            simp only [Bool.and_eq_true] at hb
            have hm := Nat.eq_of_beq_eq_true hb.1
            subst hm
            simp only [cond_true] at h
            split at h
            · rename_i a ha
              split at h
              · rename_i b hb2
                obtain ⟨p, hz, h⟩ := bind_some h
                obtain ⟨c1, c2, c3, rfl⟩ := win_some hz
                exact .of _ h (ok_slice_osw ex ho (slIs_spec hb.2) (bnd_is hΓ (dflt := 0) ha c1 _) (bnd_is hΓ hb2 (by omega) _) (by omega) (by omega))
              · cases h
            · cases h
        · cases h
      | false =>
      rw [hkp] at h
      simp only [cond_false] at h
      split at h
      · rename_i T e m xs ho
        cases hb : Nat.beq n m && slIs E.P t e.size with
        | false => rw [hb] at h; cases h
        | true =>
          rw [hb] at h
          simp only [Bool.and_eq_true] at hb
          have hm := Nat.eq_of_beq_eq_true hb.1
          subst hm
          simp only [cond_true] at h
          split at h
          · rename_i a ha
            split at h
            · rename_i b hb2
              obtain ⟨zs, hz, h⟩ := bind_some h
              obtain ⟨c1, c2, c3, c4, rfl⟩ := cut_some hz
              refine .frozen (e := ⟨.d (.slice e) ((xs.take b.toNat).drop a.toNat), [o], [], s.nx⟩) [o] h ?_
              rw [hget_append] at ho
              exact ok_slice_F (by rw [ev_fz hΓ, hx]; exact .os ho) _ (by rw [ev_fz hΓ, hx]; exact fun _ h => h) (slIs_spec hb.2) (bnd_is hΓ (dflt := 0) ha c1 _) (bnd_is hΓ hb2 c3 _) c2 c4
            · cases h
          · cases h
      · cases h
    · rename_i o n j q hx
      rw [hx] at ex
      split at h
      · rename_i T e m fz xs ho
        cases hb : Nat.beq n m && slIs E.P t e.size with
        | false => rw [hb] at h; cases h
        | true =>
          rw [hb] at h
          simp only [Bool.and_eq_true] at hb
          have hm := Nat.eq_of_beq_eq_true hb.1
          subst hm
          simp only [cond_true] at h
          split at h
          · rename_i a ha
            split at h
            · rename_i b hb2
              obtain ⟨p, hz, h⟩ := bind_some h
              obtain ⟨c1, c2, c3, rfl⟩ := win_some hz
              cases hb3 : Nat.ble (j + q) xs.length with
              | false => rw [hb3] at h; cases h
              | true =>
                rw [hb3] at h
                have := Nat.le_of_ble_eq_true hb3
                exact .of _ h (ok_slice_ow ex ho (slIs_spec hb.2) (bnd_is hΓ (dflt := 0) ha c1 _) (bnd_is hΓ hb2 (by omega) _) (by omega) (by omega))
            · cases h
          · cases h
      · cases h
    · cases h
  · rename_i m
    split at h
    · cases h
    · rename_i hh
      cases hb : isZero E s hh && isZero E s m with
      | false => rw [hb] at h; exact opSlice3_ok hΓ h
      | true =>
        rw [hb] at h
        simp only [cond_true] at h
        simp only [Bool.and_eq_true] at hb
        split at h
        · cases h
        · split at h
          · rename_i T hT
            split at h
            · rename_i e xs hs
              cases hb3 : slIs E.P t e.size with
              | false => rw [hb3] at h; cases h
              | true =>
                rw [hb3] at h
                exact .of _ h (ok_slice_emp ex (srcA_some hs) (slIs_spec hb3) rfl (isZero_spec hΓ hb.1) (isZero_spec hΓ hb.2))
            · cases h
          · cases h

/-! ### make, append, len, min, max -/

def sameOp : Operand → Operand → Bool
  | .tmp a, .tmp b => Nat.beq a b
  | _, _ => false
theorem sameOp_spec {x y : Operand} (h : sameOp x y = true) : x = y := by
  unfold sameOp at h
  split at h
  · rw [Nat.eq_of_beq_eq_true h]
  · cases h

def opMake (E : Env) (t : TypeId) (x y : Operand) (s : LSt) (k : E1 → Option R) : Option R :=
  match elT? E t, s.ev E x, s.ev E y with
  | some (T, e), .d (.int _) n, .d (.int _) n' => bif sameOp x y || n == n' then (mk n (zden e)).bind fun l => free? s.hp s.nx (k ⟨.os s.nx 0, [], [(s.nx, .arr T e 0 false l)], s.nx + 1⟩) else none
  | _, _, _ => none

theorem opMake_ok (hE : E.OK) (hΓ : C.Γ = E.gam) {d : Nat} {t : TypeId} {x y : Operand} (h : opMake E t x y s k = some r) : Does E C ⟨some d, .makeSlice t x y, ty, pos, aft, gd⟩ s k r := by
  unfold opMake at h
  have ex := ev_eq hΓ s x
  have ey := ev_eq hΓ s y
  split at h
  · rename_i T e k1 n k2 n' hT hx hy
    rw [hx] at ex; rw [hy] at ey
    cases hb : sameOp x y || n == n' with
    | false => rw [hb] at h; cases h
    | true =>
      rw [hb] at h
      obtain ⟨l, hl, h⟩ := bind_some h
      obtain ⟨h0, h⟩ := free_some h
      obtain ⟨m1, m2, rfl⟩ := mk_some hl
      have hn : n' = n := by
        simp only [Bool.or_eq_true, beq_iff_eq] at hb
        rcases hb with hb | hb
        · have := sameOp_spec hb
          subst this
          rw [hx] at hy; cases hy; rfl
        · exact hb.symm
      subst hn
      exact .of _ h (ok_makeSlice (elT_some hE hT) h0 ex ey m1 m2)
  · cases h

def castL (e e' : Ty) (xs : List e.den) : Option (List e'.den) := if h : e = e' then some (h ▸ xs) else none

theorem ok_cap_nil {P : Program} {s : ASt} {x : Operand} {t : TypeId} {T : TypeId} (hx : s.ev C x = .nils ∨ s.ev C x = .emp) (ht : P.underlying t = some (.slice T)) :
    OpOK P C ⟨dst, .call ⟨.builtin .cap, #[x], #[t]⟩, ty, pos, aft, gd⟩ ⟨dst, .d (.int .i64) 0, [], []⟩ s :=
  ok_pure fun w im μ hp ρ h => by
    obtain ⟨ad, hv⟩ : ∃ ad, ρ x = .slice ad 0 0 := by
      have hrx := h x (by simp [Op.operands, Call.operands])
      rcases hx with hx | hx <;> rw [hx] at hrx <;> obtain ⟨hr, hag⟩ := hrx <;> simp only [RepA] at hr
      · exact ⟨none, slice_of_cells hr hag⟩
      · obtain ⟨ad, hr⟩ := hr; exact ⟨ad, slice_of_cells hr hag⟩
    refine ⟨.int .i64 0, ?_, ⟨by simp [RepA, RepD, Value.cells], rfl⟩⟩
    simp [execOp, resolve, invoke, builtin, hv, Builtin.cap_, run_underlying ht, goInt]

theorem ok_append_zeros {P : Program} {s : ASt} {d : Tmp} {o : Nat} {t T tn : TypeId} {x y : Operand} {e : Ty} {kn kq : IntKind} {n : Int} (ht : ElT P t T e) (htn : P.underlying tn = some (.int kn)) (h0 : s.hp o = none) (hx : s.ev C x = .nils) (hy : s.ev C y = .d (.int kq) n)
    (hn0 : 0 < n) (hn : n ≤ lim) : OpOK P C ⟨some d, .call ⟨.builtin .append, #[x, y], #[t, tn]⟩, ty, pos, aft, gd⟩ ⟨some d, .os o 0, [], [(o, .arr T e 0 false (List.replicate n.toNat (zden e)))]⟩ s := by
  intro s1 hop hhp im μ a w hi hd
  have hx1 : s1.ev C x = .nils := (hop x (by simp [Op.operands, Call.operands])).trans hx
  have h01 : s1.hp o = none := (hhp o (.inr (by simp))).trans h0
  have e2 := int_eq (((hop y (by simp [Op.operands, Call.operands])).trans hy) ▸ hi.ev y)
  obtain ⟨hr, hag⟩ := hx1 ▸ hi.ev x
  simp only [RepA] at hr
  have hv := slice_of_cells hr hag
  obtain ⟨i, z, hi1, hi2, hi3, hz1, hz2⟩ := ht.info
  obtain ⟨m, rfl⟩ := Int.eq_ofNat_of_zero_le (Int.le_of_lt hn0)
  have hm : m ≤ 4294967296 := by unfold lim at hn; omega
  have hm0 : 0 < m := by omega
  have hzsz : z.cells.size = e.size := by rw [← Array.length_toList, hz2, (zcells_rep (default : World) (fun _ => True) e).length]
  have hbytes : m * i.bytes ≤ 4294967296 * 4096 := Nat.mul_le_mul hm hi3
  have hrun := Go.Lib.run_append_grow_zeros (P := P) w t tn ty T i z kq kn ht.und htn hi1 hz1 none 0 0 [] (run_firstCells_none _ _ _ _ _) m hm0 (by rw [hi2]; exact ht.pos) (by omega) (by omega) (by omega) (growslice_fits (by omega) (by rw [Nat.zero_add]; omega))
  simp only [Nat.zero_add] at hrun
  have hge := grownCap_ge w m 0 T
  have hcm := grownCap_le_maxLen w m 0 T (by unfold maxLen; omega)
  have hzc := zero_cells_eq hz2 m
  have hfl : (Builtin.zeroCells z.cells m).toList = (List.replicate m (zcells e)).flatten := by
    rw [← hzc]; unfold Builtin.zeroCells; rw [hzsz]
  have hrep := RepL.replicate (zcells_rep w im e) m
  have hlen := hrep.length (RepD.length e)
  have hnew := hi.newArr (w1 := w.drew) rfl rfl rfl rfl (hd d rfl) h01 (cells := (#[] ++ Builtin.zeroCells z.cells m ++ Builtin.zeroCells z.cells (grownCap w m 0 T - m))) (T := T) (e := e) (xs := List.replicate m (zden e)) (cap := grownCap w m 0 T) (by simpa using hge) hcm (by
      simp only [Array.size_append, size_zeroCells, hzsz, ← Nat.add_mul, Array.size_empty, Nat.zero_add]
      congr 1
      omega) (by
      simp only [Array.toList_append, hfl, List.nil_append]
      rw [← hlen, List.take_left]
      exact hrep)
  rw [List.length_replicate] at hnew
  refine ⟨_, _, im, _, .inl ?_, hnew⟩
  simp only [execOp, resolve, invoke, builtin, Sem.run_bind, Sem.run_pure, Result.andThen_ok, List.map_toArray, List.map_cons, List.map_nil, hv, e2, hrun]

def opCap (E : Env) (t : TypeId) (x : Operand) (s : LSt) (k : E1 → Option R) : Option R :=
  match E.P.underlying t with
  | some (.slice _) => (match s.ev E x with | .nils => k (s.pv (.d (.int .i64) 0)) | .emp => k (s.pv (.d (.int .i64) 0)) | _ => none)
  | _ => none
theorem opCap_ok (hΓ : C.Γ = E.gam) {t : TypeId} {x : Operand} (h : opCap E t x s k = some r) : Does E C ⟨dst, .call ⟨.builtin .cap, #[x], #[t]⟩, ty, pos, aft, gd⟩ s k r := by
  unfold opCap at h
  have ex := ev_eq hΓ s x
  split at h
  · rename_i T hT
    split at h
    · rename_i hx; exact .of _ h (ok_cap_nil (.inl (ex.trans hx)) hT)
    · rename_i hx; exact .of _ h (ok_cap_nil (.inr (ex.trans hx)) hT)
    · cases h
  · cases h

def opAppendZ (E : Env) (t tn : TypeId) (x y : Operand) (s : LSt) (k : E1 → Option R) : Option R :=
  match E.P.underlying tn with
  | some (.int _) =>
    (match elT? E t with
    | some (T, e) =>
      (match s.ev E x, s.ev E y with
      | .nils, .d (.int _) n => bif decide (0 < n) && decide (n ≤ lim) then free? s.hp s.nx (k ⟨.os s.nx 0, [], [(s.nx, .arr T e 0 false (List.replicate n.toNat (zden e)))], s.nx + 1⟩) else none
      | _, _ => none)
    | none => none)
  | _ => none
theorem opAppendZ_ok (hE : E.OK) (hΓ : C.Γ = E.gam) {d : Tmp} {t tn : TypeId} {x y : Operand} (h : opAppendZ E t tn x y s k = some r) : Does E C ⟨some d, .call ⟨.builtin .append, #[x, y], #[t, tn]⟩, ty, pos, aft, gd⟩ s k r := by
  unfold opAppendZ at h
  have ex := ev_eq hΓ s x
  have ey := ev_eq hΓ s y
  split at h
  · rename_i kn hn
    split at h
    · rename_i T e hT
      split at h
      · rename_i kk n hx hy
        rw [hx] at ex; rw [hy] at ey
        cases hb : decide (0 < n) && decide (n ≤ (lim : Int)) with
        | false => rw [hb] at h; cases h
        | true =>
          rw [hb] at h
          simp only [Bool.and_eq_true, decide_eq_true_eq] at hb
          obtain ⟨h0, h⟩ := free_some h
          exact .of _ h (ok_append_zeros (elT_some hE hT) hn h0 ex ey hb.1 hb.2)
      · cases h
    · cases h
  · cases h

def opAppend (E : Env) (t t2 : TypeId) (x y : Operand) (s : LSt) (k : E1 → Option R) : Option R :=
  bif Nat.beq t t2 then
    (match elT? E t with
    | some (T, e) =>
      (match srcE s.hp (s.ev E y) e with
      | some ys =>
        (match s.ev E x with
        | .nils => (app [] ys).bind fun zs => free? s.hp s.nx (k ⟨.os s.nx 0, (s.ev E y).objs, [(s.nx, .arr T e 0 false zs)], s.nx + 1⟩)
        | .emp => (app [] ys).bind fun zs => free? s.hp s.nx (k ⟨.os s.nx 0, (s.ev E y).objs, [(s.nx, .arr T e 0 false zs)], s.nx + 1⟩)
        | .os o n =>
          (match hget s.hp o with
          | some (.arr T' e' m false xs) =>
            bif Nat.beq T T' && Nat.beq n m then
              (match castL e' e xs with
              | some xs => (app xs ys).bind fun zs => k ⟨.os o (n + 1), (s.ev E y).objs, [(o, .arr T e (n + 1) false zs)], s.nx⟩
              | none => none)
            else none
          | _ => none)
        | _ => none)
      | none => none)
    | none => none)
  else none

theorem opAppend_ok (hE : E.OK) (hΓ : C.Γ = E.gam) {t t2 : TypeId} {x y : Operand} (h : opAppend E t t2 x y s k = some r) : Does E C ⟨dst, .call ⟨.builtin .append, #[x, y], #[t, t2]⟩, ty, pos, aft, gd⟩ s k r := by
  unfold opAppend at h
  have ex := ev_eq hΓ s x
  have ey := ev_eq hΓ s y
  cases hb : Nat.beq t t2 with
  | false => rw [hb] at h; cases h
  | true =>
    rw [hb] at h
    have := Nat.eq_of_beq_eq_true hb
    subst this
    simp only [cond_true] at h
    split at h
    · rename_i T e hT
      split at h
      · rename_i ys hys
        have hsrc := srcE_some hys
        split at h
        · rename_i hx
          rw [hx] at ex
          obtain ⟨zs, hz, h⟩ := bind_some h
          obtain ⟨h0, h⟩ := free_some h
          obtain ⟨a1, rfl⟩ := app_some hz
          exact .of _ h (ok_append_new (elT_some hE hT) h0 (.inl ex) ey hsrc (by simpa using a1))
        · rename_i hx
          rw [hx] at ex
          obtain ⟨zs, hz, h⟩ := bind_some h
          obtain ⟨h0, h⟩ := free_some h
          obtain ⟨a1, rfl⟩ := app_some hz
          exact .of _ h (ok_append_new (elT_some hE hT) h0 (.inr ex) ey hsrc (by simpa using a1))
        · rename_i o n hx
          rw [hx] at ex
          split at h
          · rename_i T' e' m xs ho
            cases hb2 : Nat.beq T T' && Nat.beq n m with
            | false => rw [hb2] at h; cases h
            | true =>
              rw [hb2] at h
              simp only [Bool.and_eq_true] at hb2
              have h1 := Nat.eq_of_beq_eq_true hb2.1
              have h2 := Nat.eq_of_beq_eq_true hb2.2
              subst h1 h2
              simp only [cond_true] at h
              unfold castL at h
              by_cases he : e' = e
              · subst he
                simp only [dite_true] at h
                obtain ⟨zs, hz, h⟩ := bind_some h
                obtain ⟨a1, rfl⟩ := app_some hz
                exact .of _ h (ok_append_os (elT_some hE hT) ex ho ey hsrc a1)
              · rw [dif_neg he] at h; cases h
          · cases h
        · cases h
      · cases h
    · cases h

def opLen (E : Env) (t : TypeId) (x : Operand) (s : LSt) (k : E1 → Option R) : Option R :=
  match s.ev E x with
  | .d .str l => bif isStr E.P t then k (s.pv (.d (.int .i64) (l.length : Int))) else none
  | a =>
    (match E.P.underlying t with
    | some (.slice T) => (match srcA s.hp a (lk E.ty T) with | some ⟨e, xs⟩ => bif slIs E.P t e.size then k (s.pr (.d (.int .i64) (xs.length : Int)) a.objs) else none | none => none)
    | _ => none)

theorem opLen_ok (hΓ : C.Γ = E.gam) {t : TypeId} {x : Operand} (h : opLen E t x s k = some r) : Does E C ⟨dst, .call ⟨.builtin .len, #[x], #[t]⟩, ty, pos, aft, gd⟩ s k r := by
  unfold opLen at h
  have ex := ev_eq hΓ s x
  split at h
  · rename_i l hx
    rw [hx] at ex
    cases hb : isStr E.P t with
    | false => rw [hb] at h; cases h
    | true => rw [hb] at h; exact .of _ h (ok_len_str ex (isStr_spec hb))
  · split at h
    · rename_i T hT
      split at h
      · rename_i e xs hs
        cases hb : slIs E.P t e.size with
        | false => rw [hb] at h; cases h
        | true => rw [hb] at h; exact .of _ h (ok_len_slice ex (srcA_some hs) (slIs_spec hb))
      · cases h
    · cases h

def opMax (E : Env) (x y : Operand) (s : LSt) (k : E1 → Option R) : Option R :=
  match s.ev E x, s.ev E y with
  | .d (.int k1) a, .d (.int _) b => k (s.pv (.d (.int k1) (if b > a then b else a)))
  | _, _ => none
theorem opMax_ok (hΓ : C.Γ = E.gam) {ts : Array TypeId} {x y : Operand} (h : opMax E x y s k = some r) : Does E C ⟨dst, .call ⟨.builtin .max, #[x, y], ts⟩, ty, pos, aft, gd⟩ s k r := by
  unfold opMax at h
  have ex := ev_eq hΓ s x
  have ey := ev_eq hΓ s y
  split at h
  · rename_i k1 a k2 b hx hy
    rw [hx] at ex; rw [hy] at ey
    exact .of _ h (ok_max ex ey)
  · cases h
def opMin (E : Env) (x y : Operand) (s : LSt) (k : E1 → Option R) : Option R :=
  match s.ev E x, s.ev E y with
  | .d (.int k1) a, .d (.int _) b => k (s.pv (.d (.int k1) (if b < a then b else a)))
  | _, _ => none
theorem opMin_ok (hΓ : C.Γ = E.gam) {ts : Array TypeId} {x y : Operand} (h : opMin E x y s k = some r) : Does E C ⟨dst, .call ⟨.builtin .min, #[x, y], ts⟩, ty, pos, aft, gd⟩ s k r := by
  unfold opMin at h
  have ex := ev_eq hΓ s x
  have ey := ev_eq hΓ s y
  split at h
  · rename_i k1 a k2 b hx hy
    rw [hx] at ex; rw [hy] at ey
    exact .of _ h (ok_min ex ey)
  · cases h

/-! ### putting together -/

def places? (P : Program) : List Field → Option (List (Nat × Nat))
  | [] => some []
  | f :: l => match P.info? f.type with | some i => (match places? P l with | some r => some ((f.offset, i.size) :: r) | none => none) | none => none

theorem places_some {P : Program} : ∀ {l : List Field} {ps : List (Nat × Nat)}, places? P l = some ps → l.length = ps.length ∧ ∀ (i : Nat) (f : Field) (p : Nat × Nat), l[i]? = some f → ps[i]? = some p → f.offset = p.1 ∧ ∃ inf, P.info? f.type = some inf ∧ inf.size = p.2
  | [], ps, h => by cases h; exact ⟨rfl, fun i f p hf => by simp at hf⟩
  | f :: l, ps, h => by
    simp only [places?] at h
    split at h
    · rename_i i hi
      split at h
      · rename_i rr hr
        cases h
        obtain ⟨h1, h2⟩ := places_some hr
        refine ⟨by simp [h1], fun j f' p hf hp => ?_⟩
        cases j with
        | zero =>
          simp only [List.getElem?_cons_zero, Option.some.injEq] at hf hp
          subst hf hp
          exact ⟨rfl, i, hi, rfl⟩
        | succ j => exact h2 j f' p (by simpa using hf) (by simpa using hp)
      · cases h
    · cases h

def bld (E : Env) (s : LSt) (ps : List (Nat × Nat)) : List (Nat × Operand) → AV → (AV → Option R) → Option R
  | [], v, k => k v
  | (i, x) :: l, v, k =>
    bif (s.ev E x).plain then
      (match ps[i]? with
      | some (off, sz) => bif Nat.beq (s.ev E x).asize sz then setA v [i] (s.ev E x) (fun off' v' => bif Nat.beq off' off then bld E s ps l v' k else none) else none
      | none => none)
    else none

theorem bld_some (hΓ : C.Γ = E.gam) {ps : List (Nat × Nat)} : ∀ {l : List (Nat × Operand)} {v : AV} {k : AV → Option R}, bld E s ps l v k = some r → ∃ v', BuildA C s.toA ps l v v' ∧ k v' = some r
  | [], v, k, h => ⟨v, .nil, h⟩
  | (i, x) :: l, v, k, h => by
    simp only [bld] at h
    cases hp : (s.ev E x).plain with
    | false => rw [hp] at h; cases h
    | true =>
      rw [hp] at h
      simp only [cond_true] at h
      split at h
      · rename_i off sz hps
        cases hz : Nat.beq (s.ev E x).asize sz with
        | false => rw [hz] at h; cases h
        | true =>
          rw [hz] at h
          obtain ⟨off', v', h1, h2⟩ := setA_some v [i] _ _ r h
          cases hb : Nat.beq off' off with
          | false => rw [hb] at h2; cases h2
          | true =>
            rw [hb] at h2
            obtain ⟨v'', h3, h4⟩ := bld_some hΓ h2
            exact ⟨v'', .cons (ev_eq hΓ s x) hp hps (Nat.eq_of_beq_eq_true hz) h1 (Nat.eq_of_beq_eq_true hb) h3, h4⟩
      · cases h

/-- the parts of an array -/
def partsS (E : Env) (s : LSt) (e : Ty) (n : Nat) : List (Nat × Operand) → Option (List (Nat × e.den))
  | [] => some []
  | (i, x) :: l => bif Nat.blt i n then (match s.ev E x with | .d τ y => (if h : τ = e then (match partsS E s e n l with | some r => some ((i, h ▸ y) :: r) | none => none) else none) | _ => none) else none

theorem partsS_some {e : Ty} {n : Nat} : ∀ {l : List (Nat × Operand)} {ys : List (Nat × e.den)}, partsS E s e n l = some ys → l.length = ys.length ∧ ∀ (k i : Nat) (x : Operand), l[k]? = some (i, x) → ∃ y, ys[k]? = some (i, y) ∧ s.ev E x = .d e y ∧ i < n
  | [], ys, h => by cases h; exact ⟨rfl, fun k i x hk => by simp at hk⟩
  | (i, x) :: l, ys, h => by
    simp only [partsS] at h
    cases hb : Nat.blt i n with
    | false => rw [hb] at h; cases h
    | true =>
      rw [hb] at h
      simp only [cond_true] at h
      split at h
      · rename_i τ y hy
        split at h
        · rename_i he
          subst he
          split at h
          · rename_i rr hr
            cases h
            obtain ⟨h1, h2⟩ := partsS_some hr
            refine ⟨by simp [h1], fun k j u hk => ?_⟩
            cases k with
            | zero =>
              simp only [List.getElem?_cons_zero, Option.some.injEq, Prod.mk.injEq] at hk
              obtain ⟨rfl, rfl⟩ := hk
              exact ⟨y, rfl, hy, Nat.le_of_ble_eq_true hb⟩
            | succ k => exact h2 k j u (by simpa using hk)
          · cases h
        · cases h
      · cases h

def opBuild (E : Env) (t : TypeId) (parts : Array (Nat × Operand)) (s : LSt) (k : E1 → Option R) : Option R :=
  match E.P.underlying t, lk E.ty t with
  | some (.struct fs), some τ =>
    (match places? E.P fs.toList with
    | some ps => bld E s ps parts.toList (zeroN τ) (fun v => bif v.isAgg then k (s.pv v) else none)
    | none => none)
  | some (.array _ _), some (.arr n e) => bif arE? E t n e then (match partsS E s e n parts.toList with | some ys => k (s.pv (.d (.arr n e) (setAll (List.replicate n (zden e)) ys))) | none => none) else none
  | _, _ => none

theorem opBuild_ok (hE : E.OK) (hΓ : C.Γ = E.gam) {t : TypeId} {parts : Array (Nat × Operand)} (h : opBuild E t parts s k = some r) : Does E C ⟨dst, .build t parts, ty, pos, aft, gd⟩ s k r := by
  unfold opBuild at h
  split at h
  · rename_i fs τ hu hτ
    split at h
    · rename_i ps hps
      obtain ⟨v, h1, h2⟩ := bld_some hΓ h
      obtain ⟨i, z, g1, g2, g3, g4, g5⟩ := (hE.ty _ (lk_mem hτ)).info
      cases hv : v.isAgg with
      | false => rw [hv] at h2; cases h2
      | true =>
        rw [hv] at h2
        exact .of _ h2 (ok_build ⟨fs, hu, (places_some hps).1, (places_some hps).2⟩ ⟨i, z, g1, g4, g5⟩ h1 hv)
    · cases h
  · rename_i T m n e hu hτ
    cases hb : arE? E t n e with
    | false => rw [hb] at h; cases h
    | true =>
      rw [hb] at h
      simp only [cond_true] at h
      split at h
      · rename_i ys hys
        obtain ⟨h1, h2⟩ := partsS_some hys
        exact .of _ h (ok_buildArr (arE_spec hE hb) h1 fun k i x hk => by
          obtain ⟨y, g1, g2, g3⟩ := h2 k i x hk
          have ex := ev_eq hΓ s x
          exact ⟨y, g1, by rw [← g2]; exact ex, g3⟩)
      · cases h
  · cases h

def partsD (E : Env) (hp : LHp) (s : LSt) (e : Ty) (n : Nat) : List (Nat × Operand) → Option (List (Nat × e.den))
  | [] => some []
  | (i, x) :: l => bif Nat.blt i n then (match toD hp (s.ev E x) e with | some y => (match partsD E hp s e n l with | some r => some ((i, y) :: r) | none => none) | none => none) else none

theorem partsD_some {hp : LHp} {e : Ty} {n : Nat} : ∀ {l : List (Nat × Operand)} {ys : List (Nat × e.den)}, partsD E hp s e n l = some ys → l.length = ys.length ∧ ∀ (k i : Nat) (x : Operand), l[k]? = some (i, x) → ∃ y, ys[k]? = some (i, y) ∧ CoeF (hget hp) (s.ev E x) e y ∧ i < n
  | [], ys, h => by cases h; exact ⟨rfl, fun k i x hk => by simp at hk⟩
  | (i, x) :: l, ys, h => by
    simp only [partsD] at h
    cases hb : Nat.blt i n with
    | false => rw [hb] at h; cases h
    | true =>
      rw [hb] at h
      simp only [cond_true] at h
      split at h
      · rename_i y hy
        split at h
        · rename_i rr hr
          cases h
          obtain ⟨h1, h2⟩ := partsD_some hr
          refine ⟨by simp [h1], fun k j x' hk => ?_⟩
          cases k with
          | zero =>
            simp only [List.getElem?_cons_zero, Option.some.injEq, Prod.mk.injEq] at hk
            obtain ⟨rfl, rfl⟩ := hk
            exact ⟨y, rfl, toD_some hy, Nat.le_of_ble_eq_true hb⟩
          | succ k => simpa using h2 k j x' (by simpa using hk)
        · cases h
      · cases h

def oslAll (E : Env) (s : LSt) : List (Nat × Operand) → List Nat
  | [] => []
  | (_, x) :: l => (s.ev E x).osl ++ oslAll E s l
theorem oslAll_mem {x : Operand} : ∀ {l : List (Nat × Operand)} {k i : Nat}, l[k]? = some (i, x) → ∀ o ∈ (s.ev E x).osl, o ∈ oslAll E s l
  | [], _, _, h, _, _ => by simp at h
  | (j, y) :: l, 0, i, h, o, ho => by
    simp only [List.getElem?_cons_zero, Option.some.injEq, Prod.mk.injEq] at h
    obtain ⟨rfl, rfl⟩ := h
    simp [oslAll, ho]
  | (j, y) :: l, k + 1, i, h, o, ho => by
    simp only [oslAll, List.mem_append]
    exact .inr (oslAll_mem (by simpa using h) o ho)

def opLit (E : Env) (t : TypeId) (n : Nat) (parts : Array (Nat × Operand)) (s : LSt) (k : E1 → Option R) : Option R :=
  match elT? E t with
  | some (T, e) =>
    bif Nat.beq n 0 && parts.toList.isEmpty then k (s.pv .emp) else
      let ol := oslAll E s parts.toList
      let fz := fzAll s.hp ol
      (match partsD E (fz ++ s.hp) s e n parts.toList with
      | some ys => bif Nat.ble (n * e.size) (2 ^ 24) then free? (fz ++ s.hp) s.nx (k ⟨.os s.nx 0, ol, [(s.nx, .arr T e 0 false (setAll (List.replicate n (zden e)) ys))] ++ fz, s.nx + 1⟩) else none
      | none => none)
  | none => none

theorem opLit_ok (hE : E.OK) (hΓ : C.Γ = E.gam) {d : Nat} {t : TypeId} {n : Nat} {parts : Array (Nat × Operand)} (h : opLit E t n parts s k = some r) : Does E C ⟨some d, .buildSlice t n parts, ty, pos, aft, gd⟩ s k r := by
  unfold opLit at h
  split at h
  · rename_i T e hT
    cases hb0 : Nat.beq n 0 && parts.toList.isEmpty with
    | true =>
      rw [hb0] at h
      simp only [Bool.and_eq_true] at hb0
      have hn := Nat.eq_of_beq_eq_true hb0.1
      subst hn
      have hp : parts = #[] := by apply Array.ext'; simpa using hb0.2
      subst hp
      exact .of _ h (ok_lit0 (elT_some hE hT))
    | false =>
      rw [hb0] at h
      simp only at h
      split at h
      · rename_i ys hys
        cases hb : Nat.ble (n * e.size) (2 ^ 24) with
        | false => rw [hb] at h; cases h
        | true =>
          rw [hb] at h
          obtain ⟨h0, h⟩ := free_some h
          obtain ⟨g1, g2⟩ := partsD_some hys
          refine .frozen (e := ⟨.os s.nx 0, oslAll E s parts.toList, [(s.nx, .arr T e 0 false (setAll (List.replicate n (zden e)) ys))], s.nx + 1⟩) (oslAll E s parts.toList) h ?_
          rw [hget_append] at h0 g2
          exact ok_buildSliceF _ (elT_some hE hT) h0 (Nat.le_of_ble_eq_true hb) g1 (fun k i x hk => by
            obtain ⟨y, y1, y2, y3⟩ := g2 k i x hk
            exact ⟨y, y1, by rw [ev_fz hΓ]; exact y2, by rw [ev_fz hΓ]; exact oslAll_mem hk, y3⟩) rfl
      · cases h
  · cases h

/-! ### the rest -/

def opExtract (E : Env) (x : Operand) (i : Nat) (s : LSt) (k : E1 → Option R) : Option R :=
  match s.ev E x with
  | .tup l => (match l[i]? with | some a => k (s.pv a) | none => none)
  | _ => none
theorem opExtract_ok (hΓ : C.Γ = E.gam) {x : Operand} {i : Nat} (h : opExtract E x i s k = some r) : Does E C ⟨dst, .extract x i, ty, pos, aft, gd⟩ s k r := by
  unfold opExtract at h
  have ex := ev_eq hΓ s x
  split at h
  · rename_i l hx
    rw [hx] at ex
    split at h
    · rename_i a ha
      exact .of _ h (ok_extract ex ha)
    · cases h
  · cases h

def evs (E : Env) (s : LSt) : List Operand → List AV
  | [] => []
  | x :: l => s.ev E x :: evs E s l
theorem evs_map (hΓ : C.Γ = E.gam) : ∀ l : List Operand, l.map (s.toA.ev C) = evs E s l
  | [] => rfl
  | x :: l => by simp only [List.map_cons, evs, ev_eq hΓ, evs_map hΓ l]

def plains (l : List AV) : Bool := l.all AV.plain

def opFunc (E : Env) (f : Fn) (first cap : Array Operand) (s : LSt) (k : E1 → Option R) : Option R :=
  match first.toList with
  | [] => bif plains (evs E s cap.toList) then k (s.pv (.fn f [] (evs E s cap.toList))) else none
  | _ => none
theorem opFunc_ok (hΓ : C.Γ = E.gam) {f : Fn} {first cap : Array Operand} (h : opFunc E f first cap s k = some r) : Does E C ⟨dst, .makeFunc f first cap, ty, pos, aft, gd⟩ s k r := by
  unfold opFunc at h
  split at h
  · rename_i hf
    have : first = #[] := by apply Array.ext'; simpa using hf
    subst this
    cases hb : plains (evs E s cap.toList) with
    | false => rw [hb] at h; cases h
    | true =>
      rw [hb] at h
      exact .of _ h (ok_makeFunc (evs_map hΓ _) (fun a ha => List.all_eq_true.1 hb a ha))
  · cases h

def noIf (P : Program) (t : TypeId) : Bool := match P.underlying t with | some (.interface _) => false | some _ => true | none => false
theorem noIf_spec {P : Program} {t : TypeId} (h : noIf P t = true) : NoIf P t := by
  unfold noIf at h
  split at h
  · cases h
  · rename_i d hd hn
    exact ⟨d, hn, by split <;> simp_all⟩
  · cases h

def opIface (E : Env) (t : TypeId) (x : Operand) (s : LSt) (k : E1 → Option R) : Option R :=
  bif (s.ev E x).plain && noIf E.P t then k (s.pv (.iface t (s.ev E x))) else none
theorem opIface_ok (hΓ : C.Γ = E.gam) {t : TypeId} {x : Operand} (h : opIface E t x s k = some r) : Does E C ⟨dst, .makeInterface t x, ty, pos, aft, gd⟩ s k r := by
  unfold opIface at h
  cases hb : (s.ev E x).plain && noIf E.P t with
  | false => rw [hb] at h; cases h
  | true =>
    rw [hb] at h
    simp only [Bool.and_eq_true] at hb
    exact .of _ h (ok_makeIface (ev_eq hΓ s x) hb.1 (noIf_spec hb.2))

def opAssert (E : Env) (x : Operand) (t : TypeId) (ok : Bool) (s : LSt) (k : E1 → Option R) : Option R :=
  match s.ev E x, ok with
  | .iface t' (.d (.int kk) n), true => bif Nat.beq t' t && noIf E.P t then k (s.pv (.tup [.d (.int kk) n, .d .bool true])) else none
  | _, _ => none
theorem opAssert_ok (hΓ : C.Γ = E.gam) {x : Operand} {xt t : TypeId} {ok : Bool} (h : opAssert E x t ok s k = some r) : Does E C ⟨dst, .typeAssert x xt t ok, ty, pos, aft, gd⟩ s k r := by
  unfold opAssert at h
  have ex := ev_eq hΓ s x
  split at h
  · rename_i t' kk n hx
    rw [hx] at ex
    cases hb : Nat.beq t' t && noIf E.P t with
    | false => rw [hb] at h; cases h
    | true =>
      rw [hb] at h
      simp only [Bool.and_eq_true] at hb
      have := Nat.eq_of_beq_eq_true hb.1
      subst this
      exact .of _ h (ok_typeAssert ex (noIf_spec hb.2))
  · cases h

theorem ok_nilCheck_oe {P : Program} {s : ASt} {x : Operand} {o m i : Nat} {T : TypeId} {e : Ty} {fz : Bool} {xs : List e.den} (hx : s.ev C x = .oe o m i) (ho : s.hp o = some (.arr T e m fz xs)) : OpOK P C ⟨dst, .nilCheck x, ty, pos, aft, gd⟩ ⟨dst, .oe o m i, [o], []⟩ s :=
  ok_read [o] fun w im μ hp ρ h hk hob => by
    have hr0 : RepV w im μ hp (.oe o m i) (ρ x) := hx ▸ h x (by simp [Op.operands])
    have hr1 := hr0
    obtain ⟨hr, hag⟩ := hr1
    have hpo : hp o = some (.arr T e m fz xs) := (hk o (by simp)).trans ho
    simp only [RepA] at hr
    obtain ⟨T', e', m', z', xs', ho', hle, u, hc, h1, hpl⟩ := hr
    rw [hpo] at ho'
    cases ho'
    obtain ⟨b, cap, hp1, rfl⟩ := hpl rfl
    have hv : ρ x = .pointer (some ⟨b, i * e.size, none⟩) := by
      generalize ρ x = v at hc hag
      cases v <;> simp_all [Value.cells, vIsAgg, AV.isAgg]
    exact ⟨ρ x, w, by simp [execOp, hv], rfl, rfl, rfl, rfl, hr0⟩

def opNil (E : Env) (x : Operand) (s : LSt) (k : E1 → Option R) : Option R :=
  match s.ev E x with
  | .op o p off => k (s.pv (.op o p off))
  | .ip τ y => k (s.pv (.ip τ y))
  | .oe o m i => (match hget s.hp o with | some (.arr _ _ m' _ _) => bif Nat.beq m m' then k (s.pr (.oe o m i) [o]) else none | _ => none)
  | _ => none
theorem opNil_ok (hΓ : C.Γ = E.gam) {x : Operand} (h : opNil E x s k = some r) : Does E C ⟨dst, .nilCheck x, ty, pos, aft, gd⟩ s k r := by
  unfold opNil at h
  have ex := ev_eq hΓ s x
  split at h
  · rename_i o p off hx
    rw [hx] at ex
    exact .of _ h (ok_nilCheck_op ex)
  · rename_i τ y hx
    rw [hx] at ex
    exact .of _ h (ok_nilCheck_ip ex)
  · rename_i o m i hx
    rw [hx] at ex
    split at h
    · rename_i T e m' fz xs ho
      cases hb : Nat.beq m m' with
      | false => rw [hb] at h; cases h
      | true =>
        rw [hb] at h
        have := Nat.eq_of_beq_eq_true hb
        subst this
        exact .of _ h (ok_nilCheck_oe ex ho)
    · cases h
  · cases h

end
end Go.Vm
