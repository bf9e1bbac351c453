/- Part Y of the abstract machine: maps with strings for keys. -/
import Derived.Test.YtckoidchbbfkkaaGreatDoorS18
import Derived.MapKept
namespace Go.Vm

variable {R : Type}

def findE (k : List UInt8) : List (List UInt8 × AV) → Nat → Option (Nat × AV)
  | [], _ => none
  | (k', a) :: l, i => bif k == k' then some (i, a) else findE k l (i + 1)

theorem findNow_E {w : World} {im : Nat → Prop} {μ : Mu} {hp : Hp} {k : List UInt8} : ∀ (l : List (List UInt8 × AV)) (es : List MapEntry) (i : Nat), RepEs w im μ hp l es →
    match findE k l i with
    | none => Instr.findNow .string (.string ⟨k.toArray⟩) es i = some none
    | some (j, a) => ∃ v, Instr.findNow .string (.string ⟨k.toArray⟩) es i = some (some (j, v)) ∧ RepA w im μ hp a v.cells.toList ∧ vIsAgg v = a.isAgg
  | [], es, i, h => by
    have : es = [] := h
    subst this
    rfl
  | (k', a) :: l, es, i, h => by
    obtain ⟨e, es', rfl, h2, h3, h4, h5⟩ := h
    simp only [findE]
    cases hb : (k == k') with
    | true =>
      have hk : k = k' := by simpa using hb
      subst hk
      refine ⟨e.val, ?_, h3, h4⟩
      have hbb : ((⟨k.toArray⟩ : ByteArray) == ⟨k.toArray⟩) = true := (MapKept.bytes_beq _ _).2 rfl
      simp only [Instr.findNow, h2, Instr.sameNow, hbb]
    | false =>
      have hk : k ≠ k' := by intro he; subst he; simp at hb
      have hbb : ((⟨k.toArray⟩ : ByteArray) == ⟨k'.toArray⟩) = false := by
        rw [← Bool.not_eq_true]
        intro h
        have := (MapKept.bytes_beq _ _).1 h
        apply hk
        have h2 : k.toArray = k'.toArray := congrArg ByteArray.data this
        have h3 := congrArg Array.toList h2
        simpa using h3
      have ih := findNow_E (k := k) l es' (i + 1) h5
      simp only [cond_false]
      have e0 : Instr.findNow .string (.string ⟨k.toArray⟩) (e :: es') i = Instr.findNow .string (.string ⟨k.toArray⟩) es' (i + 1) := by
        simp only [Instr.findNow, h2, Instr.sameNow, hbb]
      split
      · rename_i hq; rw [hq] at ih; rw [e0]; exact ih
      · rename_i j a' hq; rw [hq] at ih; rw [e0]; exact ih

theorem repEs_append {w : World} {im : Nat → Prop} {μ : Mu} {hp : Hp} : ∀ {l l' : List (List UInt8 × AV)} {es es' : List MapEntry}, RepEs w im μ hp l es → RepEs w im μ hp l' es' → RepEs w im μ hp (l ++ l') (es ++ es')
  | [], l', es, es', h, h' => by
    have : es = [] := h
    subst this; exact h'
  | (k, a) :: l, l', es, es', h, h' => by
    obtain ⟨e, es1, rfl, h2, h3, h4, h5⟩ := h
    exact ⟨e, es1 ++ es', rfl, h2, h3, h4, repEs_append h5 h'⟩

/-- what the program's table says of a map with strings for keys -/
def mapT? (P : Program) (t : TypeId) : Option (TypeId × TypeId) :=
  match P.underlying t with
  | some (.map k e) => (match P.underlying k with | some .string => some (k, e) | _ => none)
  | _ => none
theorem mapT_some {P : Program} {t k e : TypeId} (h : mapT? P t = some (k, e)) : P.underlying t = some (.map k e) ∧ P.underlying k = some .string := by
  unfold mapT? at h
  split at h
  · rename_i k' e' h1
    split at h
    · rename_i h2; cases h; exact ⟨h1, h2⟩
    · cases h
  · cases h

section
variable {P : Program} {C : Ctx} {s : ASt} {dst : Option Tmp} {ty : TypeId} {pos : String} {aft : Array Edge} {gd : Option (Nat × Bool)}

theorem ok_makeMap {d o : Nat} {t : TypeId} (h0 : s.hp o = none) : OpOK P C ⟨some d, .makeMap t none, ty, pos, aft, gd⟩ ⟨some d, .ref o, [], [(o, .rc (.map []))]⟩ s := by
  intro s1 hop hhp im μ a w hi hd
  have h01 : s1.hp o = none := (hhp o (.inr (by simp))).trans h0
  obtain ⟨hnew, hold⟩ := MapKept.heap_alloc w (.map #[] 0)
  have hmo : (μ o).blk = none := by rw [hi.dom o h01]; rfl
  have hw : WStep w (w.alloc (.map #[] 0)) (μ o).blk := ⟨rfl, rfl, rfl, by simp, fun b hb _ => hold b hb⟩
  have hev : ∀ ob, s1.hp o = some ob → ObEv ob (μ o) (.rc (.map [])) (.at w.heap.size) := fun ob h => by rw [h01] at h; cases h
  refine ⟨.map (some w.heap.size), _, im, _, .inl ?_, hi.obj1 (pl' := .at w.heap.size) hev hw (fun b hb => by cases hb; exact ⟨by simp, .inr (Nat.le_refl _)⟩) ⟨_, _, rfl, hnew, #[], 0, rfl, rfl⟩ hd ?_⟩
  · simp [execOp, Instr.makeMap]
  · refine ⟨?_, rfl⟩
    simp only [RepA]
    exact ⟨w.heap.size, .map [], updMu_same _ _ _, hpSet_one _ _ _, rfl⟩

theorem mapPtr {im : Nat → Prop} {μ : Mu} {a : Act} {w : World} (hi : Inv C im μ s a w) {x : Operand} {q : Nat} {l : List (List UInt8 × AV)} (hx : s.ev C x = .ref q) (hq : s.hp q = some (.rc (.map l))) :
    ∃ b es clock, a.eval x = .map (some b) ∧ μ q = .at b ∧ w.heap[b]? = some (.map es clock) ∧ RepEs w im μ s.hp l es.toList := by
  obtain ⟨hr, hag⟩ := hx ▸ hi.ev x
  simp only [RepA] at hr
  obtain ⟨b, r, h1, h2, h3⟩ := hr
  rw [hq] at h2
  cases h2
  obtain ⟨b', o, h4, h5, es, clock, rfl, h6⟩ := hi.obj q _ hq
  obtain rfl : b' = b := by rw [h1] at h4; cases h4; rfl
  refine ⟨b', es, clock, ?_, h1, h5, h6⟩
  have h7 : (a.eval x).cells.toList = [.map (some b')] := h3
  generalize a.eval x = v at h7 hag
  cases v <;> simp_all [Value.cells, vIsAgg, AV.isAgg]

theorem run_mapSet {t kt e : TypeId} (hm : P.underlying t = some (.map kt e)) (hk : P.underlying kt = some .string) {w : World} {b : Nat} {es : Array MapEntry} {clock : Nat} (hb : w.heap[b]? = some (.map es clock)) {k : List UInt8} {v : Value}
    (hf : Instr.findNow .string (.string ⟨k.toArray⟩) es.toList 0 = some none) :
    (Instr.mapUpdate t (.map (some b)) (.string ⟨k.toArray⟩) v).run P w = .ok () (w.putObj b (.map (es.push { key := .string ⟨k.toArray⟩, val := v, born := clock }) (clock + 1))) := by
  have h1 := MapKept.run_getObj_map (P := P) hb
  have h2 := fun o => MapKept.run_setObj_map (P := P) o hb
  have h3 := MapKept.run_checkKey (P := P) (w := w) (k := .string ⟨k.toArray⟩) hk trivial false 9999
  have h4 := MapKept.run_findKey (P := P) (w := w) hk hf
  simp only [Instr.mapUpdate, Sem.run_bind, run_underlying hm, Result.andThen_ok, h1, h3, h4, h2]
  rfl

theorem ok_mapSet {ins : Bool} {t kt e : TypeId} {x y z : Operand} {q : Nat} {l : List (List UInt8 × AV)} {k : List UInt8} {av : AV} (hm : P.underlying t = some (.map kt e)) (hk : P.underlying kt = some .string) (hx : s.ev C x = .ref q) (hq : s.hp q = some (.rc (.map l)))
    (hy : s.ev C y = .d .str k) (hz : s.ev C z = av) (hpl : av.plain = true) (hf : findE k l 0 = none) :
    OpOK P C ⟨none, bif ins then .insert t x y z else .mapUpdate t x y z, ty, pos, aft, gd⟩ ⟨none, .undef, [], [(q, .rc (.map (l ++ [(k, av)])))]⟩ s := by
  intro s1 hop hhp im μ a w hi hd
  have hx1 : s1.ev C x = .ref q := (hop x (by cases ins <;> simp [Op.operands])).trans hx
  have hy1 : s1.ev C y = .d .str k := (hop y (by cases ins <;> simp [Op.operands])).trans hy
  have hz1 : s1.ev C z = av := (hop z (by cases ins <;> simp [Op.operands])).trans hz
  have hq1 : s1.hp q = some (.rc (.map l)) := (hhp q (.inr (by simp))).trans hq
  obtain ⟨b, es, clock, e1, h1, h2, h3⟩ := mapPtr hi hx1 hq1
  have e2 : a.eval y = .string ⟨k.toArray⟩ := scal_eq (u := .string ⟨k.toArray⟩) rfl (hy1 ▸ hi.ev y)
  obtain ⟨g1, g2⟩ := (hz1 ▸ hi.ev z).toA hpl
  have hfn := findNow_E (k := k) l es.toList 0 h3
  rw [hf] at hfn
  have hrun := run_mapSet hm hk h2 (v := a.eval z) hfn
  have hlt : b < w.heap.size := (Array.getElem?_eq_some_iff.1 h2).1
  have hev : ∀ ob, s1.hp q = some ob → ObEv ob (μ q) (.rc (.map (l ++ [(k, av)]))) (μ q) := fun ob hob => by
    rw [hq1] at hob; cases hob; exact ⟨rfl, rfl⟩
  have hw : WStep w (w.putObj b (.map (es.push { key := .string ⟨k.toArray⟩, val := a.eval z, born := clock }) (clock + 1))) (μ q).blk :=
    ⟨rfl, rfl, rfl, by simp, fun b' _ hb => World.putObj_heap_other (by rintro rfl; exact hb (by rw [h1]; rfl))⟩
  have ev := hi.evObj hev hw
  refine ⟨Go.undef, _, im, _, .inr ⟨rfl, ?_⟩, hi.obj1 (dst := none) hev hw (fun b' hb => ⟨by simpa using (hi.sep q b' hb).2.1, .inl hb⟩) ?_ (fun d h => by cases h) trivial⟩
  · cases ins <;> simp [execOp, e1, e2, hrun]
  · rw [h1]
    refine ⟨b, _, rfl, World.putObj_heap_same hlt, _, _, rfl, ?_⟩
    rw [Array.toList_push]
    have ev' := ev
    rw [h1] at ev'
    exact repEs_append (RepEs.ev ev' _ _ h3) ⟨_, [], rfl, rfl, RepA.ev ev' _ _ g1, g2, rfl⟩

theorem ok_lookup {t kt e : TypeId} {x y : Operand} {q : Nat} {l : List (List UInt8 × AV)} {k : List UInt8} {av : AV} {ok : Bool} (hm : P.underlying t = some (.map kt e)) (hk : P.underlying kt = some .string) (hx : s.ev C x = .ref q) (hq : s.hp q = some (.rc (.map l)))
    (hy : s.ev C y = .d .str k) (hf : match findE k l 0 with | none => ok = false ∧ av = .nilfn ∧ ∃ i, P.info? e = some i ∧ i.zero = some .nilFunc | some (_, a) => ok = true ∧ av = a) :
    OpOK P C ⟨dst, .lookup t x y true, ty, pos, aft, gd⟩ ⟨dst, .tup [av, .d .bool ok], [q], []⟩ s := by
  intro s1 hop hhp im μ a w hi hd
  have hx1 : s1.ev C x = .ref q := (hop x (by simp [Op.operands])).trans hx
  have hy1 : s1.ev C y = .d .str k := (hop y (by simp [Op.operands])).trans hy
  have hq1 : s1.hp q = some (.rc (.map l)) := (hhp q (.inl (by simp))).trans hq
  obtain ⟨b, es, clock, e1, h1, h2, h3⟩ := mapPtr hi hx1 hq1
  have e2 : a.eval y = .string ⟨k.toArray⟩ := scal_eq (u := .string ⟨k.toArray⟩) rfl (hy1 ▸ hi.ev y)
  have hfn := findNow_E (k := k) l es.toList 0 h3
  have g1 := MapKept.run_getObj_map (P := P) h2
  have g3 := fun e => MapKept.run_checkKey (P := P) (w := w) (k := .string ⟨k.toArray⟩) hk trivial e 9999
  have hput : ∀ v, RepV w im μ s1.hp (.tup [av, .d .bool ok]) v → Inv C im μ ⟨(s1.put dst (.tup [av, .d .bool ok])).fr, s1.hp⟩ (a.put dst v) w := fun v hv => hi.put rfl rfl rfl rfl hd hv
  cases hfe : findE k l 0 with
  | none =>
    rw [hfe] at hfn hf
    obtain ⟨rfl, rfl, i, hi1, hi2⟩ := hf
    have g4 := MapKept.run_findKey (P := P) (w := w) hk hfn
    refine ⟨.tuple #[.nilFunc, .bool false], w, im, μ, .inl ?_, hput _ ⟨[.nilFunc, .bool false], rfl, ?_⟩⟩
    · simp [execOp, e1, e2, Instr.lookup, run_underlying hm, g1, g3, g4, zeroValue, typeInfo, hi1, hi2]
    · simp only [RepFs, RepA, RepD]
      exact ⟨_, _, rfl, rfl, rfl, _, _, rfl, rfl, rfl, rfl⟩
  | some p =>
    obtain ⟨j, a'⟩ := p
    rw [hfe] at hfn hf
    obtain ⟨rfl, rfl⟩ := hf
    obtain ⟨v, hfn, hv1, hv2⟩ := hfn
    have g4 := MapKept.run_findKey (P := P) (w := w) hk hfn
    refine ⟨.tuple #[v, .bool true], w, im, μ, .inl ?_, hput _ ⟨[v, .bool true], rfl, ?_⟩⟩
    · simp [execOp, e1, e2, Instr.lookup, run_underlying hm, g1, g3, g4]
    · simp only [RepFs, RepA, RepD]
      exact ⟨_, _, rfl, hv1, hv2, _, _, rfl, rfl, rfl, rfl⟩

end

section
variable {E : Env} {C : Ctx} {s : LSt} {k : E1 → Option R} {r : R} {dst : Option Tmp} {ty : TypeId} {pos : String} {aft : Array Edge} {gd : Option (Nat × Bool)}

def opMakeMap (s : LSt) (k : E1 → Option R) : Option R := free? s.hp s.nx (k ⟨.ref s.nx, [], [(s.nx, .rc (.map []))], s.nx + 1⟩)
theorem opMakeMap_ok {d : Nat} {t : TypeId} (h : opMakeMap s k = some r) : Does E C ⟨some d, .makeMap t none, ty, pos, aft, gd⟩ s k r := by
  unfold opMakeMap at h
  obtain ⟨h0, h⟩ := free_some h
  exact .of _ h (ok_makeMap h0)

def opMapSet (E : Env) (t : TypeId) (x y z : Operand) (s : LSt) (k : E1 → Option R) : Option R :=
  match mapT? E.P t with
  | some _ =>
    (match s.ev E x, s.ev E y with
    | .ref q, .d .str key =>
      (match hget s.hp q with
      | some (.rc (.map l)) =>
        (match findE key l 0 with
        | none => bif (s.ev E z).plain then k ⟨.undef, [], [(q, .rc (.map (l ++ [(key, s.ev E z)])))], s.nx⟩ else none
        | some _ => none)
      | _ => none)
    | _, _ => none)
  | none => none
theorem opMapSet_ok (hΓ : C.Γ = E.gam) {ins : Bool} {t : TypeId} {x y z : Operand} (h : opMapSet E t x y z s k = some r) : Does E C ⟨none, bif ins then .insert t x y z else .mapUpdate t x y z, ty, pos, aft, gd⟩ s k r := by
  unfold opMapSet at h
  have ex := ev_eq hΓ s x
  have ey := ev_eq hΓ s y
  have ez := ev_eq hΓ s z
  split at h
  · rename_i p hp
    split at h
    · rename_i q key hx hy
      rw [hx] at ex; rw [hy] at ey
      split at h
      · rename_i l hl
        split at h
        · rename_i hf
          cases hpl : (s.ev E z).plain with
          | false => rw [hpl] at h; cases h
          | true =>
            rw [hpl] at h
            obtain ⟨g1, g2⟩ := mapT_some (k := p.1) (e := p.2) hp
            exact .of _ h (ok_mapSet g1 g2 ex hl ey ez hpl hf)
        · cases h
      · cases h
    · cases h
  · cases h

def opLookup (E : Env) (t : TypeId) (x y : Operand) (s : LSt) (k : E1 → Option R) : Option R :=
  match mapT? E.P t with
  | some (_, e) =>
    (match s.ev E x, s.ev E y with
    | .ref q, .d .str key =>
      (match hget s.hp q with
      | some (.rc (.map l)) =>
        (match findE key l 0 with
        | none => (match E.P.info? e with | some i => (match i.zero with | some .nilFunc => k (s.pr (.tup [.nilfn, .d .bool false]) [q]) | _ => none) | none => none)
        | some (_, a) => k (s.pr (.tup [a, .d .bool true]) [q]))
      | _ => none)
    | _, _ => none)
  | none => none
theorem opLookup_ok (hΓ : C.Γ = E.gam) {t : TypeId} {x y : Operand} (h : opLookup E t x y s k = some r) : Does E C ⟨dst, .lookup t x y true, ty, pos, aft, gd⟩ s k r := by
  unfold opLookup at h
  have ex := ev_eq hΓ s x
  have ey := ev_eq hΓ s y
  split at h
  · rename_i kt e hp
    obtain ⟨g1, g2⟩ := mapT_some hp
    split at h
    · rename_i q key hx hy
      rw [hx] at ex; rw [hy] at ey
      split at h
      · rename_i l hl
        split at h
        · rename_i hf
          split at h
          · rename_i i hi
            split at h
            · rename_i hz
              exact .of _ h (ok_lookup g1 g2 ex hl ey (by rw [hf]; exact ⟨rfl, rfl, i, hi, hz⟩))
            · cases h
          · cases h
        · rename_i j a hf
          exact .of _ h (ok_lookup g1 g2 ex hl ey (by rw [hf]; exact ⟨rfl, rfl⟩))
      · cases h
    · cases h
  · cases h

end
end Go.Vm
