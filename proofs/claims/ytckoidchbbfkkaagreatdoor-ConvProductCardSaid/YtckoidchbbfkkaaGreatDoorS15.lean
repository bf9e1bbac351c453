/- Part N of the abstract machine: the executor's single operations, and that they are right. -/
import Derived.Test.YtckoidchbbfkkaaGreatDoorS14
import Derived.Laws.StructEq
namespace Go.Vm

universe u
variable {R : Type}

/-- a function as the executor sees it: from arguments and the objects handed in, to how it ends and the objects handed back -/
structure FnE where
  run : {R : Type} → List AV → LHp → (AEnd → LHp → Option R) → Option R

/-- a function without a body, as the executor sees it -/
structure ExtE where
  run : {R : Type} → List AV → (AV → Option R) → Option R

/-- a round of a loop over a function, as the executor sees it: the record's name, yield's arguments, the objects -/
structure RoundE where
  run : {R : Type} → Nat → List AV → LHp → (Bool → LHp → Option R) → Option R

structure Env where
  P : Program
  Γ : List (Nat × AV)
  ty : List (Nat × Ty)
  calls : List (Nat × FnE)
  exts : List (Nat × ExtE)
  round : Option RoundE := none

def lk {α : Type u} : List (Nat × α) → Nat → Option α
  | [], _ => none
  | (a, b) :: r, o => bif Nat.beq a o then some b else lk r o

theorem lk_mem {α : Type u} : ∀ {l : List (Nat × α)} {o : Nat} {b : α}, lk l o = some b → (o, b) ∈ l
  | [], _, _, h => by cases h
  | (a, c) :: r, o, b, h => by
    simp only [lk] at h
    cases hb : Nat.beq a o with
    | true => rw [hb] at h; cases h; rw [Nat.eq_of_beq_eq_true hb]; simp
    | false => rw [hb] at h; simp [lk_mem h]

def Env.gam (E : Env) : Nat → Option AV := lk E.Γ

def LSt.ev (E : Env) (s : LSt) : Operand → AV
  | .tmp t => s.fr.get t
  | .const v => constAV v
  | .global g => (match lk E.Γ g with | some v => v | none => .undef)
  | .func f => .fn (.func f) [] []

/-- what the program's table says of a type that is data -/
structure TyGood (P : Program) (t : TypeId) (τ : Ty) : Prop where
  info : ∃ i z, P.info? t = some i ∧ i.size = τ.size ∧ i.bytes ≤ 4096 ∧ i.zero = some z ∧ z.cells.toList = zcells τ
  und : ∃ d, P.underlying t = some d ∧ isAggD d = τ.isAgg

structure Env.OK (E : Env) : Prop where
  ty : ∀ p ∈ E.ty, TyGood E.P p.1 p.2

def tyS? (P : Program) (t : TypeId) : Option (Nat × Bool) :=
  match P.info? t with
  | some i => (match P.underlying t with | some d => some (i.size, isAggD d) | none => none)
  | none => none
theorem tyS_some {P : Program} {t : TypeId} {n : Nat} {b : Bool} (h : tyS? P t = some (n, b)) : TyS P t n b := by
  unfold tyS? at h
  split at h
  · rename_i i hi
    split at h
    · rename_i d hd
      cases h
      exact ⟨⟨i, hi, rfl⟩, ⟨d, hd, rfl⟩⟩
    · cases h
  · cases h

/-- is it a type of n cells, an aggregate or not? -/
def tyIs (P : Program) (t : TypeId) (n : Nat) (b : Bool) : Bool :=
  match tyS? P t with | some (m, c) => Nat.beq m n && (bif c then b else !b) | none => false
theorem tyIs_spec {P : Program} {t : TypeId} {n : Nat} {b : Bool} (h : tyIs P t n b = true) : TyS P t n b := by
  unfold tyIs at h
  split at h
  · rename_i m c hc
    simp only [Bool.and_eq_true] at h
    obtain ⟨h1, h2⟩ := h
    rw [← Nat.eq_of_beq_eq_true h1]
    have : c = b := by cases c <;> cases b <;> simp_all
    rw [← this]
    exact tyS_some hc
  · cases h
/-- … of n cells -/
def tyN (P : Program) (t : TypeId) (n : Nat) : Bool := match tyS? P t with | some (m, _) => Nat.beq m n | none => false
theorem tyN_spec {P : Program} {t : TypeId} {n : Nat} (h : tyN P t n = true) : ∃ b, TyS P t n b := by
  unfold tyN at h
  split at h
  · rename_i m c hc; rw [← Nat.eq_of_beq_eq_true h]; exact ⟨c, tyS_some hc⟩
  · cases h

def slIs (P : Program) (t : TypeId) (n : Nat) : Bool :=
  match P.underlying t with
  | some (.slice e) => (match P.info? e with | some i => Nat.beq i.size n | none => false)
  | _ => false
theorem slIs_spec {P : Program} {t : TypeId} {n : Nat} (h : slIs P t n = true) : SlT P t n := by
  unfold slIs at h
  split at h
  · rename_i e he
    split at h
    · rename_i i hi; exact ⟨e, i, he, hi, Nat.eq_of_beq_eq_true h⟩
    · cases h
  · cases h

def arIs (P : Program) (t : TypeId) (m n : Nat) : Bool :=
  match P.underlying t with
  | some (.array l e) => Nat.beq l m && (match P.info? e with | some i => Nat.beq i.size n | none => false)
  | _ => false
theorem arIs_spec {P : Program} {t : TypeId} {m n : Nat} (h : arIs P t m n = true) : ArT P t m n := by
  unfold arIs at h
  split at h
  · rename_i l e he
    simp only [Bool.and_eq_true] at h
    obtain ⟨h1, h2⟩ := h
    split at h2
    · rename_i i hi; rw [← Nat.eq_of_beq_eq_true h1]; exact ⟨e, i, he, hi, Nat.eq_of_beq_eq_true h2⟩
    · cases h2
  · cases h

/-- a slice type whose elements are data -/
def elT? (E : Env) (t : TypeId) : Option (TypeId × Ty) :=
  match E.P.underlying t with
  | some (.slice T) => (match lk E.ty T with | some e => bif Nat.blt 0 e.size then some (T, e) else none | none => none)
  | _ => none
theorem elT_some {E : Env} (hE : E.OK) {t T : TypeId} {e : Ty} (h : elT? E t = some (T, e)) : ElT E.P t T e := by
  unfold elT? at h
  split at h
  · rename_i T' hT
    split at h
    · rename_i e' he
      cases hb : Nat.blt 0 e'.size with
      | false => rw [hb] at h; cases h
      | true =>
        rw [hb] at h
        cases h
        obtain ⟨i, z, h1, h2, h3, h4, h5⟩ := (hE.ty _ (lk_mem he)).info
        exact ⟨hT, ⟨i, z, h1, h2, h3, h4, h5⟩, Nat.le_of_ble_eq_true hb⟩
    · cases h
  · cases h

theorem ev_eq {E : Env} {C : Ctx} (hΓ : C.Γ = E.gam) (s : LSt) (x : Operand) : s.toA.ev C x = s.ev E x := by
  cases x with
  | tmp t => rfl
  | const v => rfl
  | global g =>
    simp only [ASt.ev, LSt.ev, hΓ, Env.gam]
    cases lk E.Γ g <;> rfl
  | func f => rfl

def E1.eff (e : E1) (dst : Option Nat) : Eff := ⟨dst, e.av, e.rd, e.wr⟩
def LSt.pv (s : LSt) (a : AV) : E1 := ⟨a, [], [], s.nx⟩
def LSt.pr (s : LSt) (a : AV) (rd : List Nat) : E1 := ⟨a, rd, [], s.nx⟩

def Does (E : Env) (C : Ctx) (o : Oper) (s : LSt) (k : E1 → Option R) (r : R) : Prop := ∃ e : E1, k e = some r ∧ OpW E.P C o (e.eff o.dst) s.toA

theorem Does.of {E : Env} {C : Ctx} {o : Oper} {s : LSt} {k : E1 → Option R} {r : R} (e : E1) (hk : k e = some r) (h : OpOK E.P C o (e.eff o.dst) s.toA) : Does E C o s k r := ⟨e, hk, h.w⟩

/-! ### computing -/

def intBin (bop : BinOp) (k : IntKind) (a b : Int) : Option AV :=
  match bop with
  | .add => some (.d (.int k) (k.wrap (a + b)))
  | .sub => some (.d (.int k) (k.wrap (a - b)))
  | .mul => some (.d (.int k) (k.wrap (a * b)))
  | .and => some (.d (.int k) (k.wrap (BitVec.ofInt k.bits a &&& BitVec.ofInt k.bits b).toNat))
  | .or => some (.d (.int k) (k.wrap (BitVec.ofInt k.bits a ||| BitVec.ofInt k.bits b).toNat))
  | .xor => some (.d (.int k) (k.wrap (BitVec.ofInt k.bits a ^^^ BitVec.ofInt k.bits b).toNat))
  | .andNot => some (.d (.int k) (k.wrap (BitVec.ofInt k.bits a &&& ~~~ BitVec.ofInt k.bits b).toNat))
  | .eql => some (.d .bool (a == b))
  | .neq => some (.d .bool (a != b))
  | .lss => some (.d .bool (decide (a < b)))
  | .leq => some (.d .bool (decide (a ≤ b)))
  | .gtr => some (.d .bool (decide (a > b)))
  | .geq => some (.d .bool (decide (a ≥ b)))
  | _ => none

def fltBin (bop : BinOp) (k : FloatKind) (a b : Nat) : Option AV :=
  match bop with
  | .add => some (.d (.flt k) (fop .add k a b))
  | .sub => some (.d (.flt k) (fop .sub k a b))
  | .mul => some (.d (.flt k) (fop .mul k a b))
  | .quo => some (.d (.flt k) (fop .quo k a b))
  | .eql => some (.d .bool (k.format.order a b == some .eq))
  | .neq => some (.d .bool (k.format.order a b != some .eq))
  | .lss => some (.d .bool (k.format.order a b == some .lt))
  | .leq => some (.d .bool (k.format.order a b == some .lt || k.format.order a b == some .eq))
  | .gtr => some (.d .bool (k.format.order a b == some .gt))
  | .geq => some (.d .bool (k.format.order a b == some .gt || k.format.order a b == some .eq))
  | _ => none

def isIf (P : Program) (t : TypeId) : Bool := match P.underlying t with | some (.interface _) => true | _ => false
theorem isIf_spec {P : Program} {t : TypeId} (h : isIf P t = true) : ∃ m, P.underlying t = some (.interface m) := by
  unfold isIf at h
  split at h
  · rename_i m hm; exact ⟨m, hm⟩
  · cases h

def isBo (P : Program) (t : TypeId) : Bool := match P.underlying t with | some .bool => true | _ => false
theorem isBo_spec {P : Program} {t : TypeId} (h : isBo P t = true) : P.underlying t = some .bool := by
  unfold isBo at h
  split at h
  · rename_i hm; exact hm
  · cases h

section
variable {P : Program} {C : Ctx} {s : ASt} {dst : Option Tmp} {ty : TypeId} {pos : String} {aft : Array Edge} {gd : Option (Nat × Bool)}
theorem run_eqbool {xt : TypeId} (ht : P.underlying xt = some .bool) (a b : Bool) (w : World) : (Op.equal xt (.bool a) (.bool b)).run P w = .ok (a == b) w := by
  show (Op.equalIn (9999 + 1) xt _ _).run P w = _
  rw [Op.equalIn.eq_2]
  simp only [Sem.run_bind, run_underlying ht, Result.andThen_ok]
  rfl
theorem ok_beq {xt yt : TypeId} {x y : Operand} {a b : Bool} (hx : s.ev C x = .d .bool a) (hy : s.ev C y = .d .bool b) (ht : P.underlying xt = some .bool) :
    OpOK P C ⟨dst, .binOp .eql xt x y yt, ty, pos, aft, gd⟩ ⟨dst, .d .bool (a == b), [], []⟩ s :=
  ok_pure fun w im μ hp ρ h => by
    have e1 := scal_eq (u := .bool a) (by rw [hx]; rfl) (h x (by simp [Op.operands]))
    have e2 := scal_eq (u := .bool b) (by rw [hy]; rfl) (h y (by simp [Op.operands]))
    have hb : binOp .eql xt (.bool a) (.bool b) = (do pure (.bool (← Op.equal xt (.bool a) (.bool b)))) := rfl
    have hg : eqGuard .eql xt x y (.bool a) (.bool b) = pure () := by simp [eqGuard]
    refine ⟨.bool (a == b), ?_, constAV_rep _ _ _ _ (.bool (a == b))⟩
    simp only [execOp, e1, e2, hg, hb]
    simp [run_eqbool ht]
theorem ok_bne {xt yt : TypeId} {x y : Operand} {a b : Bool} (hx : s.ev C x = .d .bool a) (hy : s.ev C y = .d .bool b) (ht : P.underlying xt = some .bool) :
    OpOK P C ⟨dst, .binOp .neq xt x y yt, ty, pos, aft, gd⟩ ⟨dst, .d .bool (!(a == b)), [], []⟩ s :=
  ok_pure fun w im μ hp ρ h => by
    have e1 := scal_eq (u := .bool a) (by rw [hx]; rfl) (h x (by simp [Op.operands]))
    have e2 := scal_eq (u := .bool b) (by rw [hy]; rfl) (h y (by simp [Op.operands]))
    have hb : binOp .neq xt (.bool a) (.bool b) = (do pure (.bool (!(← Op.equal xt (.bool a) (.bool b))))) := rfl
    have hg : eqGuard .neq xt x y (.bool a) (.bool b) = pure () := by simp [eqGuard]
    refine ⟨.bool (!(a == b)), ?_, constAV_rep _ _ _ _ (.bool (!(a == b)))⟩
    simp only [execOp, e1, e2, hg, hb]
    simp [run_eqbool ht]
end

theorem ok_sleq {P : Program} {C : Ctx} {s : ASt} {dst : Option Tmp} {ty : TypeId} {pos : String} {aft : Array Edge} {gd : Option (Nat × Bool)} {x y : Operand} {xt yt T : TypeId} {e : Ty} {xs : List e.den} {av : AV} (hx : s.ev C x = av) (hs : Src s.hp av e xs) (hne : xs ≠ []) (hy : s.ev C y = .nils) (ht : P.underlying xt = some (.slice T)) (b : Bool) :
    OpOK P C ⟨dst, .binOp (bif b then .neq else .eql) xt x y yt, ty, pos, aft, gd⟩ ⟨dst, .d .bool b, av.objs, []⟩ s :=
  ok_read av.objs fun w im μ hp ρ h hk hob => by
    obtain ⟨ad, cap, hv, hcap, hsr⟩ := (hs.hp hk).sound (hx ▸ h x (by cases b <;> simp [Op.operands])) hob
    obtain ⟨hr, hag⟩ := hy ▸ h y (by cases b <;> simp [Op.operands])
    simp only [RepA] at hr
    have e2 := slice_of_cells hr hag
    obtain ⟨bb, off, cs, rfl, _⟩ := hsr.resolve_left hne
    have he : (Op.equal xt (.slice (some ⟨bb, off, none⟩) xs.length cap) (.slice none 0 0)).run P w = .ok false w := by
      show (Op.equalIn (9999 + 1) xt _ _).run P w = _
      rw [Op.equalIn.eq_2]
      simp only [Sem.run_bind, run_underlying ht, Result.andThen_ok]
      rfl
    cases b with
    | false =>
      have hb : binOp .eql xt (.slice (some ⟨bb, off, none⟩) xs.length cap) (.slice none 0 0) = (do pure (.bool (← Op.equal xt (.slice (some ⟨bb, off, none⟩) xs.length cap) (.slice none 0 0)))) := rfl
      have hg : eqGuard .eql xt x y (.slice (some ⟨bb, off, none⟩) xs.length cap) (.slice none 0 0) = pure () := rfl
      refine ⟨.bool false, w, ?_, rfl, rfl, rfl, rfl, constAV_rep _ _ _ _ (.bool false)⟩
      simp only [cond_false, execOp, hv, e2, hg, hb]
      simp [he]
    | true =>
      have hb : binOp .neq xt (.slice (some ⟨bb, off, none⟩) xs.length cap) (.slice none 0 0) = (do pure (.bool (!(← Op.equal xt (.slice (some ⟨bb, off, none⟩) xs.length cap) (.slice none 0 0))))) := rfl
      have hg : eqGuard .neq xt x y (.slice (some ⟨bb, off, none⟩) xs.length cap) (.slice none 0 0) = pure () := rfl
      refine ⟨.bool true, w, ?_, rfl, rfl, rfl, rfl, constAV_rep _ _ _ _ (.bool true)⟩
      simp only [cond_true, execOp, hv, e2, hg, hb]
      simp [he]

theorem ok_sleq_nil {P : Program} {C : Ctx} {s : ASt} {dst : Option Tmp} {ty : TypeId} {pos : String} {aft : Array Edge} {gd : Option (Nat × Bool)} {x y : Operand} {xt yt T : TypeId} (hx : s.ev C x = .nils) (hy : s.ev C y = .nils) (ht : P.underlying xt = some (.slice T)) (b : Bool) :
    OpOK P C ⟨dst, .binOp (bif b then .eql else .neq) xt x y yt, ty, pos, aft, gd⟩ ⟨dst, .d .bool b, [], []⟩ s :=
  ok_pure fun w im μ hp ρ h => by
    obtain ⟨hr1, hag1⟩ := hx ▸ h x (by cases b <;> simp [Op.operands])
    obtain ⟨hr, hag⟩ := hy ▸ h y (by cases b <;> simp [Op.operands])
    simp only [RepA] at hr hr1
    have e1 := slice_of_cells hr1 hag1
    have e2 := slice_of_cells hr hag
    have he : (Op.equal xt (.slice none 0 0) (.slice none 0 0)).run P w = .ok true w := by
      show (Op.equalIn (9999 + 1) xt _ _).run P w = _
      rw [Op.equalIn.eq_2]
      simp only [Sem.run_bind, run_underlying ht, Result.andThen_ok]
      rfl
    cases b with
    | true =>
      have hb : binOp .eql xt (.slice none 0 0) (.slice none 0 0) = (do pure (.bool (← Op.equal xt (.slice none 0 0) (.slice none 0 0)))) := rfl
      have hg : eqGuard .eql xt x y (.slice none 0 0) (.slice none 0 0) = pure () := rfl
      refine ⟨.bool true, ?_, constAV_rep _ _ _ _ (.bool true)⟩
      simp only [cond_true, execOp, e1, e2, hg, hb]
      simp [he]
    | false =>
      have hb : binOp .neq xt (.slice none 0 0) (.slice none 0 0) = (do pure (.bool (!(← Op.equal xt (.slice none 0 0) (.slice none 0 0))))) := rfl
      have hg : eqGuard .neq xt x y (.slice none 0 0) (.slice none 0 0) = pure () := rfl
      refine ⟨.bool false, ?_, constAV_rep _ _ _ _ (.bool false)⟩
      simp only [cond_false, execOp, e1, e2, hg, hb]
      simp [he]

/-! ### structs of whole numbers, against each other -/

def eqI : (τ : Ty) → τ.den → τ.den → Bool
  | .int _, x, y => decide ((x : Int) = y)
  | .pair a b, x, y => eqI a x.1 y.1 && eqI b x.2 y.2
  | _, _, _ => true

def chkI (P : Program) : List Field → Ty → Nat → Bool
  | [], .unit, _ => true
  | f :: fs, .pair (.int _) b, off => decide (f.name ≠ "_") && Nat.beq f.offset off && (match P.underlying f.type with | some (.int _) => true | _ => false) && chkI P fs b (off + 1)
  | _, _, _ => false

theorem eqFields_run {P : Program} {w : World} {im : Nat → Prop} {xs ys : Array Value} : ∀ (fs : List Field) (τ : Ty) (off : Nat) (cs ds : List Value) (x y : τ.den), chkI P fs τ off = true → RepD w im τ cs x → RepD w im τ ds y → xs.toList.drop off = cs → ys.toList.drop off = ds →
    (Op.eqFields 9999 xs ys fs).run P w = .ok (eqI τ x y) w
  | [], τ, off, cs, ds, x, y, h, h1, h2, h3, h4 => by
    cases τ <;> simp [chkI] at h
    simp [Op.eqFields, eqI]
  | f :: fs, τ, off, cs, ds, x, y, h, h1, h2, h3, h4 => by
    cases τ with
    | pair a b =>
      cases a with
      | int k =>
        simp only [chkI, Bool.and_eq_true, decide_eq_true_eq] at h
        obtain ⟨⟨⟨g1, g2⟩, g3⟩, g4⟩ := h
        have hof := Nat.eq_of_beq_eq_true g2
        obtain ⟨c1, c2, rfl, rfl, hb1⟩ := h1
        obtain ⟨d1, d2, rfl, rfl, hb2⟩ := h2
        have hx : xs[off]? = some (.int k x.1) := by
          have := congrArg (fun l => l[0]?) h3
          simpa using this
        have hy : ys[off]? = some (.int k y.1) := by
          have := congrArg (fun l => l[0]?) h4
          simpa using this
        have hx2 : xs.toList.drop (off + 1) = c2 := by rw [← List.drop_drop, h3]; rfl
        have hy2 : ys.toList.drop (off + 1) = d2 := by rw [← List.drop_drop, h4]; rfl
        split at g3
        · rename_i k' hk'
          have hag : (isAgg f.type).run P w = .ok false w := by simp [isAgg, run_underlying hk']
          have hp1 : (part f.type xs f.offset).run P w = .ok (.int k x.1) w := by simp [part, hag, hof, hx]
          have hp2 : (part f.type ys f.offset).run P w = .ok (.int k y.1) w := by simp [part, hag, hof, hy]
          have he := run_equalIn_int (P := P) w 9998 f.type k k' x.1 y.1 hk'
          have ih := eqFields_run fs b (off + 1) c2 d2 x.2 y.2 g4 hb1 hb2 hx2 hy2
          simp only [Op.eqFields, if_pos g1, Sem.run_bind, hp1, hp2, Result.andThen_ok, he, eqI]
          by_cases hxy : x.1 = y.1
          · have h1 : ((x.1 : Int) == y.1) = true := by simpa using hxy
            simp only [h1, Bool.not_true, Bool.false_eq_true, if_false, ih]
            rw [show decide ((x.1 : Int) = y.1) = true from decide_eq_true hxy]
            rfl
          · have h1 : ((x.1 : Int) == y.1) = false := by rw [← Bool.not_eq_true]; intro hh; exact hxy (by simpa using hh)
            simp only [h1, Bool.not_false, if_true, Sem.run_pure]
            rw [show decide ((x.1 : Int) = y.1) = false from decide_eq_false hxy]
            rfl
        · cases g3
      | _ => simp [chkI] at h
    | _ => simp [chkI] at h

def stI (P : Program) (t : TypeId) (τ : Ty) : Bool :=
  match P.underlying t with
  | some (.struct fs) => chkI P fs.toList τ 0 && !(P.stoodInHeld t) && !(P.eqGuardType P.depth t) && τ.isAgg
  | _ => false

theorem ok_steq {P : Program} {C : Ctx} {s : ASt} {dst : Option Tmp} {ty : TypeId} {pos : String} {aft : Array Edge} {gd : Option (Nat × Bool)} {x y : Operand} {xt yt : TypeId} {τ : Ty} {a b : τ.den} (hx : s.ev C x = .d τ a) (hy : s.ev C y = .d τ b) (ht : stI P xt τ = true) (ng : Bool) :
    OpOK P C ⟨dst, .binOp (bif ng then .neq else .eql) xt x y yt, ty, pos, aft, gd⟩ ⟨dst, .d .bool (bif ng then !(eqI τ a b) else eqI τ a b), [], []⟩ s :=
  ok_pure fun w im μ hp ρ h => by
    unfold stI at ht
    split at ht
    · rename_i fs hu
      simp only [Bool.and_eq_true, Bool.not_eq_true'] at ht
      obtain ⟨⟨⟨g1, g2⟩, g3⟩, g4⟩ := ht
      obtain ⟨hr1, hag1⟩ := hx ▸ h x (by cases ng <;> simp [Op.operands])
      obtain ⟨hr2, hag2⟩ := hy ▸ h y (by cases ng <;> simp [Op.operands])
      simp only [RepA] at hr1 hr2
      have hf : P.fieldsOf xt = fs := by unfold Program.fieldsOf; rw [hu]
      obtain ⟨xs, e1⟩ : ∃ xs, ρ x = .agg xs := by
        generalize ρ x = v at hag1
        cases v <;> simp_all [vIsAgg, AV.isAgg]
      obtain ⟨ys, e2⟩ : ∃ ys, ρ y = .agg ys := by
        generalize ρ y = v at hag2
        cases v <;> simp_all [vIsAgg, AV.isAgg]
      rw [e1] at hr1; rw [e2] at hr2
      have hrun := eqFields_run (P := P) (xs := xs) (ys := ys) fs.toList τ 0 _ _ a b g1 hr1 hr2 rfl rfl
      have heq : (Op.equalIn 10000 xt (.agg xs) (.agg ys)).run P w = .ok (eqI τ a b) w := by
        rw [run_equalIn_struct w 9999 xt xs ys (by rw [hf]; exact hu) g2, hf]
        exact hrun
      have hg := fun op => run_eqGuard_agg (P := P) w op xt x y xs ys g3
      cases ng with
      | false =>
        refine ⟨.bool (eqI τ a b), ?_, constAV_rep _ _ _ _ (.bool _)⟩
        have := run_eql_struct (P := P) w xt xs ys
        rw [heq] at this
        simp only [Result.andThen_ok] at this
        simp only [cond_false, execOp, e1, e2]
        simp [hg, this]
      | true =>
        refine ⟨.bool (!(eqI τ a b)), ?_, constAV_rep _ _ _ _ (.bool _)⟩
        have := run_neq_struct (P := P) w xt xs ys
        rw [heq] at this
        simp only [Result.andThen_ok] at this
        simp only [cond_true, execOp, e1, e2]
        simp [hg, this]
    · cases ht

def stEq (E : Env) (bop : BinOp) (xt : TypeId) (τ : Ty) (a : τ.den) (v : AV) (s : LSt) (k : E1 → Option R) : Option R :=
  match v.asD τ with
  | some b => bif stI E.P xt τ then (match bop with | .eql => k (s.pv (.d .bool (eqI τ a b))) | .neq => k (s.pv (.d .bool (!(eqI τ a b)))) | _ => none) else none
  | none => none

theorem stEq_ok {E : Env} {C : Ctx} {s : LSt} {k : E1 → Option R} {r : R} {dst : Option Tmp} {ty : TypeId} {pos : String} {aft : Array Edge} {gd : Option (Nat × Bool)} (hΓ : C.Γ = E.gam) {bop : BinOp} {xt yt : TypeId} {x y : Operand} {τ : Ty} {a : τ.den} (hx : s.ev E x = .d τ a) (h : stEq E bop xt τ a (s.ev E y) s k = some r) : Does E C ⟨dst, .binOp bop xt x y yt, ty, pos, aft, gd⟩ s k r := by
  unfold stEq at h
  have ex := ev_eq hΓ s x
  have ey := ev_eq hΓ s y
  rw [hx] at ex
  split at h
  · rename_i b hb
    rw [AV.asD_some hb] at ey
    cases ht : stI E.P xt τ with
    | false => rw [ht] at h; cases h
    | true =>
      rw [ht] at h
      simp only [cond_true] at h
      split at h
      · exact .of _ h (ok_steq ex ey ht false)
      · exact .of _ h (ok_steq ex ey ht true)
      · cases h
  · cases h

def slNil (E : Env) (bop : BinOp) (xt : TypeId) (a : AV) (s : LSt) (k : E1 → Option R) : Option R :=
  match E.P.underlying xt with
  | some (.slice _) =>
    (match a with
    | .nils => (match bop with | .eql => k (s.pv (.d .bool true)) | .neq => k (s.pv (.d .bool false)) | _ => none)
    | a =>
      (match srcA s.hp a none with
      | some ⟨_, _ :: _⟩ => (match bop with | .eql => k (s.pr (.d .bool false) a.objs) | .neq => k (s.pr (.d .bool true) a.objs) | _ => none)
      | _ => none))
  | _ => none

theorem slNil_ok {E : Env} {C : Ctx} {s : LSt} {k : E1 → Option R} {r : R} {dst : Option Tmp} {ty : TypeId} {pos : String} {aft : Array Edge} {gd : Option (Nat × Bool)} (hΓ : C.Γ = E.gam) {bop : BinOp} {xt yt : TypeId} {x y : Operand} (hy : s.ev E y = .nils) (h : slNil E bop xt (s.ev E x) s k = some r) : Does E C ⟨dst, .binOp bop xt x y yt, ty, pos, aft, gd⟩ s k r := by
  unfold slNil at h
  have ex := ev_eq hΓ s x
  have ey := ev_eq hΓ s y
  rw [hy] at ey
  split at h
  · rename_i T hT
    split at h
    · rename_i hx
      rw [hx] at ex
      split at h
      · exact .of _ h (ok_sleq_nil ex ey hT true)
      · exact .of _ h (ok_sleq_nil ex ey hT false)
      · cases h
    · split at h
      · rename_i hs
        split at h
        · exact .of _ h (ok_sleq ex (srcA_some hs) (by simp) ey hT false)
        · exact .of _ h (ok_sleq ex (srcA_some hs) (by simp) ey hT true)
        · cases h
      · cases h
  · cases h

def opBin (E : Env) (bop : BinOp) (xt : TypeId) (x y : Operand) (s : LSt) (k : E1 → Option R) : Option R :=
  match s.ev E x, s.ev E y with
  | .d (.int k1) a, .d (.int k2) b =>
    (match bop with
    | .shl => (shl k1 a b).bind fun z => k (s.pv (.d (.int k1) z))
    | .shr => (shr k1 a b).bind fun z => k (s.pv (.d (.int k1) z))
    | .quo => if k1 = k2 then (quo k1 a b).bind fun z => k (s.pv (.d (.int k1) z)) else none
    | .rem => if k1 = k2 then (rem a b).bind fun z => k (s.pv (.d (.int k1) z)) else none
    | bop => if k1 = k2 then (match intBin bop k1 a b with | some v => k (s.pv v) | none => none) else none)
  | .d .bool a, .d .bool b =>
    (match bop with
    | .eql => bif isBo E.P xt then k (s.pv (.d .bool (a == b))) else none
    | .neq => bif isBo E.P xt then k (s.pv (.d .bool (!(a == b)))) else none
    | _ => none)
  | .d .str a, .d .str b =>
    (match bop with
    | .eql => k (s.pv (.d .bool (a == b)))
    | .neq => k (s.pv (.d .bool (!(a == b))))
    | .add => (strcat a b).bind fun z => k (s.pv (.d .str z))
    | _ => none)
  | .d (.flt k1) a, .d (.flt k2) b => if k1 = k2 then (match fltBin bop k1 a b with | some v => k (s.pv v) | none => none) else none
  | .iface _ (.d (.int _) _), .nilif => (match bop, y with | .neq, .const .nilIface => bif isIf E.P xt then k (s.pv (.d .bool true)) else none | _, _ => none)
  | .nilif, .nilif => (match bop, y with | .neq, .const .nilIface => bif isIf E.P xt then k (s.pv (.d .bool false)) else none | _, _ => none)
  | a, .nils => slNil E bop xt a s k
  | .d (.pair a b) z, v => stEq E bop xt (.pair a b) z v s k
  | _, _ => none

section
variable {E : Env} {C : Ctx} {s : LSt} {k : E1 → Option R} {r : R} {dst : Option Tmp} {ty : TypeId} {pos : String} {aft : Array Edge} {gd : Option (Nat × Bool)}

theorem opBin_ok (hΓ : C.Γ = E.gam) {bop : BinOp} {xt yt : TypeId} {x y : Operand} (h : opBin E bop xt x y s k = some r) : Does E C ⟨dst, .binOp bop xt x y yt, ty, pos, aft, gd⟩ s k r := by
  unfold opBin at h
  have ex := ev_eq hΓ s x
  have ey := ev_eq hΓ s y
  split at h
  · rename_i k1 a k2 b hx hy
    rw [hx] at ex; rw [hy] at ey
    split at h
    · obtain ⟨z, hz, h⟩ := bind_some h
      exact .of _ h (ok_shlM ex ey hz)
    · obtain ⟨z, hz, h⟩ := bind_some h
      exact .of _ h (ok_shrM ex ey hz)
    · split at h
      · rename_i he; subst he
        obtain ⟨z, hz, h⟩ := bind_some h
        exact .of _ h (ok_quoM ex ey hz)
      · cases h
    · split at h
      · rename_i he; subst he
        obtain ⟨z, hz, h⟩ := bind_some h
        exact .of _ h (ok_remM ex ey hz)
      · cases h
    · split at h
      · rename_i he; subst he
        cases hv : intBin bop k1 a b with
        | none => rw [hv] at h; cases h
        | some v =>
          rw [hv] at h
          refine .of _ h ?_
          have hs1 : scal (s.toA.ev C x) = some (.int k1 a) := by rw [ex]; rfl
          have hs2 : scal (s.toA.ev C y) = some (.int k1 b) := by rw [ey]; rfl
          cases bop <;> simp only [intBin, Option.some.injEq, reduceCtorEq] at hv <;> subst hv
          · exact ok_bin (r := .int k1 (k1.wrap (a + b))) hs1 hs2 (by cases k1 <;> rfl) rfl
          · exact ok_bin (r := .int k1 (k1.wrap (a - b))) hs1 hs2 (by cases k1 <;> rfl) rfl
          · exact ok_bin (r := .int k1 (k1.wrap (a * b))) hs1 hs2 (by cases k1 <;> rfl) rfl
          · exact ok_bin (r := .int k1 (k1.wrap (BitVec.ofInt k1.bits a &&& BitVec.ofInt k1.bits b).toNat)) hs1 hs2 (by cases k1 <;> rfl) rfl
          · exact ok_bin (r := .int k1 (k1.wrap (BitVec.ofInt k1.bits a ||| BitVec.ofInt k1.bits b).toNat)) hs1 hs2 (by cases k1 <;> rfl) rfl
          · exact ok_bin (r := .int k1 (k1.wrap (BitVec.ofInt k1.bits a ^^^ BitVec.ofInt k1.bits b).toNat)) hs1 hs2 (by cases k1 <;> rfl) rfl
          · exact ok_bin (r := .int k1 (k1.wrap (BitVec.ofInt k1.bits a &&& ~~~ BitVec.ofInt k1.bits b).toNat)) hs1 hs2 (by cases k1 <;> rfl) rfl
          · exact ok_bin (r := .bool (a == b)) hs1 hs2 (by cases k1 <;> rfl) rfl
          · exact ok_bin (r := .bool (a != b)) hs1 hs2 (by cases k1 <;> rfl) rfl
          · exact ok_bin (r := .bool (decide (a < b))) hs1 hs2 (by cases k1 <;> rfl) rfl
          · exact ok_bin (r := .bool (decide (a ≤ b))) hs1 hs2 (by cases k1 <;> rfl) rfl
          · exact ok_bin (r := .bool (decide (a > b))) hs1 hs2 (by cases k1 <;> rfl) rfl
          · exact ok_bin (r := .bool (decide (a ≥ b))) hs1 hs2 (by cases k1 <;> rfl) rfl
      · cases h
  · rename_i a b hx hy
    rw [hx] at ex; rw [hy] at ey
    split at h
    · cases hb : isBo E.P xt with
      | false => rw [hb] at h; cases h
      | true => rw [hb] at h; exact .of _ h (ok_beq ex ey (isBo_spec hb))
    · cases hb : isBo E.P xt with
      | false => rw [hb] at h; cases h
      | true => rw [hb] at h; exact .of _ h (ok_bne ex ey (isBo_spec hb))
    · cases h
  · rename_i a b hx hy
    rw [hx] at ex; rw [hy] at ey
    split at h
    · exact .of _ h (ok_streq ex ey)
    · exact .of _ h (ok_strne ex ey)
    · obtain ⟨z, hz, h⟩ := bind_some h
      exact .of _ h (by have := ok_strcat (P := E.P) (dst := dst) (ty := ty) (pos := pos) (aft := aft) (gd := gd) (xt := xt) (yt := yt) ex ey (strcat_some hz).1; rw [(strcat_some hz).2] at this; exact this)
    · cases h
  · rename_i k1 a k2 b hx hy
    rw [hx] at ex; rw [hy] at ey
    split at h
    · rename_i he; subst he
      cases hv : fltBin bop k1 a b with
      | none => rw [hv] at h; cases h
      | some v =>
        rw [hv] at h
        refine .of _ h ?_
        cases bop <;> first
          | (cases hv; exact ok_fop (by simp) ex ey)
          | (cases hv; exact ok_fcmp (by simp) ex ey rfl rfl)
          | cases hv
    · cases h
  · rename_i t kk n hx hy
    rw [hx] at ex; rw [hy] at ey
    split at h
    · cases hb : isIf E.P xt with
      | false => rw [hb] at h; cases h
      | true => rw [hb] at h; exact .of _ h (ok_ifne ex (isIf_spec hb))
    · cases h
  · rename_i hx hy
    rw [hx] at ex; rw [hy] at ey
    split at h
    · cases hb : isIf E.P xt with
      | false => rw [hb] at h; cases h
      | true => rw [hb] at h; exact .of _ h (ok_ifne_nil ex (isIf_spec hb))
    · cases h
  · rename_i hy
    exact slNil_ok hΓ hy h
  · rename_i hx _
    exact stEq_ok hΓ hx h
  · cases h

def opUn (E : Env) (uop : UnOp) (x : Operand) (s : LSt) (k : E1 → Option R) : Option R :=
  match uop, s.ev E x with
  | .not, .d .bool b => k (s.pv (.d .bool (!b)))
  | .neg, .d (.int j) n => k (s.pv (.d (.int j) (j.wrap (0 - n))))
  | _, _ => none

theorem opUn_ok (hΓ : C.Γ = E.gam) {uop : UnOp} {xt : TypeId} {x : Operand} (h : opUn E uop x s k = some r) : Does E C ⟨dst, .unOp uop xt x, ty, pos, aft, gd⟩ s k r := by
  unfold opUn at h
  have ex := ev_eq hΓ s x
  split at h
  · rename_i b hx
    rw [hx] at ex
    exact .of _ h (ok_un (u := .bool b) (by rw [ex]; rfl) rfl rfl)
  · rename_i j n hx
    rw [hx] at ex
    exact .of _ h (ok_un (u := .int j n) (by rw [ex]; rfl) rfl rfl)
  · cases h

def opPick (E : Env) (c x y : Operand) (s : LSt) (k : E1 → Option R) : Option R :=
  match s.ev E c with
  | .d .bool b => bif b then k (s.pv (s.ev E x)) else k (s.pv (s.ev E y))
  | _ => none

theorem opPick_ok (hΓ : C.Γ = E.gam) {c x y : Operand} (h : opPick E c x y s k = some r) : Does E C ⟨dst, .pick c x y, ty, pos, aft, gd⟩ s k r := by
  unfold opPick at h
  have ec := ev_eq hΓ s c
  split at h
  · rename_i b hc
    rw [hc] at ec
    cases b with
    | true => exact .of _ h (ok_pick_true ec (ev_eq hΓ s x))
    | false => exact .of _ h (ok_pick_false ec (ev_eq hΓ s y))
  · cases h

def opConv (E : Env) (st dt : TypeId) (x : Operand) (s : LSt) (k : E1 → Option R) : Option R :=
  match s.ev E x, E.P.underlying st, E.P.underlying dt with
  | .d (.int _) n, some _, some (.int j) => k (s.pv (.d (.int j) (j.wrap n)))
  | .d (.int _) n, some _, some (.float j) => k (s.pv (.d (.flt j) (canonF j (j.nearest n))))
  | _, _, _ => none

theorem opConv_ok (hΓ : C.Γ = E.gam) {st dt : TypeId} {x : Operand} (h : opConv E st dt x s k = some r) : Does E C ⟨dst, .convert st dt x, ty, pos, aft, gd⟩ s k r := by
  unfold opConv at h
  have ex := ev_eq hΓ s x
  split at h
  · rename_i k1 n d1 j hx h1 h2
    rw [hx] at ex
    exact .of _ h (ok_conv_int ex h1 h2)
  · rename_i k1 n d1 j hx h1 h2
    rw [hx] at ex
    exact .of _ h (ok_conv_intflt ex h1 h2)
  · cases h

/-! ### memory -/

/-- is the name free? -/
def free? (hp : LHp) (o : Nat) (x : Option R) : Option R := match hget hp o with | none => x | some _ => none
theorem free_some {hp : LHp} {o : Nat} {x : Option R} (h : free? hp o x = some r) : hget hp o = none ∧ x = some r := by
  unfold free? at h
  split at h
  · rename_i h0; exact ⟨h0, h⟩
  · cases h

def opBox (E : Env) (x : Operand) (s : LSt) (k : E1 → Option R) : Option R :=
  bif (s.ev E x).plain then free? s.hp s.nx (k ⟨.op s.nx [] 0, [], [(s.nx, .box (s.ev E x))], s.nx + 1⟩) else none

theorem opBox_ok (hΓ : C.Γ = E.gam) {d : Nat} {t : TypeId} {x : Operand} (h : opBox E x s k = some r) : Does E C ⟨some d, .box t x, ty, pos, aft, gd⟩ s k r := by
  unfold opBox at h
  cases hp : (s.ev E x).plain with
  | false => rw [hp] at h; cases h
  | true =>
    rw [hp] at h
    obtain ⟨h0, h⟩ := free_some h
    exact .of _ h (ok_box (ev_eq hΓ s x) hp h0)

/-- the zero of a type, as an abstract value -/
def zeroA? (E : Env) (t : TypeId) : Option AV :=
  match lk E.ty t with
  | some τ => some (zeroN τ)
  | none => (match E.P.info? t with
    | some i => (match i.zero with | some z => (match z with | .nilFunc => some .nilfn | .nilIface => some .nilif | .pointer none => some .nilp | _ => none) | none => none)
    | none => none)

theorem zeroA_some (hE : E.OK) {t : TypeId} {a : AV} (h : zeroA? E t = some a) (w : World) (im : Nat → Prop) (μ : Mu) (hp : Hp) : ∃ z : Value, (zeroValue t).run E.P w = .ok z w ∧ RepA w im μ hp a z.cells.toList := by
  unfold zeroA? at h
  split at h
  · rename_i τ hτ
    cases h
    obtain ⟨i, z, h1, h2, h3, h4, h5⟩ := (hE.ty _ (lk_mem hτ)).info
    obtain ⟨z', hr, hc⟩ := run_zero (P := E.P) (t := t) (ty := τ) ⟨i, z, h1, h4, h5⟩ w
    exact ⟨z', hr, by rw [hc]; exact zeroN_rep w im μ hp τ⟩
  · split at h
    · rename_i i hi
      split at h
      · rename_i z hz
        have hr : (zeroValue t).run E.P w = .ok z w := by simp [zeroValue, typeInfo, hi, hz]
        split at h
        · cases h; exact ⟨_, hr, by simp [RepA, Value.cells]⟩
        · cases h; exact ⟨_, hr, by simp [RepA, Value.cells]⟩
        · cases h; exact ⟨_, hr, by simp [RepA, Value.cells]⟩
        · cases h
      · cases h
    · cases h

def opAlloc (E : Env) (t : TypeId) (s : LSt) (k : E1 → Option R) : Option R :=
  match zeroA? E t with
  | some a => free? s.hp s.nx (k ⟨.op s.nx [] 0, [], [(s.nx, .box a)], s.nx + 1⟩)
  | none => none

theorem opAlloc_ok (hE : E.OK) {d : Nat} {t : TypeId} (h : opAlloc E t s k = some r) : Does E C ⟨some d, .alloc t, ty, pos, aft, gd⟩ s k r := by
  unfold opAlloc at h
  split at h
  · rename_i a ha
    obtain ⟨h0, h⟩ := free_some h
    refine .of _ h ?_
    intro s1 hop hhp im μ act w hi hd
    have h01 : s1.hp s.nx = none := (hhp s.nx (.inr (by simp [E1.eff]))).trans h0
    obtain ⟨z, hrun, hc⟩ := zeroA_some hE ha w im μ s1.hp
    refine ⟨_, _, im, _, .inl ?_, hi.newBox (c := a) (cells := z.cells) (T := t) (hd d rfl) h01 hc⟩
    simp only [execOp, Instr.alloc, Sem.run_bind, hrun, newVar_run, Result.andThen_ok]
    rfl
  · cases h

def opLoad (E : Env) (t : TypeId) (x : Operand) (s : LSt) (k : E1 → Option R) : Option R :=
  match s.ev E x with
  | .ip τ y => bif tyIs E.P t τ.size τ.isAgg then k (s.pv (.d τ y)) else none
  | .op o p off =>
    (match hget s.hp o with
    | some (.box v) => subA v p (fun off' u => bif Nat.beq off' off && tyIs E.P t u.asize u.isAgg then k (s.pr u [o]) else none)
    | _ => none)
  | .oe o m i =>
    (match hget s.hp o with
    | some (.arr _ e m' _ xs) => bif Nat.beq m m' && tyIs E.P t e.size e.isAgg then (xs[i]?).bind fun z => k (s.pr (.d e z) [o]) else none
    | _ => none)
  | _ => none

theorem opLoad_ok (hΓ : C.Γ = E.gam) {t : TypeId} {x : Operand} (h : opLoad E t x s k = some r) : Does E C ⟨dst, .load t x, ty, pos, aft, gd⟩ s k r := by
  unfold opLoad at h
  have ex := ev_eq hΓ s x
  split at h
  · rename_i τ y hx
    rw [hx] at ex
    cases hb : tyIs E.P t τ.size τ.isAgg with
    | false => rw [hb] at h; cases h
    | true => rw [hb] at h; exact .of _ h (ok_load_ip ex (tyIs_spec hb))
  · rename_i o p off hx
    rw [hx] at ex
    split at h
    · rename_i v ho
      obtain ⟨off', u, h1, h2⟩ := subA_some v p _ r h
      cases hb : Nat.beq off' off && tyIs E.P t u.asize u.isAgg with
      | false => rw [hb] at h2; cases h2
      | true =>
        rw [hb] at h2
        simp only [Bool.and_eq_true] at hb
        exact .of _ h2 (ok_load_op ex ho h1 (Nat.eq_of_beq_eq_true hb.1) (tyIs_spec hb.2))
    · cases h
  · rename_i o m i hx
    rw [hx] at ex
    split at h
    · rename_i T e m' z xs ho
      cases hb : Nat.beq m m' && tyIs E.P t e.size e.isAgg with
      | false => rw [hb] at h; cases h
      | true =>
        rw [hb] at h
        simp only [Bool.and_eq_true] at hb
        have hm := Nat.eq_of_beq_eq_true hb.1
        subst hm
        obtain ⟨y, hy, h⟩ := bind_some h
        exact .of _ h (ok_load_oe ex ho hy (tyIs_spec hb.2))
    · cases h
  · cases h

/-! ### arrays that are to turn no more, ahead of an operation -/

def fzOne (hp : LHp) (o : Nat) : LHp :=
  match hget hp o with
  | some (.arr T e m false xs) => [(o, .arr T e m true xs)]
  | _ => []
/-- freeze these arrays: what turns -/
def fzAll (hp : LHp) : List Nat → LHp
  | [] => []
  | o :: l => let w := fzAll hp l; fzOne (w ++ hp) o ++ w

theorem fzAll_le {s : ASt} {hp : LHp} (hs : s.hp = hget hp) : ∀ l : List Nat, Le C s ⟨s.fr, hpSet s.hp (fzAll hp l)⟩
  | [] => by
    have : hpSet s.hp (fzAll hp []) = s.hp := by funext o; simp [fzAll, hpSet]
    rw [this]; exact Le.refl _ _
  | o :: l => by
    refine (fzAll_le hs l).trans ?_
    simp only [fzAll, fzOne]
    have hh : hget (fzAll hp l ++ hp) = hpSet s.hp (fzAll hp l) := by rw [hget_append, hs]
    split
    · rename_i T e m xs h
      rw [hh] at h
      have := le_freeze (C := C) (s := ⟨s.fr, hpSet s.hp (fzAll hp l)⟩) h
      refine this.trans ?_
      have he : hpSet (hpSet s.hp (fzAll hp l)) [(o, .arr T e m true xs)] = hpSet s.hp ([(o, .arr T e m true xs)] ++ fzAll hp l) := by
        rw [hs, ← hget_append, ← hget_append, ← hget_append, List.append_assoc]
      rw [he]; exact Le.refl _ _
    · simp only [List.nil_append]; exact Le.refl _ _

theorem hpSet_append (hp : Hp) (a b : LHp) : hpSet hp (a ++ b) = hpSet (hpSet hp b) a := by
  funext o
  unfold hpSet
  rw [List.find?_append]
  cases a.find? (fun p => Nat.beq p.1 o) <;> simp

/-- an operation in a state in which some arrays have just been frozen -/
theorem OpW.frozen {P : Program} {o : Oper} {e : E1} {dst : Option Nat} {s : LSt} (l : List Nat) (h : OpW P C o (e.eff dst) ⟨s.fr.get, hpSet (hget s.hp) (fzAll s.hp l)⟩) :
    OpW P C o ((E1.mk e.av e.rd (e.wr ++ fzAll s.hp l) e.nx).eff dst) s.toA := by
  intro s1 hop hhp a w hr hd K Q hK
  -- the arrays that are frozen are the same in s1
  have hkeys : ∀ k, (k ∈ e.rd ∨ k ∈ (e.wr ++ fzAll s.hp l).map (·.1)) → s1.hp k = hget s.hp k := hhp
  have hle : Le C s1 ⟨s1.fr, hpSet s1.hp (fzAll s.hp l)⟩ := by
    have key : ∀ l' : List Nat, (∀ k, k ∈ (fzAll s.hp l').map (·.1) → s1.hp k = hget s.hp k) → Le C s1 ⟨s1.fr, hpSet s1.hp (fzAll s.hp l')⟩ := by
      intro l'
      induction l' with
      | nil =>
        intro _
        have : hpSet s1.hp (fzAll s.hp []) = s1.hp := by funext o; simp [fzAll, hpSet]
        rw [this]; exact Le.refl _ _
      | cons o l' ih =>
        intro hk
        have hsub : ∀ k, k ∈ (fzAll s.hp l').map (·.1) → k ∈ (fzAll s.hp (o :: l')).map (·.1) := fun k hk => by simp only [fzAll, List.map_append, List.mem_append]; exact .inr hk
        refine (ih (fun k h => hk k (hsub k h))).trans ?_
        simp only [fzAll, fzOne]
        split
        · rename_i T e m xs h
          have ho : hpSet s1.hp (fzAll s.hp l') o = some (.arr T e m false xs) := by
            have h' := h
            rw [hget_append] at h'
            by_cases hm : o ∈ (fzAll s.hp l').map (·.1)
            · rw [hpSet_congr (hp' := hget s.hp) hm]; exact h'
            · rw [hpSet_ne hm] at h' ⊢
              rw [hk o (by simp only [fzAll, fzOne, h, List.map_append, List.mem_append]; exact .inl (by simp))]
              exact h'
          have := le_freeze (C := C) (s := ⟨s1.fr, hpSet s1.hp (fzAll s.hp l')⟩) ho
          refine this.trans ?_
          have he : hpSet (hpSet s1.hp (fzAll s.hp l')) [(o, .arr T e m true xs)] = hpSet s1.hp ([(o, .arr T e m true xs)] ++ fzAll s.hp l') := by rw [hpSet_append]
          rw [he]; exact Le.refl _ _
        · simp only [List.nil_append]; exact Le.refl _ _
    exact key l (fun k h => hkeys k (.inr (by simp only [List.map_append, List.mem_append]; exact .inr h)))
  refine h ⟨s1.fr, hpSet s1.hp (fzAll s.hp l)⟩ hop ?_ a w (hle a w hr) hd K Q ?_
  · intro k hk
    show hpSet s1.hp (fzAll s.hp l) k = hpSet (hget s.hp) (fzAll s.hp l) k
    by_cases hm : k ∈ (fzAll s.hp l).map (·.1)
    · exact hpSet_congr hm
    · rw [hpSet_ne hm, hpSet_ne hm]
      rcases hk with hk | hk
      · exact hkeys k (.inl hk)
      · exact hkeys k (.inr (by simp only [List.map_append, List.mem_append]; exact .inl hk))
  · intro a' w' hr'
    refine hK a' w' ?_
    have : (Eff.app (e.eff dst) ⟨s1.fr, hpSet s1.hp (fzAll s.hp l)⟩) = Eff.app ((E1.mk e.av e.rd (e.wr ++ fzAll s.hp l) e.nx).eff dst) s1 := by
      simp only [Eff.app, E1.eff, hpSet_append]
      congr 1
      cases dst <;> rfl
    rw [← this]; exact hr'

end
end Go.Vm
