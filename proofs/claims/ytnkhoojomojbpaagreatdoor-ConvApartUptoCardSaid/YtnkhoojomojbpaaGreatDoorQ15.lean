/- Part N of the abstract machine: the executor's single operations, and that they are right. -/
import Derived.Test.YtnkhoojomojbpaaGreatDoorQ14
import Derived.Laws.StructEq
namespace Go.Vm
universe u
variable {R : Type}
structure FnE where
 run : {R : Type} -> List AV -> LHp -> (aq -> LHp -> Option R) -> Option R
structure lI where
 run : {R : Type} -> List AV -> (AV -> Option R) -> Option R
structure eu where
 run : {R : Type} -> Nat -> List AV -> LHp -> (Bool -> LHp -> Option R) -> Option R
structure Env where
 P : Program
 Γ : List (Nat × AV)
 ty : List (Nat × Ty)
 calls : List (Nat × FnE)
 exts : List (Nat × lI)
 round : Option eu := none
def lk {α : Type u} : List (Nat × α) -> Nat -> Option α
 | [], _ => none
 | (a, b) :: r, o => bif Nat.beq a o then some b else lk r o
theorem fy {α : Type u} : ∀ {l : List (Nat × α)} {o : Nat} {b : α}, lk l o = some b -> (o, b) ∈ l
 | [], _, _, h => by cases h
 | (a, c) :: r, o, b, h => by
  simp only [lk] at h
  cases hb : Nat.beq a o with
  | true => rw [hb] at h; cases h; rw [bo hb]; simp
  | false => rw [hb] at h; simp [fy h]
def Env.gam (E : Env) : Nat -> Option AV := lk E.Γ
def LSt.ev (E : Env) (s : LSt) : Operand -> AV
 | .tmp t => s.fr.get t
 | .const v => jf v
 | .global g => (match lk E.Γ g with | some v => v | none => .undef)
 | .func f => .fn (.func f) [] []
structure dE (P : Program) (t : TypeId) (τ : Ty) : Prop where
 info : ∃ i z, P.info? t = some i /\ i.size = τ.size /\ i.bytes <= 4096 /\ i.zero = some z /\ z.cells.toList = fv τ
 und : ∃ d, P.underlying t = some d /\ Dy d = τ.isAgg
structure Env.OK (E : Env) : Prop where
 ty : ∀ p ∈ E.ty, dE E.P p.1 p.2
def Kx (P : Program) (t : TypeId) : Option (Nat × Bool) :=
 match P.info? t with
 | some i => (match P.underlying t with | some d => some (i.size, Dy d) | none => none)
 | none => none
theorem tg {P : Program} {t : TypeId} {n : Nat} {b : Bool} (h : Kx P t = some (n, b)) : TyS P t n b := by
 unfold Kx at h
 split at h
 ·rename_i i hi
  split at h
  ·rename_i d hd
   cases h
   exact ⟨⟨i, hi, rfl⟩, ⟨d, hd, rfl⟩⟩
  ·cases h
 ·cases h
def th (P : Program) (t : TypeId) (n : Nat) (b : Bool) : Bool :=
 match Kx P t with | some (m, c) => Nat.beq m n && (bif c then b else !b) | none => false
theorem kS {P : Program} {t : TypeId} {n : Nat} {b : Bool} (h : th P t n b = true) : TyS P t n b := by
 unfold th at h
 split at h
 ·rename_i m c hc
  simp only [bg] at h
  obtain ⟨h1, h2⟩ := h
  rw [← bo h1]
  have : c = b := by cases c <;> cases b <;> simp_all
  rw [← this]
  exact tg hc
 ·cases h
def tyN (P : Program) (t : TypeId) (n : Nat) : Bool := match Kx P t with | some (m, _) => Nat.beq m n | none => false
theorem Aq {P : Program} {t : TypeId} {n : Nat} (h : tyN P t n = true) : ∃ b, TyS P t n b := by
 unfold tyN at h
 split at h
 ·rename_i m c hc; rw [← bo h]; exact ⟨c, tg hc⟩
 ·cases h
def jl (P : Program) (t : TypeId) (n : Nat) : Bool :=
 match P.underlying t with
 | some (.slice e) => (match P.info? e with | some i => Nat.beq i.size n | none => false)
 | _ => false
theorem dQ {P : Program} {t : TypeId} {n : Nat} (h : jl P t n = true) : SlT P t n := by
 unfold jl at h
 split at h
 ·rename_i e he
  split at h
  ·rename_i i hi; exact ⟨e, i, he, hi, bo h⟩
  ·cases h
 ·cases h
def HU (P : Program) (t : TypeId) (m n : Nat) : Bool :=
 match P.underlying t with
 | some (.array l e) => Nat.beq l m && (match P.info? e with | some i => Nat.beq i.size n | none => false)
 | _ => false
theorem wo {P : Program} {t : TypeId} {m n : Nat} (h : HU P t m n = true) : ArT P t m n := by
 unfold HU at h
 split at h
 ·rename_i l e he
  simp only [bg] at h
  obtain ⟨h1, h2⟩ := h
  split at h2
  ·rename_i i hi; rw [← bo h1]; exact ⟨e, i, he, hi, bo h2⟩
  ·cases h2
 ·cases h
def HV (E : Env) (t : TypeId) : Option (TypeId × Ty) :=
 match E.P.underlying t with
 | some (.slice T) => (match lk E.ty T with | some e => bif Nat.blt 0 e.size then some (T, e) else none | none => none)
 | _ => none
theorem jJ {E : Env} (hE : E.OK) {t T : TypeId} {e : Ty} (h : HV E t = some (T, e)) : ElT E.P t T e := by
 unfold HV at h
 split at h
 ·rename_i T' hT
  split at h
  ·rename_i e' he
   cases hb : Nat.blt 0 e'.size with
   | false => rw [hb] at h; cases h
   | true =>
    rw [hb] at h
    cases h
    obtain ⟨i, z, h1, h2, h3, h4, h5⟩ := (hE.ty _ (fy he)).info
    exact ⟨hT, ⟨i, z, h1, h2, h3, h4, h5⟩, Nat.le_of_ble_eq_true hb⟩
  ·cases h
 ·cases h
theorem bN {E : Env} {C : Ctx} (bG : C.Γ = E.gam) (s : LSt) (x : Operand) : s.toA.ev C x = s.ev E x := by
 cases x with
 | tmp t => rfl
 | const v => rfl
 | global g =>
  simp only [ASt.ev, LSt.ev, bG, Env.gam]
  cases lk E.Γ g <;> rfl
 | func f => rfl
def E1.eff (e : E1) (dst : Option Nat) : Eff := ⟨dst, e.av, e.rd, e.wr⟩
def LSt.pv (s : LSt) (a : AV) : E1 := ⟨a, [], [], s.nx⟩
def LSt.pr (s : LSt) (a : AV) (rd : List Nat) : E1 := ⟨a, rd, [], s.nx⟩
def dV (E : Env) (C : Ctx) (o : Oper) (s : LSt) (k : E1 -> Option R) (r : R) : Prop := ∃ e : E1, k e = some r /\ OpW E.P C o (e.eff o.dst) s.toA
theorem dV.of {E : Env} {C : Ctx} {o : Oper} {s : LSt} {k : E1 -> Option R} {r : R} (e : E1) (hk : k e = some r) (h : bL E.P C o (e.eff o.dst) s.toA) : dV E C o s k r := ⟨e, hk, h.w⟩
def DI (fE : BinOp) (k : IntKind) (a b : Int) : Option AV :=
 match fE with
 | .add => some (.d (.int k) (k.wrap (a + b)))
 | .sub => some (.d (.int k) (k.wrap (a - b)))
 | .mul => some (.d (.int k) (k.wrap (a * b)))
 | .and => some (.d (.int k) (k.wrap (BitVec.ofInt k.bits a &&& BitVec.ofInt k.bits b).toNat))
 | .or => some (.d (.int k) (k.wrap (BitVec.ofInt k.bits a ||| BitVec.ofInt k.bits b).toNat))
 | .xor => some (.d (.int k) (k.wrap (BitVec.ofInt k.bits a ^^^ BitVec.ofInt k.bits b).toNat))
 | .andNot => some (.d (.int k) (k.wrap (BitVec.ofInt k.bits a &&& ~~~ BitVec.ofInt k.bits b).toNat))
 | .eql => some (.d .bool (a == b))
 | .neq => some (.d .bool (a != b))
 | .lss => some (.d .bool (decide (a < b)))
 | .leq => some (.d .bool (decide (a <= b)))
 | .gtr => some (.d .bool (decide (a > b)))
 | .geq => some (.d .bool (decide (a >= b)))
 | _ => none
def Ky (fE : BinOp) (k : FloatKind) (a b : Nat) : Option AV :=
 match fE with
 | .add => some (.d (.flt k) (fop .add k a b))
 | .sub => some (.d (.flt k) (fop .sub k a b))
 | .mul => some (.d (.flt k) (fop .mul k a b))
 | .quo => some (.d (.flt k) (fop .quo k a b))
 | .eql => some (.d .bool (k.format.order a b == some .eq))
 | .neq => some (.d .bool (k.format.order a b != some .eq))
 | .lss => some (.d .bool (k.format.order a b == some .lt))
 | .leq => some (.d .bool (k.format.order a b == some .lt || k.format.order a b == some .eq))
 | .gtr => some (.d .bool (k.format.order a b == some .gt))
 | .geq => some (.d .bool (k.format.order a b == some .gt || k.format.order a b == some .eq))
 | _ => none
def HW (P : Program) (t : TypeId) : Bool := match P.underlying t with | some (.interface _) => true | _ => false
theorem wq {P : Program} {t : TypeId} (h : HW P t = true) : ∃ m, P.underlying t = some (.interface m) := by
 unfold HW at h
 split at h
 ·rename_i m hm; exact ⟨m, hm⟩
 ·cases h
def HX (P : Program) (t : TypeId) : Bool := match P.underlying t with | some .bool => true | _ => false
theorem wu {P : Program} {t : TypeId} (h : HX P t = true) : P.underlying t = some .bool := by
 unfold HX at h
 split at h
 ·rename_i hm; exact hm
 ·cases h
section
variable {P : Program} {C : Ctx} {s : ASt} {dst : Option Tmp} {ty : TypeId} {pos : String} {cc : Array Edge} {gd : Option (Nat × Bool)}
theorem ti {xt : TypeId} (ht : P.underlying xt = some .bool) (a b : Bool) (w : World) : (Op.equal xt (.bool a) (.bool b)).run P w = .ok (a == b) w := by
 show (Op.equalIn (9999 + 1) xt _ _).run P w = _
 rw [Op.equalIn.eq_2]
 simp only [Sem.run_bind, run_underlying ht, Result.andThen_ok]
 rfl
theorem Xx {xt yt : TypeId} {x y : Operand} {a b : Bool} (hx : s.ev C x = .d .bool a) (hy : s.ev C y = .d .bool b) (ht : P.underlying xt = some .bool) :
  bL P C ⟨dst, .binOp .eql xt x y yt, ty, pos, cc, gd⟩ ⟨dst, .d .bool (a == b), [], []⟩ s :=
 aY fun w im μ hp ρ h => by
  have e1 := bH (u := .bool a) (by rw [hx]; rfl) (h x (by simp [Op.operands]))
  have e2 := bH (u := .bool b) (by rw [hy]; rfl) (h y (by simp [Op.operands]))
  have hb : binOp .eql xt (.bool a) (.bool b) = (do pure (.bool (← Op.equal xt (.bool a) (.bool b)))) := rfl
  have hg : eqGuard .eql xt x y (.bool a) (.bool b) = pure () := by simp [eqGuard]
  refine ⟨.bool (a == b), ?_, aN _ _ _ _ (.bool (a == b))⟩
  simp only [execOp, e1, e2, hg, hb]
  simp [ti ht]
theorem Xy {xt yt : TypeId} {x y : Operand} {a b : Bool} (hx : s.ev C x = .d .bool a) (hy : s.ev C y = .d .bool b) (ht : P.underlying xt = some .bool) :
  bL P C ⟨dst, .binOp .neq xt x y yt, ty, pos, cc, gd⟩ ⟨dst, .d .bool (!(a == b)), [], []⟩ s :=
 aY fun w im μ hp ρ h => by
  have e1 := bH (u := .bool a) (by rw [hx]; rfl) (h x (by simp [Op.operands]))
  have e2 := bH (u := .bool b) (by rw [hy]; rfl) (h y (by simp [Op.operands]))
  have hb : binOp .neq xt (.bool a) (.bool b) = (do pure (.bool (!(← Op.equal xt (.bool a) (.bool b))))) := rfl
  have hg : eqGuard .neq xt x y (.bool a) (.bool b) = pure () := by simp [eqGuard]
  refine ⟨.bool (!(a == b)), ?_, aN _ _ _ _ (.bool (!(a == b)))⟩
  simp only [execOp, e1, e2, hg, hb]
  simp [ti ht]
end
theorem Fj {P : Program} {C : Ctx} {s : ASt} {dst : Option Tmp} {ty : TypeId} {pos : String} {cc : Array Edge} {gd : Option (Nat × Bool)} {x y : Operand} {xt yt T : TypeId} {e : Ty} {xs : List e.den} {av : AV} (hx : s.ev C x = av) (hs : Src s.hp av e xs) (lC : xs ≠ []) (hy : s.ev C y = .nils) (ht : P.underlying xt = some (.slice T)) (b : Bool) :
  bL P C ⟨dst, .binOp (bif b then .neq else .eql) xt x y yt, ty, pos, cc, gd⟩ ⟨dst, .d .bool b, av.objs, []⟩ s :=
 dC av.objs fun w im μ hp ρ h hk ef => by
  obtain ⟨ad, cap, hv, hcap, hsr⟩ := (hs.hp hk).sound (hx ▸ h x (by cases b <;> simp [Op.operands])) ef
  obtain ⟨hr, cY⟩ := hy ▸ h y (by cases b <;> simp [Op.operands])
  simp only [RepA] at hr
  have e2 := aL hr cY
  obtain ⟨bb, off, cs, rfl, _⟩ := hsr.resolve_left lC
  have he : (Op.equal xt (.slice (some ⟨bb, off, none⟩) xs.length cap) (.slice none 0 0)).run P w = .ok false w := by
   show (Op.equalIn (9999 + 1) xt _ _).run P w = _
   rw [Op.equalIn.eq_2]
   simp only [Sem.run_bind, run_underlying ht, Result.andThen_ok]
   rfl
  cases b with
  | false =>
   have hb : binOp .eql xt (.slice (some ⟨bb, off, none⟩) xs.length cap) (.slice none 0 0) = (do pure (.bool (← Op.equal xt (.slice (some ⟨bb, off, none⟩) xs.length cap) (.slice none 0 0)))) := rfl
   have hg : eqGuard .eql xt x y (.slice (some ⟨bb, off, none⟩) xs.length cap) (.slice none 0 0) = pure () := rfl
   refine ⟨.bool false, w, ?_, rfl, rfl, rfl, rfl, aN _ _ _ _ (.bool false)⟩
   simp only [ax, execOp, hv, e2, hg, hb]
   simp [he]
  | true =>
   have hb : binOp .neq xt (.slice (some ⟨bb, off, none⟩) xs.length cap) (.slice none 0 0) = (do pure (.bool (!(← Op.equal xt (.slice (some ⟨bb, off, none⟩) xs.length cap) (.slice none 0 0))))) := rfl
   have hg : eqGuard .neq xt x y (.slice (some ⟨bb, off, none⟩) xs.length cap) (.slice none 0 0) = pure () := rfl
   refine ⟨.bool true, w, ?_, rfl, rfl, rfl, rfl, aN _ _ _ _ (.bool true)⟩
   simp only [ak, execOp, hv, e2, hg, hb]
   simp [he]
theorem qV {P : Program} {C : Ctx} {s : ASt} {dst : Option Tmp} {ty : TypeId} {pos : String} {cc : Array Edge} {gd : Option (Nat × Bool)} {x y : Operand} {xt yt T : TypeId} (hx : s.ev C x = .nils) (hy : s.ev C y = .nils) (ht : P.underlying xt = some (.slice T)) (b : Bool) :
  bL P C ⟨dst, .binOp (bif b then .eql else .neq) xt x y yt, ty, pos, cc, gd⟩ ⟨dst, .d .bool b, [], []⟩ s :=
 aY fun w im μ hp ρ h => by
  obtain ⟨Dh, hag1⟩ := hx ▸ h x (by cases b <;> simp [Op.operands])
  obtain ⟨hr, cY⟩ := hy ▸ h y (by cases b <;> simp [Op.operands])
  simp only [RepA] at hr Dh
  have e1 := aL Dh hag1
  have e2 := aL hr cY
  have he : (Op.equal xt (.slice none 0 0) (.slice none 0 0)).run P w = .ok true w := by
   show (Op.equalIn (9999 + 1) xt _ _).run P w = _
   rw [Op.equalIn.eq_2]
   simp only [Sem.run_bind, run_underlying ht, Result.andThen_ok]
   rfl
  cases b with
  | true =>
   have hb : binOp .eql xt (.slice none 0 0) (.slice none 0 0) = (do pure (.bool (← Op.equal xt (.slice none 0 0) (.slice none 0 0)))) := rfl
   have hg : eqGuard .eql xt x y (.slice none 0 0) (.slice none 0 0) = pure () := rfl
   refine ⟨.bool true, ?_, aN _ _ _ _ (.bool true)⟩
   simp only [ak, execOp, e1, e2, hg, hb]
   simp [he]
  | false =>
   have hb : binOp .neq xt (.slice none 0 0) (.slice none 0 0) = (do pure (.bool (!(← Op.equal xt (.slice none 0 0) (.slice none 0 0))))) := rfl
   have hg : eqGuard .neq xt x y (.slice none 0 0) (.slice none 0 0) = pure () := rfl
   refine ⟨.bool false, ?_, aN _ _ _ _ (.bool false)⟩
   simp only [ax, execOp, e1, e2, hg, hb]
   simp [he]
def eqI : (τ : Ty) -> τ.den -> τ.den -> Bool
 | .int _, x, y => decide ((x : Int) = y)
 | .pair a b, x, y => eqI a x.1 y.1 && eqI b x.2 y.2
 | _, _, _ => true
def DJ (P : Program) : List Field -> Ty -> Nat -> Bool
 | [], .unit, _ => true
 | f :: fs, .pair (.int _) b, off => decide (f.name ≠ "_") && Nat.beq f.offset off && (match P.underlying f.type with | some (.int _) => true | _ => false) && DJ P fs b (off + 1)
 | _, _, _ => false
theorem oZ {P : Program} {w : World} {im : Nat -> Prop} {xs ys : Array Value} : ∀ (fs : List Field) (τ : Ty) (off : Nat) (cs ds : List Value) (x y : τ.den), DJ P fs τ off = true -> aM w im τ cs x -> aM w im τ ds y -> xs.toList.drop off = cs -> ys.toList.drop off = ds ->
  (Op.eqFields 9999 xs ys fs).run P w = .ok (eqI τ x y) w
 | [], τ, off, cs, ds, x, y, h, h1, h2, h3, h4 => by
  cases τ <;> simp [DJ] at h
  simp [Op.eqFields, eqI]
 | f :: fs, τ, off, cs, ds, x, y, h, h1, h2, h3, h4 => by
  cases τ with
  | pair a b =>
   cases a with
   | int k =>
    simp only [DJ, bg, decide_eq_true_eq] at h
    obtain ⟨⟨⟨g1, g2⟩, g3⟩, g4⟩ := h
    have hof := bo g2
    obtain ⟨c1, c2, rfl, rfl, J1⟩ := h1
    obtain ⟨d1, d2, rfl, rfl, j5⟩ := h2
    have hx : xs[off]? = some (.int k x.1) := by
     have := congrArg (fun l => l[0]?) h3
     simpa using this
    have hy : ys[off]? = some (.int k y.1) := by
     have := congrArg (fun l => l[0]?) h4
     simpa using this
    have hx2 : xs.toList.drop (off + 1) = c2 := by rw [← List.drop_drop, h3]; rfl
    have hy2 : ys.toList.drop (off + 1) = d2 := by rw [← List.drop_drop, h4]; rfl
    split at g3
    ·rename_i k' PZ
     have cY : (isAgg f.type).run P w = .ok false w := by simp [isAgg, run_underlying PZ]
     have iS : (part f.type xs f.offset).run P w = .ok (.int k x.1) w := by simp [part, cY, hof, hx]
     have hp2 : (part f.type ys f.offset).run P w = .ok (.int k y.1) w := by simp [part, cY, hof, hy]
     have he := run_equalIn_int (P := P) w 9998 f.type k k' x.1 y.1 PZ
     have ih := oZ fs b (off + 1) c2 d2 x.2 y.2 g4 J1 j5 hx2 hy2
     simp only [Op.eqFields, if_pos g1, Sem.run_bind, iS, hp2, Result.andThen_ok, he, eqI]
     by_cases hxy : x.1 = y.1
     ·have h1 : ((x.1 : Int) == y.1) = true := by simpa using hxy
      simp only [h1, Bool.not_true, Bool.false_eq_true, if_false, ih]
      rw [show decide ((x.1 : Int) = y.1) = true from aE hxy]
      rfl
     ·have h1 : ((x.1 : Int) == y.1) = false := by rw [← Bool.not_eq_true]; intro hh; exact hxy (by simpa using hh)
      simp only [h1, Bool.not_false, if_true, Sem.run_pure]
      rw [show decide ((x.1 : Int) = y.1) = false from de hxy]
      rfl
    ·cases g3
   | _ => simp [DJ] at h
  | _ => simp [DJ] at h
def stI (P : Program) (t : TypeId) (τ : Ty) : Bool :=
 match P.underlying t with
 | some (.struct fs) => DJ P fs.toList τ 0 && !(P.stoodInHeld t) && !(P.eqGuardType P.depth t) && τ.isAgg
 | _ => false
theorem Fk {P : Program} {C : Ctx} {s : ASt} {dst : Option Tmp} {ty : TypeId} {pos : String} {cc : Array Edge} {gd : Option (Nat × Bool)} {x y : Operand} {xt yt : TypeId} {τ : Ty} {a b : τ.den} (hx : s.ev C x = .d τ a) (hy : s.ev C y = .d τ b) (ht : stI P xt τ = true) (ng : Bool) :
  bL P C ⟨dst, .binOp (bif ng then .neq else .eql) xt x y yt, ty, pos, cc, gd⟩ ⟨dst, .d .bool (bif ng then !(eqI τ a b) else eqI τ a b), [], []⟩ s :=
 aY fun w im μ hp ρ h => by
  unfold stI at ht
  split at ht
  ·rename_i fs hu
   simp only [bg, Bool.not_eq_true'] at ht
   obtain ⟨⟨⟨g1, g2⟩, g3⟩, g4⟩ := ht
   obtain ⟨Dh, hag1⟩ := hx ▸ h x (by cases ng <;> simp [Op.operands])
   obtain ⟨hr2, hag2⟩ := hy ▸ h y (by cases ng <;> simp [Op.operands])
   simp only [RepA] at Dh hr2
   have hf : P.fieldsOf xt = fs := by unfold Program.fieldsOf; rw [hu]
   obtain ⟨xs, e1⟩ : ∃ xs, ρ x = .agg xs := by
    generalize ρ x = v at hag1
    cases v <;> simp_all [bh, AV.isAgg]
   obtain ⟨ys, e2⟩ : ∃ ys, ρ y = .agg ys := by
    generalize ρ y = v at hag2
    cases v <;> simp_all [bh, AV.isAgg]
   rw [e1] at Dh; rw [e2] at hr2
   have hrun := oZ (P := P) (xs := xs) (ys := ys) fs.toList τ 0 _ _ a b g1 Dh hr2 rfl rfl
   have heq : (Op.equalIn 10000 xt (.agg xs) (.agg ys)).run P w = .ok (eqI τ a b) w := by
    rw [run_equalIn_struct w 9999 xt xs ys (by rw [hf]; exact hu) g2, hf]
    exact hrun
   have hg := fun op => run_eqGuard_agg (P := P) w op xt x y xs ys g3
   cases ng with
   | false =>
    refine ⟨.bool (eqI τ a b), ?_, aN _ _ _ _ (.bool _)⟩
    have := run_eql_struct (P := P) w xt xs ys
    rw [heq] at this
    simp only [Result.andThen_ok] at this
    simp only [ax, execOp, e1, e2]
    simp [hg, this]
   | true =>
    refine ⟨.bool (!(eqI τ a b)), ?_, aN _ _ _ _ (.bool _)⟩
    have := run_neq_struct (P := P) w xt xs ys
    rw [heq] at this
    simp only [Result.andThen_ok] at this
    simp only [ak, execOp, e1, e2]
    simp [hg, this]
  ·cases ht
def HY (E : Env) (fE : BinOp) (xt : TypeId) (τ : Ty) (a : τ.den) (v : AV) (s : LSt) (k : E1 -> Option R) : Option R :=
 match v.asD τ with
 | some b => bif stI E.P xt τ then (match fE with | .eql => k (s.pv (.d .bool (eqI τ a b))) | .neq => k (s.pv (.d .bool (!(eqI τ a b)))) | _ => none) else none
 | none => none
theorem Qh {E : Env} {C : Ctx} {s : LSt} {k : E1 -> Option R} {r : R} {dst : Option Tmp} {ty : TypeId} {pos : String} {cc : Array Edge} {gd : Option (Nat × Bool)} (bG : C.Γ = E.gam) {fE : BinOp} {xt yt : TypeId} {x y : Operand} {τ : Ty} {a : τ.den} (hx : s.ev E x = .d τ a) (h : HY E fE xt τ a (s.ev E y) s k = some r) : dV E C ⟨dst, .binOp fE xt x y yt, ty, pos, cc, gd⟩ s k r := by
 unfold HY at h
 have ex := bN bG s x
 have ey := bN bG s y
 rw [hx] at ex
 split at h
 ·rename_i b hb
  rw [AV.asD_some hb] at ey
  cases ht : stI E.P xt τ with
  | false => rw [ht] at h; cases h
  | true =>
   rw [ht] at h
   simp only [ak] at h
   split at h
   ·exact .of _ h (Fk ex ey ht false)
   ·exact .of _ h (Fk ex ey ht true)
   ·cases h
 ·cases h
def wv (E : Env) (fE : BinOp) (xt : TypeId) (a : AV) (s : LSt) (k : E1 -> Option R) : Option R :=
 match E.P.underlying xt with
 | some (.slice _) =>
  (match a with
  | .nils => (match fE with | .eql => k (s.pv (.d .bool true)) | .neq => k (s.pv (.d .bool false)) | _ => none)
  | a =>
   (match HT s.hp a none with
   | some ⟨_, _ :: _⟩ => (match fE with | .eql => k (s.pr (.d .bool false) a.objs) | .neq => k (s.pr (.d .bool true) a.objs) | _ => none)
   | _ => none))
 | _ => none
theorem Kz {E : Env} {C : Ctx} {s : LSt} {k : E1 -> Option R} {r : R} {dst : Option Tmp} {ty : TypeId} {pos : String} {cc : Array Edge} {gd : Option (Nat × Bool)} (bG : C.Γ = E.gam) {fE : BinOp} {xt yt : TypeId} {x y : Operand} (hy : s.ev E y = .nils) (h : wv E fE xt (s.ev E x) s k = some r) : dV E C ⟨dst, .binOp fE xt x y yt, ty, pos, cc, gd⟩ s k r := by
 unfold wv at h
 have ex := bN bG s x
 have ey := bN bG s y
 rw [hy] at ey
 split at h
 ·rename_i T hT
  split at h
  ·rename_i hx
   rw [hx] at ex
   split at h
   ·exact .of _ h (qV ex ey hT true)
   ·exact .of _ h (qV ex ey hT false)
   ·cases h
  ·split at h
   ·rename_i hs
    split at h
    ·exact .of _ h (Fj ex (m4 hs) (by simp) ey hT false)
    ·exact .of _ h (Fj ex (m4 hs) (by simp) ey hT true)
    ·cases h
   ·cases h
 ·cases h
def wx (E : Env) (fE : BinOp) (xt : TypeId) (x y : Operand) (s : LSt) (k : E1 -> Option R) : Option R :=
 match s.ev E x, s.ev E y with
 | .d (.int k1) a, .d (.int k2) b =>
  (match fE with
  | .shl => (shl k1 a b).bind fun z => k (s.pv (.d (.int k1) z))
  | .shr => (shr k1 a b).bind fun z => k (s.pv (.d (.int k1) z))
  | .quo => if k1 = k2 then (quo k1 a b).bind fun z => k (s.pv (.d (.int k1) z)) else none
  | .rem => if k1 = k2 then (rem a b).bind fun z => k (s.pv (.d (.int k1) z)) else none
  | fE => if k1 = k2 then (match DI fE k1 a b with | some v => k (s.pv v) | none => none) else none)
 | .d .bool a, .d .bool b =>
  (match fE with
  | .eql => bif HX E.P xt then k (s.pv (.d .bool (a == b))) else none
  | .neq => bif HX E.P xt then k (s.pv (.d .bool (!(a == b)))) else none
  | _ => none)
 | .d .str a, .d .str b =>
  (match fE with
  | .eql => k (s.pv (.d .bool (a == b)))
  | .neq => k (s.pv (.d .bool (!(a == b))))
  | .add => (DH a b).bind fun z => k (s.pv (.d .str z))
  | _ => none)
 | .d (.flt k1) a, .d (.flt k2) b => if k1 = k2 then (match Ky fE k1 a b with | some v => k (s.pv v) | none => none) else none
 | .iface _ (.d (.int _) _), .nilif => (match fE, y with | .neq, .const .nilIface => bif HW E.P xt then k (s.pv (.d .bool true)) else none | _, _ => none)
 | .nilif, .nilif => (match fE, y with | .neq, .const .nilIface => bif HW E.P xt then k (s.pv (.d .bool false)) else none | _, _ => none)
 | a, .nils => wv E fE xt a s k
 | .d (.pair a b) z, v => HY E fE xt (.pair a b) z v s k
 | _, _ => none
section
variable {E : Env} {C : Ctx} {s : LSt} {k : E1 -> Option R} {r : R} {dst : Option Tmp} {ty : TypeId} {pos : String} {cc : Array Edge} {gd : Option (Nat × Bool)}
theorem KA (bG : C.Γ = E.gam) {fE : BinOp} {xt yt : TypeId} {x y : Operand} (h : wx E fE xt x y s k = some r) : dV E C ⟨dst, .binOp fE xt x y yt, ty, pos, cc, gd⟩ s k r := by
 unfold wx at h
 have ex := bN bG s x
 have ey := bN bG s y
 split at h
 ·rename_i k1 a k2 b hx hy
  rw [hx] at ex; rw [hy] at ey
  split at h
  ·obtain ⟨z, hz, h⟩ := aS h
   exact .of _ h (Qd ex ey hz)
  ·obtain ⟨z, hz, h⟩ := aS h
   exact .of _ h (Qe ex ey hz)
  ·split at h
   ·rename_i he; subst he
    obtain ⟨z, hz, h⟩ := aS h
    exact .of _ h (Qb ex ey hz)
   ·cases h
  ·split at h
   ·rename_i he; subst he
    obtain ⟨z, hz, h⟩ := aS h
    exact .of _ h (Qc ex ey hz)
   ·cases h
  ·split at h
   ·rename_i he; subst he
    cases hv : DI fE k1 a b with
    | none => rw [hv] at h; cases h
    | some v =>
     rw [hv] at h
     refine .of _ h ?_
     have zD : Du (s.toA.ev C x) = some (.int k1 a) := by rw [ex]; rfl
     have rn : Du (s.toA.ev C y) = some (.int k1 b) := by rw [ey]; rfl
     cases fE <;> simp only [DI, Option.some.injEq, reduceCtorEq] at hv <;> subst hv
     ·exact hX (r := .int k1 (k1.wrap (a + b))) zD rn (by cases k1 <;> rfl) rfl
     ·exact hX (r := .int k1 (k1.wrap (a - b))) zD rn (by cases k1 <;> rfl) rfl
     ·exact hX (r := .int k1 (k1.wrap (a * b))) zD rn (by cases k1 <;> rfl) rfl
     ·exact hX (r := .int k1 (k1.wrap (BitVec.ofInt k1.bits a &&& BitVec.ofInt k1.bits b).toNat)) zD rn (by cases k1 <;> rfl) rfl
     ·exact hX (r := .int k1 (k1.wrap (BitVec.ofInt k1.bits a ||| BitVec.ofInt k1.bits b).toNat)) zD rn (by cases k1 <;> rfl) rfl
     ·exact hX (r := .int k1 (k1.wrap (BitVec.ofInt k1.bits a ^^^ BitVec.ofInt k1.bits b).toNat)) zD rn (by cases k1 <;> rfl) rfl
     ·exact hX (r := .int k1 (k1.wrap (BitVec.ofInt k1.bits a &&& ~~~ BitVec.ofInt k1.bits b).toNat)) zD rn (by cases k1 <;> rfl) rfl
     ·exact hX (r := .bool (a == b)) zD rn (by cases k1 <;> rfl) rfl
     ·exact hX (r := .bool (a != b)) zD rn (by cases k1 <;> rfl) rfl
     ·exact hX (r := .bool (decide (a < b))) zD rn (by cases k1 <;> rfl) rfl
     ·exact hX (r := .bool (decide (a <= b))) zD rn (by cases k1 <;> rfl) rfl
     ·exact hX (r := .bool (decide (a > b))) zD rn (by cases k1 <;> rfl) rfl
     ·exact hX (r := .bool (decide (a >= b))) zD rn (by cases k1 <;> rfl) rfl
   ·cases h
 ·rename_i a b hx hy
  rw [hx] at ex; rw [hy] at ey
  split at h
  ·cases hb : HX E.P xt with
   | false => rw [hb] at h; cases h
   | true => rw [hb] at h; exact .of _ h (Xx ex ey (wu hb))
  ·cases hb : HX E.P xt with
   | false => rw [hb] at h; cases h
   | true => rw [hb] at h; exact .of _ h (Xy ex ey (wu hb))
  ·cases h
 ·rename_i a b hx hy
  rw [hx] at ex; rw [hy] at ey
  split at h
  ·exact .of _ h (Kn ex ey)
  ·exact .of _ h (Ko ex ey)
  ·obtain ⟨z, hz, h⟩ := aS h
   exact .of _ h (by have := HL (P := E.P) (dst := dst) (ty := ty) (pos := pos) (cc := cc) (gd := gd) (xt := xt) (yt := yt) ex ey (qT hz).1; rw [(qT hz).2] at this; exact this)
  ·cases h
 ·rename_i k1 a k2 b hx hy
  rw [hx] at ex; rw [hy] at ey
  split at h
  ·rename_i he; subst he
   cases hv : Ky fE k1 a b with
   | none => rw [hv] at h; cases h
   | some v =>
    rw [hv] at h
    refine .of _ h ?_
    cases fE <;> first
     | (cases hv; exact Xp (by simp) ex ey)
     | (cases hv; exact P7 (by simp) ex ey rfl rfl)
     | cases hv
  ·cases h
 ·rename_i t kk n hx hy
  rw [hx] at ex; rw [hy] at ey
  split at h
  ·cases hb : HW E.P xt with
   | false => rw [hb] at h; cases h
   | true => rw [hb] at h; exact .of _ h (Qf ex (wq hb))
  ·cases h
 ·rename_i hx hy
  rw [hx] at ex; rw [hy] at ey
  split at h
  ·cases hb : HW E.P xt with
   | false => rw [hb] at h; cases h
   | true => rw [hb] at h; exact .of _ h (Am ex (wq hb))
  ·cases h
 ·rename_i hy
  exact Kz bG hy h
 ·rename_i hx _
  exact Qh bG hx h
 ·cases h
def HZ (E : Env) (uop : UnOp) (x : Operand) (s : LSt) (k : E1 -> Option R) : Option R :=
 match uop, s.ev E x with
 | .not, .d .bool b => k (s.pv (.d .bool (!b)))
 | .neg, .d (.int j) n => k (s.pv (.d (.int j) (j.wrap (0 - n))))
 | .neg, .d (.flt f) b => bif (f.format.read b).isNaN then none else k (s.pv (.d (.flt f) (aI f (Op.negFloat f b))))
 | _, _ => none
theorem Qi (bG : C.Γ = E.gam) {uop : UnOp} {xt : TypeId} {x : Operand} (h : HZ E uop x s k = some r) : dV E C ⟨dst, .unOp uop xt x, ty, pos, cc, gd⟩ s k r := by
 unfold HZ at h
 have ex := bN bG s x
 split at h
 ·rename_i b hx
  rw [hx] at ex
  exact .of _ h (V1 (u := .bool b) (by rw [ex]; rfl) rfl rfl)
 ·rename_i j n hx
  rw [hx] at ex
  exact .of _ h (V1 (u := .int j n) (by rw [ex]; rfl) rfl rfl)
 ·rename_i f b hx
  rw [hx] at ex
  cases hn : (f.format.read b).isNaN with
  | true => rw [hn] at h; cases h
  | false => rw [hn] at h; exact .of _ h (Dv ex hn)
 ·cases h
def qk (E : Env) (c x y : Operand) (s : LSt) (k : E1 -> Option R) : Option R :=
 match s.ev E c with
 | .d .bool b => bif b then k (s.pv (s.ev E x)) else k (s.pv (s.ev E y))
 | _ => none
theorem H0 (bG : C.Γ = E.gam) {c x y : Operand} (h : qk E c x y s k = some r) : dV E C ⟨dst, .pick c x y, ty, pos, cc, gd⟩ s k r := by
 unfold qk at h
 have ec := bN bG s c
 split at h
 ·rename_i b hc
  rw [hc] at ec
  cases b with
  | true => exact .of _ h (xD ec (bN bG s x))
  | false => exact .of _ h (vv ec (bN bG s y))
 ·cases h
def ql (E : Env) (st dt : TypeId) (x : Operand) (s : LSt) (k : E1 -> Option R) : Option R :=
 match s.ev E x, E.P.underlying st, E.P.underlying dt with
 | .d (.int _) n, some _, some (.int j) => k (s.pv (.d (.int j) (j.wrap n)))
 | .d (.int _) n, some _, some (.float j) => k (s.pv (.d (.flt j) (aI j (j.nearest n))))
 | .d (.flt f) b, some _, some (.float j) => bif (f.format.read b).isNaN then none else (sH f b j).bind fun z => k (s.pv (.d (.flt j) (aI j z)))
 | .d (.flt f) b, some _, some (.int j) => bif (f.format.read b).isNaN then none else (sI f b j).bind fun z => k (s.pv (.d (.int j) z))
 | _, _, _ => none
theorem H2 (bG : C.Γ = E.gam) {st dt : TypeId} {x : Operand} (h : ql E st dt x s k = some r) : dV E C ⟨dst, .convert st dt x, ty, pos, cc, gd⟩ s k r := by
 unfold ql at h
 have ex := bN bG s x
 split at h
 ·rename_i k1 n d1 j hx h1 h2
  rw [hx] at ex
  exact .of _ h (zY ex h1 h2)
 ·rename_i k1 n d1 j hx h1 h2
  rw [hx] at ex
  exact .of _ h (sG ex h1 h2)
 ·rename_i f b d1 j hx h1 h2
  rw [hx] at ex
  cases hn : (f.format.read b).isNaN with
  | true => rw [hn] at h; cases h
  | false =>
   rw [hn] at h
   cases hz : sH f b j with
   | none => rw [hz] at h; cases h
   | some z => rw [hz] at h; exact .of _ h (sJ ex h1 h2 hn hz)
 ·rename_i f b d1 j hx h1 h2
  rw [hx] at ex
  cases hn : (f.format.read b).isNaN with
  | true => rw [hn] at h; cases h
  | false =>
   rw [hn] at h
   cases hz : sI f b j with
   | none => rw [hz] at h; cases h
   | some z => rw [hz] at h; exact .of _ h (sK ex h1 h2 hn hz)
 ·cases h
def lY (hp : LHp) (o : Nat) (x : Option R) : Option R := match az hp o with | none => x | some _ => none
theorem hZ {hp : LHp} {o : Nat} {x : Option R} (h : lY hp o x = some r) : az hp o = none /\ x = some r := by
 unfold lY at h
 split at h
 ·rename_i h0; exact ⟨h0, h⟩
 ·cases h
def wy (E : Env) (x : Operand) (s : LSt) (k : E1 -> Option R) : Option R :=
 bif (s.ev E x).plain then lY s.hp s.nx (k ⟨.op s.nx [] 0, [], [(s.nx, .box (s.ev E x))], s.nx + 1⟩) else none
theorem KB (bG : C.Γ = E.gam) {d : Nat} {t : TypeId} {x : Operand} (h : wy E x s k = some r) : dV E C ⟨some d, .box t x, ty, pos, cc, gd⟩ s k r := by
 unfold wy at h
 cases hp : (s.ev E x).plain with
 | false => rw [hp] at h; cases h
 | true =>
  rw [hp] at h
  obtain ⟨h0, h⟩ := hZ h
  exact .of _ h (Xq (bN bG s x) hp h0)
def DK (E : Env) (t : TypeId) : Option AV :=
 match lk E.ty t with
 | some τ => some (oY τ)
 | none => (match E.P.info? t with
  | some i => (match i.zero with | some z => (match z with | .nilFunc => some .nilfn | .nilIface => some .nilif | .pointer none => some .nilp | _ => none) | none => none)
  | none => none)
theorem DL (hE : E.OK) {t : TypeId} {a : AV} (h : DK E t = some a) (w : World) (im : Nat -> Prop) (μ : Mu) (hp : Hp) : ∃ z : Value, (zeroValue t).run E.P w = .ok z w /\ RepA w im μ hp a z.cells.toList := by
 unfold DK at h
 split at h
 ·rename_i τ hτ
  cases h
  obtain ⟨i, z, h1, h2, h3, h4, h5⟩ := (hE.ty _ (fy hτ)).info
  obtain ⟨z', hr, hc⟩ := sQ (P := E.P) (t := t) (ty := τ) ⟨i, z, h1, h4, h5⟩ w
  exact ⟨z', hr, by rw [hc]; exact wm w im μ hp τ⟩
 ·split at h
  ·rename_i i hi
   split at h
   ·rename_i z hz
    have hr : (zeroValue t).run E.P w = .ok z w := by simp [zeroValue, typeInfo, hi, hz]
    split at h
    ·cases h; exact ⟨_, hr, by simp [RepA, Value.cells]⟩
    ·cases h; exact ⟨_, hr, by simp [RepA, Value.cells]⟩
    ·cases h; exact ⟨_, hr, by simp [RepA, Value.cells]⟩
    ·cases h
   ·cases h
  ·cases h
def m7 (E : Env) (t : TypeId) (s : LSt) (k : E1 -> Option R) : Option R :=
 match DK E t with
 | some a => lY s.hp s.nx (k ⟨.op s.nx [] 0, [], [(s.nx, .box a)], s.nx + 1⟩)
 | none => none
theorem DM (hE : E.OK) {d : Nat} {t : TypeId} (h : m7 E t s k = some r) : dV E C ⟨some d, .alloc t, ty, pos, cc, gd⟩ s k r := by
 unfold m7 at h
 split at h
 ·rename_i a ha
  obtain ⟨h0, h⟩ := hZ h
  refine .of _ h ?_
  intro s1 fX gm im μ act w hi hd
  have E8 : s1.hp s.nx = none := (gm s.nx (.inr (by simp [E1.eff]))).trans h0
  obtain ⟨z, hrun, hc⟩ := DL hE ha w im μ s1.hp
  refine ⟨_, _, im, _, .inl ?_, hi.newBox (c := a) (cells := z.cells) (T := t) (hd d rfl) E8 hc⟩
  simp only [execOp, Instr.alloc, Sem.run_bind, hrun, sP, Result.andThen_ok]
  rfl
 ·cases h
def qm (E : Env) (t : TypeId) (x : Operand) (s : LSt) (k : E1 -> Option R) : Option R :=
 match s.ev E x with
 | .ip τ y => bif th E.P t τ.size τ.isAgg then k (s.pv (.d τ y)) else none
 | .op o p off =>
  (match az s.hp o with
  | some (.box v) => dg v p (fun off' u => bif Nat.beq off' off && th E.P t u.asize u.isAgg then k (s.pr u [o]) else none)
  | _ => none)
 | .oe o m i =>
  (match az s.hp o with
  | some (.arr _ e m' _ xs) => bif Nat.beq m m' && th E.P t e.size e.isAgg then (xs[i]?).bind fun z => k (s.pr (.d e z) [o]) else none
  | _ => none)
 | _ => none
theorem H3 (bG : C.Γ = E.gam) {t : TypeId} {x : Operand} (h : qm E t x s k = some r) : dV E C ⟨dst, .load t x, ty, pos, cc, gd⟩ s k r := by
 unfold qm at h
 have ex := bN bG s x
 split at h
 ·rename_i τ y hx
  rw [hx] at ex
  cases hb : th E.P t τ.size τ.isAgg with
  | false => rw [hb] at h; cases h
  | true => rw [hb] at h; exact .of _ h (Dz ex (kS hb))
 ·rename_i o p off hx
  rw [hx] at ex
  split at h
  ·rename_i v ho
   obtain ⟨off', u, h1, h2⟩ := kR v p _ r h
   cases hb : Nat.beq off' off && th E.P t u.asize u.isAgg with
   | false => rw [hb] at h2; cases h2
   | true =>
    rw [hb] at h2
    simp only [bg] at hb
    exact .of _ h2 (DA ex ho h1 (bo hb.1) (kS hb.2))
  ·cases h
 ·rename_i o m i hx
  rw [hx] at ex
  split at h
  ·rename_i T e m' z xs ho
   cases hb : Nat.beq m m' && th E.P t e.size e.isAgg with
   | false => rw [hb] at h; cases h
   | true =>
    rw [hb] at h
    simp only [bg] at hb
    have hm := bo hb.1
    subst hm
    obtain ⟨y, hy, h⟩ := aS h
    exact .of _ h (DE ex ho hy (kS hb.2))
  ·cases h
 ·cases h
def Fl (hp : LHp) (o : Nat) : LHp :=
 match az hp o with
 | some (.arr T e m false xs) => [(o, .arr T e m true xs)]
 | _ => []
def bZ (hp : LHp) : List Nat -> LHp
 | [] => []
 | o :: l => let w := bZ hp l; Fl (w ++ hp) o ++ w
theorem Ar {s : ASt} {hp : LHp} (hs : s.hp = az hp) : ∀ l : List Nat, Le C s ⟨s.fr, aG s.hp (bZ hp l)⟩
 | [] => by
  have : aG s.hp (bZ hp []) = s.hp := by funext o; simp [bZ, aG]
  rw [this]; exact Le.refl _ _
 | o :: l => by
  refine (Ar hs l).trans ?_
  simp only [bZ, Fl]
  have hh : az (bZ hp l ++ hp) = aG s.hp (bZ hp l) := by rw [bj, hs]
  split
  ·rename_i T e m xs h
   rw [hh] at h
   have := wh (C := C) (s := ⟨s.fr, aG s.hp (bZ hp l)⟩) h
   refine this.trans ?_
   have he : aG (aG s.hp (bZ hp l)) [(o, .arr T e m true xs)] = aG s.hp ([(o, .arr T e m true xs)] ++ bZ hp l) := by
    rw [hs, ← bj, ← bj, ← bj, List.append_assoc]
   rw [he]; exact Le.refl _ _
  ·simp only [List.nil_append]; exact Le.refl _ _
theorem o4 (hp : Hp) (a b : LHp) : aG hp (a ++ b) = aG (aG hp b) a := by
 funext o
 unfold aG
 rw [List.find?_append]
 cases a.find? (fun p => Nat.beq p.1 o) <;> simp
theorem OpW.frozen {P : Program} {o : Oper} {e : E1} {dst : Option Nat} {s : LSt} (l : List Nat) (h : OpW P C o (e.eff dst) ⟨s.fr.get, aG (az s.hp) (bZ s.hp l)⟩) :
  OpW P C o ((E1.mk e.av e.rd (e.wr ++ bZ s.hp l) e.nx).eff dst) s.toA := by
 intro s1 fX gm a w hr hd K Q hK
 have hkeys : ∀ k, (k ∈ e.rd \/ k ∈ (e.wr ++ bZ s.hp l).map (·.1)) -> s1.hp k = az s.hp k := gm
 have hle : Le C s1 ⟨s1.fr, aG s1.hp (bZ s.hp l)⟩ := by
  have key : ∀ l' : List Nat, (∀ k, k ∈ (bZ s.hp l').map (·.1) -> s1.hp k = az s.hp k) -> Le C s1 ⟨s1.fr, aG s1.hp (bZ s.hp l')⟩ := by
   intro l'
   induction l' with
   | nil =>
    intro _
    have : aG s1.hp (bZ s.hp []) = s1.hp := by funext o; simp [bZ, aG]
    rw [this]; exact Le.refl _ _
   | cons o l' ih =>
    intro hk
    have hsub : ∀ k, k ∈ (bZ s.hp l').map (·.1) -> k ∈ (bZ s.hp (o :: l')).map (·.1) := fun k hk => by simp only [bZ, List.map_append, List.mem_append]; exact .inr hk
    refine (ih (fun k h => hk k (hsub k h))).trans ?_
    simp only [bZ, Fl]
    split
    ·rename_i T e m xs h
     have ho : aG s1.hp (bZ s.hp l') o = some (.arr T e m false xs) := by
      have h' := h
      rw [bj] at h'
      by_cases hm : o ∈ (bZ s.hp l').map (·.1)
      ·rw [fY (bq := az s.hp) hm]; exact h'
      ·rw [dX hm] at h' ⊢
       rw [hk o (by simp only [bZ, Fl, h, List.map_append, List.mem_append]; exact .inl (by simp))]
       exact h'
     have := wh (C := C) (s := ⟨s1.fr, aG s1.hp (bZ s.hp l')⟩) ho
     refine this.trans ?_
     have he : aG (aG s1.hp (bZ s.hp l')) [(o, .arr T e m true xs)] = aG s1.hp ([(o, .arr T e m true xs)] ++ bZ s.hp l') := by rw [o4]
     rw [he]; exact Le.refl _ _
    ·simp only [List.nil_append]; exact Le.refl _ _
  exact key l (fun k h => hkeys k (.inr (by simp only [List.map_append, List.mem_append]; exact .inr h)))
 refine h ⟨s1.fr, aG s1.hp (bZ s.hp l)⟩ fX ?_ a w (hle a w hr) hd K Q ?_
 ·intro k hk
  show aG s1.hp (bZ s.hp l) k = aG (az s.hp) (bZ s.hp l) k
  by_cases hm : k ∈ (bZ s.hp l).map (·.1)
  ·exact fY hm
  ·rw [dX hm, dX hm]
   rcases hk with hk | hk
   ·exact hkeys k (.inl hk)
   ·exact hkeys k (.inr (by simp only [List.map_append, List.mem_append]; exact .inl hk))
 ·intro a' w' j7
  refine hK a' w' ?_
  have : (Eff.app (e.eff dst) ⟨s1.fr, aG s1.hp (bZ s.hp l)⟩) = Eff.app ((E1.mk e.av e.rd (e.wr ++ bZ s.hp l) e.nx).eff dst) s1 := by
   simp only [Eff.app, E1.eff, o4]
   congr 1
   cases dst <;> rfl
  rw [← this]; exact j7
end
end Go.Vm
