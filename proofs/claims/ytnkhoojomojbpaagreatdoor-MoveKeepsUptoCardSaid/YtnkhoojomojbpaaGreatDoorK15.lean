/- Part N of the abstract machine: the executor's single operations, and that they are right. -/
import Derived.Test.YtnkhoojomojbpaaGreatDoorK14
import Derived.Laws.StructEq
namespace Go.Vm
universe u
variable {R : Type}
structure FnE where
 run : {R : Type} -> List AV -> LHp -> (aq -> LHp -> Option R) -> Option R
structure kU where
 run : {R : Type} -> List AV -> (AV -> Option R) -> Option R
structure dV where
 run : {R : Type} -> Nat -> List AV -> LHp -> (Bool -> LHp -> Option R) -> Option R
structure Env where
 P : Program
 Γ : List (Nat × AV)
 ty : List (Nat × Ty)
 calls : List (Nat × FnE)
 exts : List (Nat × kU)
 round : Option dV := none
def lk {α : Type u} : List (Nat × α) -> Nat -> Option α
 | [], _ => none
 | (a, b) :: r, o => bif Nat.beq a o then some b else lk r o
theorem fh {α : Type u} : ∀ {l : List (Nat × α)} {o : Nat} {b : α}, lk l o = some b -> (o, b) ∈ l
 | [], _, _, h => by cases h
 | (a, c) :: r, o, b, h => by
  simp only [lk] at h
  cases hb : Nat.beq a o with
  | true => rw [hb] at h; cases h; rw [bj hb]; simp
  | false => rw [hb] at h; simp [fh h]
def Env.gam (E : Env) : Nat -> Option AV := lk E.Γ
def LSt.ev (E : Env) (s : LSt) : Operand -> AV
 | .tmp t => s.fr.get t
 | .const v => iR v
 | .global g => (match lk E.Γ g with | some v => v | none => .undef)
 | .func f => .fn (.func f) [] []
structure dG (P : Program) (t : TypeId) (τ : Ty) : Prop where
 info : ∃ i z, P.info? t = some i /\ i.size = τ.size /\ i.bytes <= 4096 /\ i.zero = some z /\ z.cells.toList = fe τ
 und : ∃ d, P.underlying t = some d /\ Df d = τ.isAgg
structure Env.OK (E : Env) : Prop where
 ty : ∀ p ∈ E.ty, dG E.P p.1 p.2
def Kr (P : Program) (t : TypeId) : Option (Nat × Bool) :=
 match P.info? t with
 | some i => (match P.underlying t with | some d => some (i.size, Df d) | none => none)
 | none => none
theorem sh {P : Program} {t : TypeId} {n : Nat} {b : Bool} (h : Kr P t = some (n, b)) : TyS P t n b := by
 unfold Kr at h
 split at h
 ·rename_i i hi
  split at h
  ·rename_i d hd
   cases h
   exact ⟨⟨i, hi, rfl⟩, ⟨d, hd, rfl⟩⟩
  ·cases h
 ·cases h
def si (P : Program) (t : TypeId) (n : Nat) (b : Bool) : Bool :=
 match Kr P t with | some (m, c) => Nat.beq m n && (bif c then b else !b) | none => false
theorem kj {P : Program} {t : TypeId} {n : Nat} {b : Bool} (h : si P t n b = true) : TyS P t n b := by
 unfold si at h
 split at h
 ·rename_i m c hc
  simp only [ba] at h
  grind [bj, sh]
 ·cases h
def tyN (P : Program) (t : TypeId) (n : Nat) : Bool := match Kr P t with | some (m, _) => Nat.beq m n | none => false
theorem z6 {P : Program} {t : TypeId} {n : Nat} (h : tyN P t n = true) : ∃ b, TyS P t n b := by
 unfold tyN at h
 split at h
 ·rename_i m c hc; rw [← bj h]; exact ⟨c, sh hc⟩
 ·cases h
def gh (P : Program) (t : TypeId) (n : Nat) : Bool :=
 match P.underlying t with
 | some (.slice e) => (match P.info? e with | some i => Nat.beq i.size n | none => false)
 | _ => false
theorem cQ {P : Program} {t : TypeId} {n : Nat} (h : gh P t n = true) : SlT P t n := by
 unfold gh at h
 split at h
 ·rename_i e he
  split at h
  ·rename_i i hi; exact ⟨e, i, he, hi, bj h⟩
  ·cases h
 ·cases h
def HK (P : Program) (t : TypeId) (m n : Nat) : Bool :=
 match P.underlying t with
 | some (.array l e) => Nat.beq l m && (match P.info? e with | some i => Nat.beq i.size n | none => false)
 | _ => false
theorem vy {P : Program} {t : TypeId} {m n : Nat} (h : HK P t m n = true) : ArT P t m n := by
 unfold HK at h
 split at h
 ·rename_i l e he
  simp only [ba] at h
  obtain ⟨h1, h2⟩ := h
  split at h2
  ·rename_i i hi; rw [← bj h1]; exact ⟨e, i, he, hi, bj h2⟩
  ·cases h2
 ·cases h
def HL (E : Env) (t : TypeId) : Option (TypeId × Ty) :=
 match E.P.underlying t with
 | some (.slice T) => (match lk E.ty T with | some e => bif Nat.blt 0 e.size then some (T, e) else none | none => none)
 | _ => none
theorem js {E : Env} (hE : E.OK) {t T : TypeId} {e : Ty} (h : HL E t = some (T, e)) : ElT E.P t T e := by
 unfold HL at h
 split at h
 ·rename_i T' hT
  split at h
  ·rename_i e' he
   cases hb : Nat.blt 0 e'.size with
   | false => rw [hb] at h; cases h
   | true =>
    rw [hb] at h
    cases h
    obtain ⟨i, z, h1, h2, h3, h4, h5⟩ := (hE.ty _ (fh he)).info
    exact ⟨hT, ⟨i, z, h1, h2, h3, h4, h5⟩, Nat.le_of_ble_eq_true hb⟩
  ·cases h
 ·cases h
theorem bC {E : Env} {C : Ctx} (bt : C.Γ = E.gam) (s : LSt) (x : Operand) : s.toA.ev C x = s.ev E x := by
 cases x with
 | tmp t => rfl
 | const v => rfl
 | global g =>
  simp only [ASt.ev, LSt.ev, bt, Env.gam]
  grind
 | func f => rfl
def E1.eff (e : E1) (dst : Option Nat) : Eff := ⟨dst, e.av, e.rd, e.wr⟩
def LSt.pv (s : LSt) (a : AV) : E1 := ⟨a, [], [], s.nx⟩
def LSt.pr (s : LSt) (a : AV) (rd : List Nat) : E1 := ⟨a, rd, [], s.nx⟩
def dD (E : Env) (C : Ctx) (o : Oper) (s : LSt) (k : E1 -> Option R) (r : R) : Prop := ∃ e : E1, k e = some r /\ OpW E.P C o (e.eff o.dst) s.toA
theorem dD.of {E : Env} {C : Ctx} {o : Oper} {s : LSt} {k : E1 -> Option R} {r : R} (e : E1) (hk : k e = some r) (h : bB E.P C o (e.eff o.dst) s.toA) : dD E C o s k r := ⟨e, hk, h.w⟩
def Du (fm : BinOp) (k : IntKind) (a b : Int) : Option AV :=
 match fm with
 | .add => some (.d (.int k) (k.wrap (a + b)))
 | .sub => some (.d (.int k) (k.wrap (a - b)))
 | .mul => some (.d (.int k) (k.wrap (a * b)))
 | .and => some (.d (.int k) (k.wrap (BitVec.ofInt k.bits a &&& BitVec.ofInt k.bits b).toNat))
 | .or => some (.d (.int k) (k.wrap (BitVec.ofInt k.bits a ||| BitVec.ofInt k.bits b).toNat))
 | .xor => some (.d (.int k) (k.wrap (BitVec.ofInt k.bits a ^^^ BitVec.ofInt k.bits b).toNat))
 | .andNot => some (.d (.int k) (k.wrap (BitVec.ofInt k.bits a &&& ~~~ BitVec.ofInt k.bits b).toNat))
 | .eql => some (.d .bool (a == b))
 | .neq => some (.d .bool (a != b))
 | .lss => some (.d .bool (decide (a < b)))
 | .leq => some (.d .bool (decide (a <= b)))
 | .gtr => some (.d .bool (decide (a > b)))
 | .geq => some (.d .bool (decide (a >= b)))
 | _ => none
def Ks (fm : BinOp) (k : FloatKind) (a b : Nat) : Option AV :=
 match fm with
 | .add => some (.d (.flt k) (fop .add k a b))
 | .sub => some (.d (.flt k) (fop .sub k a b))
 | .mul => some (.d (.flt k) (fop .mul k a b))
 | .quo => some (.d (.flt k) (fop .quo k a b))
 | .eql => some (.d .bool (k.format.order a b == some .eq))
 | .neq => some (.d .bool (k.format.order a b != some .eq))
 | .lss => some (.d .bool (k.format.order a b == some .lt))
 | .leq => some (.d .bool (k.format.order a b == some .lt || k.format.order a b == some .eq))
 | .gtr => some (.d .bool (k.format.order a b == some .gt))
 | .geq => some (.d .bool (k.format.order a b == some .gt || k.format.order a b == some .eq))
 | _ => none
def HM (P : Program) (t : TypeId) : Bool := match P.underlying t with | some (.interface _) => true | _ => false
theorem vz {P : Program} {t : TypeId} (h : HM P t = true) : ∃ m, P.underlying t = some (.interface m) := by
 grind [HM]
def HN (P : Program) (t : TypeId) : Bool := match P.underlying t with | some .bool => true | _ => false
theorem vA {P : Program} {t : TypeId} (h : HN P t = true) : P.underlying t = some .bool := by
 grind [HN]
section
variable {P : Program} {C : Ctx} {s : ASt} {dst : Option Tmp} {ty : TypeId} {pos : String} {bT : Array Edge} {gd : Option (Nat × Bool)}
theorem sj {xt : TypeId} (ht : P.underlying xt = some .bool) (a b : Bool) (w : World) : (Op.equal xt (.bool a) (.bool b)).run P w = .ok (a == b) w := by
 show (Op.equalIn (9999 + 1) xt _ _).run P w = _
 rw [Op.equalIn.eq_2]
 simp only [Sem.run_bind, run_underlying ht, Result.andThen_ok]
 rfl
theorem XB {xt yt : TypeId} {x y : Operand} {a b : Bool} (hx : s.ev C x = .d .bool a) (hy : s.ev C y = .d .bool b) (ht : P.underlying xt = some .bool) :
  bB P C ⟨dst, .binOp .eql xt x y yt, ty, pos, bT, gd⟩ ⟨dst, .d .bool (a == b), [], []⟩ s :=
 aW fun w im μ hp ρ h => by
  have e1 := bu (u := .bool a) (by rw [hx]; rfl) (h x (by simp [Op.operands]))
  have e2 := bu (u := .bool b) (by rw [hy]; rfl) (h y (by simp [Op.operands]))
  have hb : binOp .eql xt (.bool a) (.bool b) = (do pure (.bool (← Op.equal xt (.bool a) (.bool b)))) := rfl
  have hg : eqGuard .eql xt x y (.bool a) (.bool b) = pure () := by simp [eqGuard]
  refine ⟨.bool (a == b), ?_, aP _ _ _ _ (.bool (a == b))⟩
  simp only [execOp, e1, e2, hg, hb]
  simp [sj ht]
theorem XC {xt yt : TypeId} {x y : Operand} {a b : Bool} (hx : s.ev C x = .d .bool a) (hy : s.ev C y = .d .bool b) (ht : P.underlying xt = some .bool) :
  bB P C ⟨dst, .binOp .neq xt x y yt, ty, pos, bT, gd⟩ ⟨dst, .d .bool (!(a == b)), [], []⟩ s :=
 aW fun w im μ hp ρ h => by
  have e1 := bu (u := .bool a) (by rw [hx]; rfl) (h x (by simp [Op.operands]))
  have e2 := bu (u := .bool b) (by rw [hy]; rfl) (h y (by simp [Op.operands]))
  have hb : binOp .neq xt (.bool a) (.bool b) = (do pure (.bool (!(← Op.equal xt (.bool a) (.bool b))))) := rfl
  have hg : eqGuard .neq xt x y (.bool a) (.bool b) = pure () := by simp [eqGuard]
  refine ⟨.bool (!(a == b)), ?_, aP _ _ _ _ (.bool (!(a == b)))⟩
  simp only [execOp, e1, e2, hg, hb]
  simp [sj ht]
end
theorem E9 {P : Program} {C : Ctx} {s : ASt} {dst : Option Tmp} {ty : TypeId} {pos : String} {bT : Array Edge} {gd : Option (Nat × Bool)} {x y : Operand} {xt yt T : TypeId} {e : Ty} {xs : List e.den} {av : AV} (hx : s.ev C x = av) (hs : Src s.hp av e xs) (j2 : xs ≠ []) (hy : s.ev C y = .nils) (ht : P.underlying xt = some (.slice T)) (b : Bool) :
  bB P C ⟨dst, .binOp (bif b then .neq else .eql) xt x y yt, ty, pos, bT, gd⟩ ⟨dst, .d .bool b, av.objs, []⟩ s :=
 df av.objs fun w im μ hp ρ h hk dK => by
  obtain ⟨ad, cap, hv, hcap, hsr⟩ := (hs.hp hk).sound (hx ▸ h x (by cases b <;> simp [Op.operands])) dK
  obtain ⟨hr, cy⟩ := hy ▸ h y (by cases b <;> simp [Op.operands])
  simp only [RepA] at hr
  have e2 := aL hr cy
  obtain ⟨bb, off, cs, rfl, _⟩ := hsr.resolve_left j2
  have he : (Op.equal xt (.slice (some ⟨bb, off, none⟩) xs.length cap) (.slice none 0 0)).run P w = .ok false w := by
   show (Op.equalIn (9999 + 1) xt _ _).run P w = _
   rw [Op.equalIn.eq_2]
   simp only [Sem.run_bind, run_underlying ht, Result.andThen_ok]
   rfl
  cases b with
  | false =>
   have hb : binOp .eql xt (.slice (some ⟨bb, off, none⟩) xs.length cap) (.slice none 0 0) = (do pure (.bool (← Op.equal xt (.slice (some ⟨bb, off, none⟩) xs.length cap) (.slice none 0 0)))) := rfl
   have hg : eqGuard .eql xt x y (.slice (some ⟨bb, off, none⟩) xs.length cap) (.slice none 0 0) = pure () := rfl
   refine ⟨.bool false, w, ?_, rfl, rfl, rfl, rfl, aP _ _ _ _ (.bool false)⟩
   simp only [ax, execOp, hv, e2, hg, hb]
   simp [he]
  | true =>
   have hb : binOp .neq xt (.slice (some ⟨bb, off, none⟩) xs.length cap) (.slice none 0 0) = (do pure (.bool (!(← Op.equal xt (.slice (some ⟨bb, off, none⟩) xs.length cap) (.slice none 0 0))))) := rfl
   have hg : eqGuard .neq xt x y (.slice (some ⟨bb, off, none⟩) xs.length cap) (.slice none 0 0) = pure () := rfl
   refine ⟨.bool true, w, ?_, rfl, rfl, rfl, rfl, aP _ _ _ _ (.bool true)⟩
   simp only [ai, execOp, hv, e2, hg, hb]
   simp [he]
theorem qm {P : Program} {C : Ctx} {s : ASt} {dst : Option Tmp} {ty : TypeId} {pos : String} {bT : Array Edge} {gd : Option (Nat × Bool)} {x y : Operand} {xt yt T : TypeId} (hx : s.ev C x = .nils) (hy : s.ev C y = .nils) (ht : P.underlying xt = some (.slice T)) (b : Bool) :
  bB P C ⟨dst, .binOp (bif b then .eql else .neq) xt x y yt, ty, pos, bT, gd⟩ ⟨dst, .d .bool b, [], []⟩ s :=
 aW fun w im μ hp ρ h => by
  obtain ⟨C2, hag1⟩ := hx ▸ h x (by cases b <;> simp [Op.operands])
  obtain ⟨hr, cy⟩ := hy ▸ h y (by cases b <;> simp [Op.operands])
  simp only [RepA] at hr C2
  have e1 := aL C2 hag1
  have e2 := aL hr cy
  have he : (Op.equal xt (.slice none 0 0) (.slice none 0 0)).run P w = .ok true w := by
   show (Op.equalIn (9999 + 1) xt _ _).run P w = _
   rw [Op.equalIn.eq_2]
   simp only [Sem.run_bind, run_underlying ht, Result.andThen_ok]
   rfl
  cases b with
  | true =>
   have hb : binOp .eql xt (.slice none 0 0) (.slice none 0 0) = (do pure (.bool (← Op.equal xt (.slice none 0 0) (.slice none 0 0)))) := rfl
   have hg : eqGuard .eql xt x y (.slice none 0 0) (.slice none 0 0) = pure () := rfl
   refine ⟨.bool true, ?_, aP _ _ _ _ (.bool true)⟩
   simp only [ai, execOp, e1, e2, hg, hb]
   simp [he]
  | false =>
   have hb : binOp .neq xt (.slice none 0 0) (.slice none 0 0) = (do pure (.bool (!(← Op.equal xt (.slice none 0 0) (.slice none 0 0))))) := rfl
   have hg : eqGuard .neq xt x y (.slice none 0 0) (.slice none 0 0) = pure () := rfl
   refine ⟨.bool false, ?_, aP _ _ _ _ (.bool false)⟩
   simp only [ax, execOp, e1, e2, hg, hb]
   simp [he]
def eqI : (τ : Ty) -> τ.den -> τ.den -> Bool
 | .int _, x, y => decide ((x : Int) = y)
 | .pair a b, x, y => eqI a x.1 y.1 && eqI b x.2 y.2
 | _, _, _ => true
def Dv (P : Program) : List Field -> Ty -> Nat -> Bool
 | [], .unit, _ => true
 | f :: fs, .pair (.int _) b, off => decide (f.name ≠ "_") && Nat.beq f.offset off && (match P.underlying f.type with | some (.int _) => true | _ => false) && Dv P fs b (off + 1)
 | _, _, _ => false
theorem n9 {P : Program} {w : World} {im : Nat -> Prop} {xs ys : Array Value} : ∀ (fs : List Field) (τ : Ty) (off : Nat) (cs ds : List Value) (x y : τ.den), Dv P fs τ off = true -> aM w im τ cs x -> aM w im τ ds y -> xs.toList.drop off = cs -> ys.toList.drop off = ds ->
  (Op.eqFields 9999 xs ys fs).run P w = .ok (eqI τ x y) w
 | [], τ, off, cs, ds, x, y, h, h1, h2, h3, h4 => by
  cases τ <;> simp [Dv] at h
  rfl
 | f :: fs, τ, off, cs, ds, x, y, h, h1, h2, h3, h4 => by
  cases τ with
  | pair a b =>
   cases a with
   | int k =>
    simp only [Dv, ba, decide_eq_true_eq] at h
    obtain ⟨⟨⟨g1, g2⟩, g3⟩, g4⟩ := h
    have hof := bj g2
    obtain ⟨c1, c2, rfl, rfl, J0⟩ := h1
    obtain ⟨d1, d2, rfl, rfl, ll⟩ := h2
    have hx : xs[off]? = some (.int k x.1) := by
     have := congrArg (fun l => l[0]?) h3
     simpa using this
    have hy : ys[off]? = some (.int k y.1) := by
     have := congrArg (fun l => l[0]?) h4
     simpa using this
    have hx2 : xs.toList.drop (off + 1) = c2 := by rw [← List.drop_drop, h3]; rfl
    have hy2 : ys.toList.drop (off + 1) = d2 := by rw [← List.drop_drop, h4]; rfl
    split at g3
    ·rename_i k' P2
     have cy : (isAgg f.type).run P w = .ok false w := by simp [isAgg, run_underlying P2]
     have iQ : (part f.type xs f.offset).run P w = .ok (.int k x.1) w := by simp [part, cy, hof, hx]
     have hp2 : (part f.type ys f.offset).run P w = .ok (.int k y.1) w := by simp [part, cy, hof, hy]
     have he := run_equalIn_int (P := P) w 9998 f.type k k' x.1 y.1 P2
     have ih := n9 fs b (off + 1) c2 d2 x.2 y.2 g4 J0 ll hx2 hy2
     simp only [Op.eqFields, if_pos g1, Sem.run_bind, iQ, hp2, Result.andThen_ok, he, eqI]
     by_cases hxy : x.1 = y.1
     all_goals simp_all
    ·cases g3
   | _ => simp [Dv] at h
  | _ => simp [Dv] at h
def stI (P : Program) (t : TypeId) (τ : Ty) : Bool :=
 match P.underlying t with
 | some (.struct fs) => Dv P fs.toList τ 0 && !(P.stoodInHeld t) && !(P.eqGuardType P.depth t) && τ.isAgg
 | _ => false
theorem Fa {P : Program} {C : Ctx} {s : ASt} {dst : Option Tmp} {ty : TypeId} {pos : String} {bT : Array Edge} {gd : Option (Nat × Bool)} {x y : Operand} {xt yt : TypeId} {τ : Ty} {a b : τ.den} (hx : s.ev C x = .d τ a) (hy : s.ev C y = .d τ b) (ht : stI P xt τ = true) (ng : Bool) :
  bB P C ⟨dst, .binOp (bif ng then .neq else .eql) xt x y yt, ty, pos, bT, gd⟩ ⟨dst, .d .bool (bif ng then !(eqI τ a b) else eqI τ a b), [], []⟩ s :=
 aW fun w im μ hp ρ h => by
  unfold stI at ht
  split at ht
  ·rename_i fs hu
   simp only [ba, Bool.not_eq_true'] at ht
   obtain ⟨⟨⟨g1, g2⟩, g3⟩, g4⟩ := ht
   obtain ⟨C2, hag1⟩ := hx ▸ h x (by cases ng <;> simp [Op.operands])
   obtain ⟨hr2, hag2⟩ := hy ▸ h y (by cases ng <;> simp [Op.operands])
   simp only [RepA] at C2 hr2
   have hf : P.fieldsOf xt = fs := by unfold Program.fieldsOf; rw [hu]
   obtain ⟨xs, e1⟩ : ∃ xs, ρ x = .agg xs := by
    generalize ρ x = v at hag1
    cases v <;> simp_all [aY, AV.isAgg]
   obtain ⟨ys, e2⟩ : ∃ ys, ρ y = .agg ys := by
    generalize ρ y = v at hag2
    cases v <;> simp_all [aY, AV.isAgg]
   rw [e1] at C2; rw [e2] at hr2
   have hrun := n9 (P := P) (xs := xs) (ys := ys) fs.toList τ 0 _ _ a b g1 C2 hr2 rfl rfl
   have heq : (Op.equalIn 10000 xt (.agg xs) (.agg ys)).run P w = .ok (eqI τ a b) w := by
    rw [run_equalIn_struct w 9999 xt xs ys (by rw [hf]; exact hu) g2, hf]
    exact hrun
   have hg := fun op => run_eqGuard_agg (P := P) w op xt x y xs ys g3
   cases ng with
   | false =>
    refine ⟨.bool (eqI τ a b), ?_, aP _ _ _ _ (.bool _)⟩
    have := run_eql_struct (P := P) w xt xs ys
    rw [heq] at this
    simp only [Result.andThen_ok] at this
    simp only [ax, execOp, e1, e2]
    simp [hg, this]
   | true =>
    refine ⟨.bool (!(eqI τ a b)), ?_, aP _ _ _ _ (.bool _)⟩
    have := run_neq_struct (P := P) w xt xs ys
    rw [heq] at this
    simp only [Result.andThen_ok] at this
    simp only [ai, execOp, e1, e2]
    simp [hg, this]
  ·cases ht
def HO (E : Env) (fm : BinOp) (xt : TypeId) (τ : Ty) (a : τ.den) (v : AV) (s : LSt) (k : E1 -> Option R) : Option R :=
 match v.asD τ with
 | some b => bif stI E.P xt τ then (match fm with | .eql => k (s.pv (.d .bool (eqI τ a b))) | .neq => k (s.pv (.d .bool (!(eqI τ a b)))) | _ => none) else none
 | none => none
theorem Ql {E : Env} {C : Ctx} {s : LSt} {k : E1 -> Option R} {r : R} {dst : Option Tmp} {ty : TypeId} {pos : String} {bT : Array Edge} {gd : Option (Nat × Bool)} (bt : C.Γ = E.gam) {fm : BinOp} {xt yt : TypeId} {x y : Operand} {τ : Ty} {a : τ.den} (hx : s.ev E x = .d τ a) (h : HO E fm xt τ a (s.ev E y) s k = some r) : dD E C ⟨dst, .binOp fm xt x y yt, ty, pos, bT, gd⟩ s k r := by
 unfold HO at h
 have ex := bC bt s x
 have ey := bC bt s y
 rw [hx] at ex
 split at h
 ·rename_i b hb
  rw [AV.asD_some hb] at ey
  cases ht : stI E.P xt τ with
  | false => rw [ht] at h; cases h
  | true =>
   rw [ht] at h
   simp only [ai] at h
   split at h
   ·exact .of _ h (Fa ex ey ht false)
   ·exact .of _ h (Fa ex ey ht true)
   ·cases h
 ·cases h
def vB (E : Env) (fm : BinOp) (xt : TypeId) (a : AV) (s : LSt) (k : E1 -> Option R) : Option R :=
 match E.P.underlying xt with
 | some (.slice _) =>
  (match a with
  | .nils => (match fm with | .eql => k (s.pv (.d .bool true)) | .neq => k (s.pv (.d .bool false)) | _ => none)
  | a =>
   (match HJ s.hp a none with
   | some ⟨_, _ :: _⟩ => (match fm with | .eql => k (s.pr (.d .bool false) a.objs) | .neq => k (s.pr (.d .bool true) a.objs) | _ => none)
   | _ => none))
 | _ => none
theorem Kt {E : Env} {C : Ctx} {s : LSt} {k : E1 -> Option R} {r : R} {dst : Option Tmp} {ty : TypeId} {pos : String} {bT : Array Edge} {gd : Option (Nat × Bool)} (bt : C.Γ = E.gam) {fm : BinOp} {xt yt : TypeId} {x y : Operand} (hy : s.ev E y = .nils) (h : vB E fm xt (s.ev E x) s k = some r) : dD E C ⟨dst, .binOp fm xt x y yt, ty, pos, bT, gd⟩ s k r := by
 unfold vB at h
 have ex := bC bt s x
 have ey := bC bt s y
 rw [hy] at ey
 split at h
 ·rename_i T hT
  split at h
  ·rename_i hx
   rw [hx] at ex
   split at h
   ·exact .of _ h (qm ex ey hT true)
   ·exact .of _ h (qm ex ey hT false)
   ·cases h
  ·split at h
   ·rename_i hs
    split at h
    ·exact .of _ h (E9 ex (mq hs) (by simp) ey hT false)
    ·exact .of _ h (E9 ex (mq hs) (by simp) ey hT true)
    ·cases h
   ·cases h
 ·cases h
def vC (E : Env) (fm : BinOp) (xt : TypeId) (x y : Operand) (s : LSt) (k : E1 -> Option R) : Option R :=
 match s.ev E x, s.ev E y with
 | .d (.int k1) a, .d (.int k2) b =>
  (match fm with
  | .shl => (shl k1 a b).bind fun z => k (s.pv (.d (.int k1) z))
  | .shr => (shr k1 a b).bind fun z => k (s.pv (.d (.int k1) z))
  | .quo => if k1 = k2 then (quo k1 a b).bind fun z => k (s.pv (.d (.int k1) z)) else none
  | .rem => if k1 = k2 then (rem a b).bind fun z => k (s.pv (.d (.int k1) z)) else none
  | fm => if k1 = k2 then (match Du fm k1 a b with | some v => k (s.pv v) | none => none) else none)
 | .d .bool a, .d .bool b =>
  (match fm with
  | .eql => bif HN E.P xt then k (s.pv (.d .bool (a == b))) else none
  | .neq => bif HN E.P xt then k (s.pv (.d .bool (!(a == b)))) else none
  | _ => none)
 | .d .str a, .d .str b =>
  (match fm with
  | .eql => k (s.pv (.d .bool (a == b)))
  | .neq => k (s.pv (.d .bool (!(a == b))))
  | .add => (Dt a b).bind fun z => k (s.pv (.d .str z))
  | _ => none)
 | .d (.flt k1) a, .d (.flt k2) b => if k1 = k2 then (match Ks fm k1 a b with | some v => k (s.pv v) | none => none) else none
 | .iface _ (.d (.int _) _), .nilif => (match fm, y with | .neq, .const .nilIface => bif HM E.P xt then k (s.pv (.d .bool true)) else none | _, _ => none)
 | .nilif, .nilif => (match fm, y with | .neq, .const .nilIface => bif HM E.P xt then k (s.pv (.d .bool false)) else none | _, _ => none)
 | a, .nils => vB E fm xt a s k
 | .d (.pair a b) z, v => HO E fm xt (.pair a b) z v s k
 | _, _ => none
section
variable {E : Env} {C : Ctx} {s : LSt} {k : E1 -> Option R} {r : R} {dst : Option Tmp} {ty : TypeId} {pos : String} {bT : Array Edge} {gd : Option (Nat × Bool)}
theorem Ku (bt : C.Γ = E.gam) {fm : BinOp} {xt yt : TypeId} {x y : Operand} (h : vC E fm xt x y s k = some r) : dD E C ⟨dst, .binOp fm xt x y yt, ty, pos, bT, gd⟩ s k r := by
 unfold vC at h
 have ex := bC bt s x
 have ey := bC bt s y
 split at h
 ·rename_i k1 a k2 b hx hy
  rw [hx] at ex; rw [hy] at ey
  split at h
  ·obtain ⟨z, hz, h⟩ := aS h
   exact .of _ h (Qg ex ey hz)
  ·obtain ⟨z, hz, h⟩ := aS h
   exact .of _ h (Qh ex ey hz)
  ·split at h
   ·rename_i he; subst he
    obtain ⟨z, hz, h⟩ := aS h
    exact .of _ h (Qe ex ey hz)
   ·cases h
  ·split at h
   ·rename_i he; subst he
    obtain ⟨z, hz, h⟩ := aS h
    exact .of _ h (Qf ex ey hz)
   ·cases h
  ·split at h
   ·rename_i he; subst he
    cases hv : Du fm k1 a b with
    | none => rw [hv] at h; cases h
    | some v =>
     rw [hv] at h
     refine .of _ h ?_
     have q8 : Db (s.toA.ev C x) = some (.int k1 a) := by rw [ex]; rfl
     have nc : Db (s.toA.ev C y) = some (.int k1 b) := by rw [ey]; rfl
     cases fm <;> simp only [Du, Option.some.injEq, reduceCtorEq] at hv <;> subst hv
     ·exact gF (r := .int k1 (k1.wrap (a + b))) q8 nc (by cases k1 <;> rfl) rfl
     ·exact gF (r := .int k1 (k1.wrap (a - b))) q8 nc (by cases k1 <;> rfl) rfl
     ·exact gF (r := .int k1 (k1.wrap (a * b))) q8 nc (by cases k1 <;> rfl) rfl
     ·exact gF (r := .int k1 (k1.wrap (BitVec.ofInt k1.bits a &&& BitVec.ofInt k1.bits b).toNat)) q8 nc (by cases k1 <;> rfl) rfl
     ·exact gF (r := .int k1 (k1.wrap (BitVec.ofInt k1.bits a ||| BitVec.ofInt k1.bits b).toNat)) q8 nc (by cases k1 <;> rfl) rfl
     ·exact gF (r := .int k1 (k1.wrap (BitVec.ofInt k1.bits a ^^^ BitVec.ofInt k1.bits b).toNat)) q8 nc (by cases k1 <;> rfl) rfl
     ·exact gF (r := .int k1 (k1.wrap (BitVec.ofInt k1.bits a &&& ~~~ BitVec.ofInt k1.bits b).toNat)) q8 nc (by cases k1 <;> rfl) rfl
     ·exact gF (r := .bool (a == b)) q8 nc (by cases k1 <;> rfl) rfl
     ·exact gF (r := .bool (a != b)) q8 nc (by cases k1 <;> rfl) rfl
     ·exact gF (r := .bool (decide (a < b))) q8 nc (by cases k1 <;> rfl) rfl
     ·exact gF (r := .bool (decide (a <= b))) q8 nc (by cases k1 <;> rfl) rfl
     ·exact gF (r := .bool (decide (a > b))) q8 nc (by cases k1 <;> rfl) rfl
     ·exact gF (r := .bool (decide (a >= b))) q8 nc (by cases k1 <;> rfl) rfl
   ·cases h
 ·rename_i a b hx hy
  rw [hx] at ex; rw [hy] at ey
  split at h
  ·cases hb : HN E.P xt with
   | false => rw [hb] at h; cases h
   | true => rw [hb] at h; exact .of _ h (XB ex ey (vA hb))
  ·cases hb : HN E.P xt with
   | false => rw [hb] at h; cases h
   | true => rw [hb] at h; exact .of _ h (XC ex ey (vA hb))
  ·cases h
 ·rename_i a b hx hy
  rw [hx] at ex; rw [hy] at ey
  split at h
  ·exact .of _ h (Kh ex ey)
  ·exact .of _ h (Ki ex ey)
  ·obtain ⟨z, hz, h⟩ := aS h
   exact .of _ h (by have := HC (P := E.P) (dst := dst) (ty := ty) (pos := pos) (bT := bT) (gd := gd) (xt := xt) (yt := yt) ex ey (qk hz).1; rw [(qk hz).2] at this; exact this)
  ·cases h
 ·rename_i k1 a k2 b hx hy
  rw [hx] at ex; rw [hy] at ey
  split at h
  ·rename_i he; subst he
   cases hv : Ks fm k1 a b with
   | none => rw [hv] at h; cases h
   | some v =>
    rw [hv] at h
    refine .of _ h ?_
    cases fm <;> first
     | (cases hv; exact Xu (by simp) ex ey)
     | (cases hv; exact Qa (by simp) ex ey rfl rfl)
     | cases hv
  ·cases h
 ·rename_i t kk n hx hy
  rw [hx] at ex; rw [hy] at ey
  split at h
  ·cases hb : HM E.P xt with
   | false => rw [hb] at h; cases h
   | true => rw [hb] at h; exact .of _ h (Qi ex (vz hb))
  ·cases h
 ·rename_i hx hy
  rw [hx] at ex; rw [hy] at ey
  split at h
  ·cases hb : HM E.P xt with
   | false => rw [hb] at h; cases h
   | true => rw [hb] at h; exact .of _ h (zW ex (vz hb))
  ·cases h
 ·rename_i hy
  exact Kt bt hy h
 ·rename_i hx _
  exact Ql bt hx h
 ·cases h
def HP (E : Env) (uop : UnOp) (x : Operand) (s : LSt) (k : E1 -> Option R) : Option R :=
 match uop, s.ev E x with
 | .not, .d .bool b => k (s.pv (.d .bool (!b)))
 | .neg, .d (.int j) n => k (s.pv (.d (.int j) (j.wrap (0 - n))))
 | .neg, .d (.flt f) b => bif (f.format.read b).isNaN then none else k (s.pv (.d (.flt f) (ca f (Op.negFloat f b))))
 | _, _ => none
theorem Qm (bt : C.Γ = E.gam) {uop : UnOp} {xt : TypeId} {x : Operand} (h : HP E uop x s k = some r) : dD E C ⟨dst, .unOp uop xt x, ty, pos, bT, gd⟩ s k r := by
 unfold HP at h
 have ex := bC bt s x
 split at h
 ·rename_i b hx
  rw [hx] at ex
  exact .of _ h (V0 (u := .bool b) (by rw [ex]; rfl) rfl rfl)
 ·rename_i j n hx
  rw [hx] at ex
  exact .of _ h (V0 (u := .int j n) (by rw [ex]; rfl) rfl rfl)
 ·rename_i f b hx
  rw [hx] at ex
  cases hn : (f.format.read b).isNaN with
  | true => rw [hn] at h; cases h
  | false => rw [hn] at h; exact .of _ h (Dc ex hn)
 ·cases h
def pG (E : Env) (c x y : Operand) (s : LSt) (k : E1 -> Option R) : Option R :=
 match s.ev E c with
 | .d .bool b => bif b then k (s.pv (s.ev E x)) else k (s.pv (s.ev E y))
 | _ => none
theorem HQ (bt : C.Γ = E.gam) {c x y : Operand} (h : pG E c x y s k = some r) : dD E C ⟨dst, .pick c x y, ty, pos, bT, gd⟩ s k r := by
 unfold pG at h
 have ec := bC bt s c
 split at h
 ·rename_i b hc
  rw [hc] at ec
  cases b with
  | true => exact .of _ h (wV ec (bC bt s x))
  | false => exact .of _ h (uE ec (bC bt s y))
 ·cases h
def pH (E : Env) (st dt : TypeId) (x : Operand) (s : LSt) (k : E1 -> Option R) : Option R :=
 match s.ev E x, E.P.underlying st, E.P.underlying dt with
 | .d (.int _) n, some _, some (.int j) => k (s.pv (.d (.int j) (j.wrap n)))
 | .d (.int _) n, some _, some (.float j) => k (s.pv (.d (.flt j) (ca j (j.nearest n))))
 | .d (.flt f) b, some _, some (.float j) => bif (f.format.read b).isNaN then none else (rN f b j).bind fun z => k (s.pv (.d (.flt j) (ca j z)))
 | .d (.flt f) b, some _, some (.int j) => bif (f.format.read b).isNaN then none else (rO f b j).bind fun z => k (s.pv (.d (.int j) z))
 | _, _, _ => none
theorem HR (bt : C.Γ = E.gam) {st dt : TypeId} {x : Operand} (h : pH E st dt x s k = some r) : dD E C ⟨dst, .convert st dt x, ty, pos, bT, gd⟩ s k r := by
 unfold pH at h
 have ex := bC bt s x
 split at h
 ·rename_i k1 n d1 j hx h1 h2
  rw [hx] at ex
  exact .of _ h (zC ex h1 h2)
 ·rename_i k1 n d1 j hx h1 h2
  rw [hx] at ex
  exact .of _ h (rM ex h1 h2)
 ·rename_i f b d1 j hx h1 h2
  rw [hx] at ex
  cases hn : (f.format.read b).isNaN with
  | true => rw [hn] at h; cases h
  | false =>
   rw [hn] at h
   cases hz : rN f b j with
   | none => rw [hz] at h; cases h
   | some z => rw [hz] at h; exact .of _ h (rP ex h1 h2 hn hz)
 ·rename_i f b d1 j hx h1 h2
  rw [hx] at ex
  cases hn : (f.format.read b).isNaN with
  | true => rw [hn] at h; cases h
  | false =>
   rw [hn] at h
   cases hz : rO f b j with
   | none => rw [hz] at h; cases h
   | some z => rw [hz] at h; exact .of _ h (rQ ex h1 h2 hn hz)
 ·cases h
def lr (hp : LHp) (o : Nat) (x : Option R) : Option R := match aA hp o with | none => x | some _ => none
theorem gH {hp : LHp} {o : Nat} {x : Option R} (h : lr hp o x = some r) : aA hp o = none /\ x = some r := by
 unfold lr at h
 grind
def vD (E : Env) (x : Operand) (s : LSt) (k : E1 -> Option R) : Option R :=
 bif (s.ev E x).plain then lr s.hp s.nx (k ⟨.op s.nx [] 0, [], [(s.nx, .box (s.ev E x))], s.nx + 1⟩) else none
theorem Kv (bt : C.Γ = E.gam) {d : Nat} {t : TypeId} {x : Operand} (h : vD E x s k = some r) : dD E C ⟨some d, .box t x, ty, pos, bT, gd⟩ s k r := by
 unfold vD at h
 cases hp : (s.ev E x).plain with
 | false => rw [hp] at h; cases h
 | true =>
  rw [hp] at h
  obtain ⟨h0, h⟩ := gH h
  exact .of _ h (Xv (bC bt s x) hp h0)
def Dw (E : Env) (t : TypeId) : Option AV :=
 match lk E.ty t with
 | some τ => some (n8 τ)
 | none => (match E.P.info? t with
  | some i => (match i.zero with | some z => (match z with | .nilFunc => some .nilfn | .nilIface => some .nilif | .pointer none => some .nilp | _ => none) | none => none)
  | none => none)
theorem Dx (hE : E.OK) {t : TypeId} {a : AV} (h : Dw E t = some a) (w : World) (im : Nat -> Prop) (μ : Mu) (hp : Hp) : ∃ z : Value, (zeroValue t).run E.P w = .ok z w /\ RepA w im μ hp a z.cells.toList := by
 unfold Dw at h
 split at h
 ·rename_i τ hτ
  cases h
  obtain ⟨i, z, h1, h2, h3, h4, h5⟩ := (hE.ty _ (fh hτ)).info
  obtain ⟨z', hr, hc⟩ := rV (P := E.P) (t := t) (ty := τ) ⟨i, z, h1, h4, h5⟩ w
  grind [vw]
 ·split at h
  ·rename_i i hi
   split at h
   ·rename_i z hz
    have hr : (zeroValue t).run E.P w = .ok z w := by simp [zeroValue, typeInfo, hi, hz]
    grind [RepA, Value.cells]
   ·cases h
  ·cases h
def mv (E : Env) (t : TypeId) (s : LSt) (k : E1 -> Option R) : Option R :=
 match Dw E t with
 | some a => lr s.hp s.nx (k ⟨.op s.nx [] 0, [], [(s.nx, .box a)], s.nx + 1⟩)
 | none => none
theorem Dy (hE : E.OK) {d : Nat} {t : TypeId} (h : mv E t s k = some r) : dD E C ⟨some d, .alloc t, ty, pos, bT, gd⟩ s k r := by
 unfold mv at h
 split at h
 ·rename_i a ha
  obtain ⟨h0, h⟩ := gH h
  refine .of _ h ?_
  intro s1 fj fA im μ act w hi hd
  have EY : s1.hp s.nx = none := (fA s.nx (.inr (by simp [E1.eff]))).trans h0
  obtain ⟨z, hrun, hc⟩ := Dx hE ha w im μ s1.hp
  refine ⟨_, _, im, _, .inl ?_, hi.newBox (c := a) (cells := z.cells) (T := t) (hd d rfl) EY hc⟩
  simp only [execOp, Instr.alloc, Sem.run_bind, hrun, Dg, Result.andThen_ok]
  rfl
 ·cases h
def pI (E : Env) (t : TypeId) (x : Operand) (s : LSt) (k : E1 -> Option R) : Option R :=
 match s.ev E x with
 | .ip τ y => bif si E.P t τ.size τ.isAgg then k (s.pv (.d τ y)) else none
 | .op o p off =>
  (match aA s.hp o with
  | some (.box v) => cU v p (fun off' u => bif Nat.beq off' off && si E.P t u.asize u.isAgg then k (s.pr u [o]) else none)
  | _ => none)
 | .oe o m i =>
  (match aA s.hp o with
  | some (.arr _ e m' _ xs) => bif Nat.beq m m' && si E.P t e.size e.isAgg then (xs[i]?).bind fun z => k (s.pr (.d e z) [o]) else none
  | _ => none)
 | _ => none
theorem HS (bt : C.Γ = E.gam) {t : TypeId} {x : Operand} (h : pI E t x s k = some r) : dD E C ⟨dst, .load t x, ty, pos, bT, gd⟩ s k r := by
 unfold pI at h
 have ex := bC bt s x
 split at h
 ·rename_i τ y hx
  rw [hx] at ex
  cases hb : si E.P t τ.size τ.isAgg with
  | false => rw [hb] at h; cases h
  | true => rw [hb] at h; exact .of _ h (Dh ex (kj hb))
 ·rename_i o p off hx
  rw [hx] at ex
  split at h
  ·rename_i v ho
   obtain ⟨off', u, h1, h2⟩ := ki v p _ r h
   cases hb : Nat.beq off' off && si E.P t u.asize u.isAgg with
   | false => rw [hb] at h2; cases h2
   | true =>
    rw [hb] at h2
    simp only [ba] at hb
    exact .of _ h2 (Di ex ho h1 (bj hb.1) (kj hb.2))
  ·cases h
 ·rename_i o m i hx
  rw [hx] at ex
  split at h
  ·rename_i T e m' z xs ho
   cases hb : Nat.beq m m' && si E.P t e.size e.isAgg with
   | false => rw [hb] at h; cases h
   | true =>
    rw [hb] at h
    simp only [ba] at hb
    have hm := bj hb.1
    subst hm
    obtain ⟨y, hy, h⟩ := aS h
    exact .of _ h (Dm ex ho hy (kj hb.2))
  ·cases h
 ·cases h
def Fb (hp : LHp) (o : Nat) : LHp :=
 match aA hp o with
 | some (.arr T e m false xs) => [(o, .arr T e m true xs)]
 | _ => []
def bR (hp : LHp) : List Nat -> LHp
 | [] => []
 | o :: l => let w := bR hp l; Fb (w ++ hp) o ++ w
theorem z7 {s : ASt} {hp : LHp} (hs : s.hp = aA hp) : ∀ l : List Nat, Le C s ⟨s.fr, aG s.hp (bR hp l)⟩
 | [] => by
  have : aG s.hp (bR hp []) = s.hp := by funext o; simp [bR, aG]
  rw [this]; exact Le.refl _ _
 | o :: l => by
  refine (z7 hs l).trans ?_
  simp only [bR, Fb]
  have hh : aA (bR hp l ++ hp) = aG s.hp (bR hp l) := by rw [a8, hs]
  split
  ·rename_i T e m xs h
   rw [hh] at h
   have := vp (C := C) (s := ⟨s.fr, aG s.hp (bR hp l)⟩) h
   refine this.trans ?_
   have he : aG (aG s.hp (bR hp l)) [(o, .arr T e m true xs)] = aG s.hp ([(o, .arr T e m true xs)] ++ bR hp l) := by
    rw [hs, ← a8, ← a8, ← a8, List.append_assoc]
   rw [he]; exact Le.refl _ _
  grind [Le.refl]
theorem oa (hp : Hp) (a b : LHp) : aG hp (a ++ b) = aG (aG hp b) a := by
 grind [aG]
theorem OpW.frozen {P : Program} {o : Oper} {e : E1} {dst : Option Nat} {s : LSt} (l : List Nat) (h : OpW P C o (e.eff dst) ⟨s.fr.get, aG (aA s.hp) (bR s.hp l)⟩) :
  OpW P C o ((E1.mk e.av e.rd (e.wr ++ bR s.hp l) e.nx).eff dst) s.toA := by
 intro s1 fj fA a w hr hd K Q hK
 have hkeys : ∀ k, (k ∈ e.rd \/ k ∈ (e.wr ++ bR s.hp l).map (·.1)) -> s1.hp k = aA s.hp k := fA
 have hle : Le C s1 ⟨s1.fr, aG s1.hp (bR s.hp l)⟩ := by
  have key : ∀ l' : List Nat, (∀ k, k ∈ (bR s.hp l').map (·.1) -> s1.hp k = aA s.hp k) -> Le C s1 ⟨s1.fr, aG s1.hp (bR s.hp l')⟩ := by
   intro l'
   induction l' with
   | nil =>
    intro _
    have : aG s1.hp (bR s.hp []) = s1.hp := by funext o; simp [bR, aG]
    rw [this]; exact Le.refl _ _
   | cons o l' ih =>
    intro hk
    have hsub : ∀ k, k ∈ (bR s.hp l').map (·.1) -> k ∈ (bR s.hp (o :: l')).map (·.1) := fun k hk => by simp only [bR, List.map_append, List.mem_append]; exact .inr hk
    refine (ih (fun k h => hk k (hsub k h))).trans ?_
    simp only [bR, Fb]
    split
    ·rename_i T e m xs h
     have ho : aG s1.hp (bR s.hp l') o = some (.arr T e m false xs) := by
      have h' := h
      rw [a8] at h'
      by_cases hm : o ∈ (bR s.hp l').map (·.1)
      ·rw [fI (bp := aA s.hp) hm]; exact h'
      ·rw [dL hm] at h' ⊢
       rw [hk o (by simp only [bR, Fb, h, List.map_append, List.mem_append]; exact .inl (by simp))]
       exact h'
     have := vp (C := C) (s := ⟨s1.fr, aG s1.hp (bR s.hp l')⟩) ho
     refine this.trans ?_
     have he : aG (aG s1.hp (bR s.hp l')) [(o, .arr T e m true xs)] = aG s1.hp ([(o, .arr T e m true xs)] ++ bR s.hp l') := by rw [oa]
     rw [he]; exact Le.refl _ _
    ·simp only [List.nil_append]; exact Le.refl _ _
  exact key l (fun k h => hkeys k (.inr (by simp only [List.map_append, List.mem_append]; exact .inr h)))
 refine h ⟨s1.fr, aG s1.hp (bR s.hp l)⟩ fj ?_ a w (hle a w hr) hd K Q ?_
 ·intro k hk
  show aG s1.hp (bR s.hp l) k = aG (aA s.hp) (bR s.hp l) k
  by_cases hm : k ∈ (bR s.hp l).map (·.1)
  ·exact fI hm
  ·rw [dL hm, dL hm]
   rcases hk with hk | hk
   ·exact hkeys k (.inl hk)
   ·exact hkeys k (.inr (by simp only [List.map_append, List.mem_append]; exact .inl hk))
 ·intro a' w' lj
  refine hK a' w' ?_
  have : (Eff.app (e.eff dst) ⟨s1.fr, aG s1.hp (bR s.hp l)⟩) = Eff.app ((E1.mk e.av e.rd (e.wr ++ bR s.hp l) e.nx).eff dst) s1 := by
   simp only [Eff.app, E1.eff, oa]
   congr 1
   cases dst <;> rfl
  rw [← this]; exact lj
end
end Go.Vm
