/- Part E of the abstract machine: the operations that only compute or read. -/
import Derived.Test.YtnkhoojomojbpaaGreatDoorQ4
namespace Go.Vm
section
variable {P : Program} {C : Ctx}
def bL (P : Program) (C : Ctx) (o : Oper) (e : Eff) (s : ASt) : Prop :=
 ∀ s1 : ASt, (∀ x ∈ o.op.operands.toList, s1.ev C x = s.ev C x) -> (∀ k, (k ∈ e.rd \/ k ∈ e.wr.map (·.1)) -> s1.hp k = s.hp k) ->
 ∀ im μ a w, Inv C im μ s1 a w -> (∀ d, o.dst = some d -> d < C.n) ->
  ∃ v w' bT bm, ((execOp a.eval o).run P w = .ok (.value v) w' \/ (v = Go.undef /\ (execOp a.eval o).run P w = .ok .skip w')) /\ Inv C bT bm (e.app s1) (a.put o.dst v) w'
theorem kf {o : Oper} (h : o.guard = none) (y : Nat -> Option Bool) : Region.wanted o y = true := by simp [Region.wanted, h]
theorem vu {ops : Array Oper} {o : Oper} {t : Tmp} (h : Operand.tmp t ∈ o.op.operands.toList) : t ∈ o.looksAt ops := by
 unfold Oper.looksAt
 exact List.mem_append.2 (.inl (List.mem_filterMap.2 ⟨.tmp t, h, rfl⟩))
theorem sF {ops : Array Oper} {o : Oper} {s s1 : ASt} (h : ∀ x ∈ o.looksAt ops, s1.fr x = s.fr x) : ∀ x ∈ o.op.operands.toList, s1.ev C x = s.ev C x := by
 intro x hx
 cases x with
 | tmp t => exact h t (vu hx)
 | _ => rfl
def OpW (P : Program) (C : Ctx) (o : Oper) (e : Eff) (s : ASt) : Prop :=
 ∀ s1 : ASt, (∀ x ∈ o.op.operands.toList, s1.ev C x = s.ev C x) -> (∀ k, (k ∈ e.rd \/ k ∈ e.wr.map (·.1)) -> s1.hp k = s.hp k) ->
 ∀ a w, Rel C s1 a w -> (∀ d, o.dst = some d -> d < C.n) -> ∀ (K : Act -> World -> Prop) (Q : Exit -> Act -> World -> Prop), (∀ a' w', Rel C (e.app s1) a' w' -> K a' w') -> o.wpIn (fen C.rd) 0 P a w K Q
theorem bL.w {o : Oper} {e : Eff} {s : ASt} (h : bL P C o e s) : OpW P C o e s := by
 intro s1 fX gm a w hr cn K Q hK
 obtain ⟨im, μ, hi⟩ := hr
 obtain ⟨v, w', bT, bm, hrun, fq⟩ := h s1 fX gm im μ a w hi cn
 refine ⟨fun f _ => n9 _ f, ?_⟩
 rw [Oper.semAt_eq _ _ _ (ru (hrun.imp id (·.2)))]
 rcases hrun with hrun | ⟨rfl, hrun⟩
 ·rw [hrun]; exact hK _ _ ⟨bT, bm, fq⟩
 ·rw [hrun]; exact hK _ _ ⟨bT, bm, fq⟩
theorem Dt {ops : Array Oper} {i : Nat} {o : Oper} {e : Eff} {s : ASt} (ho : ops[i]? = some o) (hg : o.guard = none) (hd : e.dst = o.dst) (h : OpW P C o e s) : jA P C ops i s e := by
 intro o' eZ cn
 obtain rfl : o = o' := Option.some.inj (ho.symm.trans eZ)
 refine ⟨hd, fun s1 rR gm a w hr K Q hK => ?_⟩
 unfold wpOpIn
 simp only [ho, kf hg, if_true]
 exact h s1 (sF rR) gm a w hr cn K Q hK
theorem oa {ops : Array Oper} {j g : Nat} {b : Bool} {a : Act} {s : ASt} {w : World} {im : Nat -> Prop} {μ : Mu} (hj : (ops[j]?).bind (·.dst) = some g) (hg : g < C.n) (hs : s.fr g = .d .bool b) (hi : Inv C im μ s a w) :
  yielded ops a.tmps j = some b := by
 have hv := hi.fr g
 rw [hs] at hv
 have gk : g < a.tmps.size := by rw [hi.size]; exact hg
 have : a.tmps.getD g Go.undef = .bool b := by
  generalize a.tmps.getD g Go.undef = v at hv
  obtain ⟨h1, h2⟩ := hv
  cases v <;> simp_all [RepA, aM, Value.cells, bh, AV.isAgg, Ty.isAgg]
 unfold yielded
 rw [hj]
 simp only [aA]
 rw [Array.getElem?_eq_getElem gk]
 simp only [Array.getD_eq_getD_getElem?, Array.getElem?_eq_getElem gk, Option.getD_some] at this
 rw [this]
theorem mj {ops : Array Oper} {o : Oper} {j : Nat} {want : Bool} {g : Nat} (hg : o.guard = some (j, want)) (hj : (ops[j]?).bind (·.dst) = some g) : g ∈ o.looksAt ops := by
 unfold Oper.looksAt
 refine List.mem_append.2 (.inr ?_)
 rw [hg]
 simp [hj]
theorem P5 {ops : Array Oper} {i j g : Nat} {want : Bool} {o : Oper} {e : Eff} {s : ASt} (ho : ops[i]? = some o) (hg : o.guard = some (j, want)) (hj : (ops[j]?).bind (·.dst) = some g) (JX : g < C.n)
  (hs : s.fr g = .d .bool want) (hd : e.dst = o.dst) (h : OpW P C o e s) : jA P C ops i s e := by
 intro o' eZ cn
 obtain rfl : o = o' := Option.some.inj (ho.symm.trans eZ)
 refine ⟨hd, fun s1 rR gm a w hr K Q hK => ?_⟩
 obtain ⟨im, μ, hi⟩ := hr
 have hy := oa hj JX ((rR g (mj hg hj)).trans hs) hi
 have hw : Region.wanted o (yielded ops a.tmps) = true := by simp [Region.wanted, hg, hy]
 unfold wpOpIn
 simp only [ho, hw, if_true]
 exact h s1 (sF rR) gm a w ⟨im, μ, hi⟩ cn K Q hK
theorem Inv.put {im : Nat -> Prop} {μ : Mu} {s : ASt} {a : Act} {w w' : World} (hi : Inv C im μ s a w) (hheap : w'.heap = w.heap) (hos : w'.os = w.os) (htape : w'.tape = w.tape) (hout : w'.output = w.output)
  {dst : Option Nat} (hd : ∀ d, dst = some d -> d < C.n) {av : AV} {v : Value} (hv : bC w im μ s.hp av v) : Inv C im μ ⟨(s.put dst av).fr, s.hp⟩ (a.put dst v) w' := by
 have hb : ∀ b : Nat, w'.heap[b]? = w.heap[b]? := fun b => by rw [hheap]
 have ev : Ev w im μ s.hp w' im μ s.hp := ⟨fun _ h => h, fun b _ => hb b, fun o ob ho => ⟨ob, ho, cZ.refl _ _⟩⟩
 exact hi.step ev hos htape hout (by rw [hheap]; exact Nat.le_refl _) (fun b _ _ => hb b) (fun b h => .inl h) (fun b h => by rw [hheap]; exact hi.imLt b h)
  (fun o b h => ⟨(hi.sep o b h).1, by rw [hheap]; exact (hi.sep o b h).2.1, .inl ⟨o, h⟩⟩) hi.inj hi.dom (fun o ob ho => (hi.obj o ob ho).ev ev (fun b _ => hb b)) dst hd av v (hv.ev ev)
theorem iA (dst : Option Nat) (av : AV) (rd : List Nat) (s : ASt) : (Eff.app ⟨dst, av, rd, []⟩ s) = ⟨(s.put dst av).fr, s.hp⟩ := rfl
theorem zW {w : World} {im : Nat -> Prop} {μ : Mu} {hp : Hp} : bC w im μ hp (.tup []) Go.undef := ⟨[], rfl, by simp [RepFs]⟩
theorem Km {ops : Array Oper} {i j g : Nat} {want : Bool} {o : Oper} {s : ASt} (ho : ops[i]? = some o) (hg : o.guard = some (j, want)) (hj : (ops[j]?).bind (·.dst) = some g) (JX : g < C.n)
  (hs : s.fr g = .d .bool (!want)) : jA P C ops i s ⟨o.dst, .tup [], [], []⟩ := by
 intro o' eZ cn
 obtain rfl : o = o' := Option.some.inj (ho.symm.trans eZ)
 refine ⟨rfl, fun s1 rR gm a w hr K Q hK => ?_⟩
 obtain ⟨im, μ, hi⟩ := hr
 have hy := oa hj JX ((rR g (mj hg hj)).trans hs) hi
 have hw : Region.wanted o (yielded ops a.tmps) = false := by simp [Region.wanted, hg, hy]
 unfold wpOpIn
 simp only [ho, hw, Bool.false_eq_true, if_false]
 refine ⟨fun f _ => n9 _ f, hK _ _ ⟨im, μ, ?_⟩⟩
 rw [iA]
 exact hi.put rfl rfl rfl rfl cn zW
theorem HJ {ops : Array Oper} {i j g : Nat} {want : Bool} {o : Oper} {s : ASt} (ho : ops[i]? = some o) (hg : o.guard = some (j, want)) (hj : (ops[j]?).bind (·.dst) = some g) (_hgn : g < C.n)
  (hs : s.fr g = .tup []) : jA P C ops i s ⟨o.dst, .tup [], [], []⟩ := by
 intro o' eZ cn
 obtain rfl : o = o' := Option.some.inj (ho.symm.trans eZ)
 refine ⟨rfl, fun s1 rR gm a w hr K Q hK => ?_⟩
 obtain ⟨im, μ, hi⟩ := hr
 have hv := hi.fr g
 rw [(rR g (mj hg hj)).trans hs] at hv
 obtain ⟨vs, hv, HA⟩ := hv
 simp only [RepFs] at HA
 subst HA
 have hy : yielded ops a.tmps j = none := by
  unfold yielded
  rw [hj]
  rw [Array.getD_eq_getD_getElem?] at hv
  simp only [aA]
  cases ht : a.tmps[g]? with
  | none => rfl
  | some u => rw [ht] at hv; simp only [Option.getD_some] at hv; subst hv; rfl
 have hw : Region.wanted o (yielded ops a.tmps) = false := by simp [Region.wanted, hg, hy]
 unfold wpOpIn
 simp only [ho, hw, Bool.false_eq_true, if_false]
 refine ⟨fun f _ => n9 _ f, hK _ _ ⟨im, μ, ?_⟩⟩
 rw [iA]
 exact hi.put rfl rfl rfl rfl cn zW
theorem dC {o : Oper} {s : ASt} {av : AV} (rd : List Nat)
  (h : ∀ (w : World) (im : Nat -> Prop) (μ : Mu) (hp : Hp) (ρ : Operand -> Value), (∀ x ∈ o.op.operands.toList, bC w im μ hp (s.ev C x) (ρ x)) ->
   (∀ k, k ∈ rd -> hp k = s.hp k) -> (∀ k ob, hp k = some ob -> iH w im μ hp (μ k) ob) ->
   ∃ v w', (execOp ρ o).run P w = .ok (.value v) w' /\ w'.heap = w.heap /\ w'.os = w.os /\ w'.tape = w.tape /\ w'.output = w.output /\ bC w im μ hp av v) :
  bL P C o ⟨o.dst, av, rd, []⟩ s := by
 intro s1 fX gm im μ a w hi hd
 obtain ⟨v, w', hrun, h1, h2, h3, h4, hv⟩ := h w im μ s1.hp a.eval (fun x hx => by rw [← fX x hx]; exact hi.ev x) (fun k hk => gm k (.inl hk)) hi.obj
 exact ⟨v, w', im, μ, .inl hrun, by rw [iA]; exact hi.put h1 h2 h3 h4 hd hv⟩
theorem aY {o : Oper} {s : ASt} {av : AV}
  (h : ∀ (w : World) (im : Nat -> Prop) (μ : Mu) (hp : Hp) (ρ : Operand -> Value), (∀ x ∈ o.op.operands.toList, bC w im μ hp (s.ev C x) (ρ x)) ->
   ∃ v, (execOp ρ o).run P w = .ok (.value v) w /\ bC w im μ hp av v) :
  bL P C o ⟨o.dst, av, [], []⟩ s :=
 dC [] fun w im μ hp ρ hx _ _ => by
  obtain ⟨v, hr, hv⟩ := h w im μ hp ρ hx
  exact ⟨v, w, hr, rfl, rfl, rfl, rfl, hv⟩
def Du : AV -> Option Value
 | .d (.int k) n => some (.int k n)
 | .d .bool b => some (.bool b)
 | .d .str s => some (.string ⟨s.toArray⟩)
 | .nilif => some .nilIface
 | .nilp => some (.pointer none)
 | .nilfn => some .nilFunc
 | .nils => some (.slice none 0 0)
 | _ => none
theorem bH {w : World} {im : Nat -> Prop} {μ : Mu} {hp : Hp} {av : AV} {u v : Value} (h : Du av = some u) (hv : bC w im μ hp av v) : v = u := by
 unfold Du at h
 split at h <;> first
  | (cases h; obtain ⟨h1, h2⟩ := hv; cases v <;> simp_all [RepA, aM, Value.cells, bh, AV.isAgg, Ty.isAgg]; done)
  | cases h
theorem jg {v : Value} {av : AV} (h : jf v = av) (w : World) (im : Nat -> Prop) (μ : Mu) (hp : Hp) : bC w im μ hp av v := h ▸ aN w im μ hp v
variable {s : ASt} {dst : Option Tmp} {ty : TypeId} {pos : String} {cc : Array Edge} {gd : Option (Nat × Bool)}
theorem P6 {x : Operand} {av : AV} (hx : s.ev C x = av) : bL P C ⟨dst, .move x, ty, pos, cc, gd⟩ ⟨dst, av, [], []⟩ s :=
 aY fun w im μ hp ρ h => ⟨ρ x, rfl, hx ▸ h x (by simp [Op.operands])⟩
theorem HK {x : Operand} {av : AV} (hx : s.ev C x = av) : bL P C ⟨dst, .assign x, ty, pos, cc, gd⟩ ⟨dst, av, [], []⟩ s :=
 aY fun w im μ hp ρ h => ⟨ρ x, rfl, hx ▸ h x (by simp [Op.operands])⟩
theorem hX {fE : BinOp} {xt yt : TypeId} {x y : Operand} {u1 u2 r : Value} {av : AV} (hx : Du (s.ev C x) = some u1) (hy : Du (s.ev C y) = some u2)
  (hr : (do eqGuard fE xt x y u1 u2; binOp fE xt u1 u2) = (pure r : Sem Value)) (JY : jf r = av) :
  bL P C ⟨dst, .binOp fE xt x y yt, ty, pos, cc, gd⟩ ⟨dst, av, [], []⟩ s :=
 aY fun w im μ hp ρ h => by
  have e1 := bH hx (h x (by simp [Op.operands]))
  have e2 := bH hy (h y (by simp [Op.operands]))
  refine ⟨r, ?_, jg JY _ _ _ _⟩
  simp only [execOp, e1, e2, hr]
  rfl
theorem Xl {k : IntKind} {xt yt : TypeId} {x y : Operand} {a b : Int} (hx : s.ev C x = .d (.int k) a) (hy : s.ev C y = .d (.int k) b) (hb : b ≠ 0) :
  bL P C ⟨dst, .binOp .quo xt x y yt, ty, pos, cc, gd⟩ ⟨dst, .d (.int k) (k.wrap (a.tdiv b)), [], []⟩ s :=
 aY fun w im μ hp ρ h => by
  have e1 := bH (u := .int k a) (by rw [hx]; rfl) (h x (by simp [Op.operands]))
  have e2 := bH (u := .int k b) (by rw [hy]; rfl) (h y (by simp [Op.operands]))
  refine ⟨.int k (k.wrap (a.tdiv b)), ?_, aN _ _ _ _ (.int k (k.wrap (a.tdiv b)))⟩
  simp only [execOp, e1, e2]
  simp [eqGuard, binOp, Op.intDiv, hb]
theorem Xm {k : IntKind} {xt yt : TypeId} {x y : Operand} {a b : Int} (hx : s.ev C x = .d (.int k) a) (hy : s.ev C y = .d (.int k) b) (hb : b ≠ 0) :
  bL P C ⟨dst, .binOp .rem xt x y yt, ty, pos, cc, gd⟩ ⟨dst, .d (.int k) (a.tmod b), [], []⟩ s :=
 aY fun w im μ hp ρ h => by
  have e1 := bH (u := .int k a) (by rw [hx]; rfl) (h x (by simp [Op.operands]))
  have e2 := bH (u := .int k b) (by rw [hy]; rfl) (h y (by simp [Op.operands]))
  refine ⟨.int k (a.tmod b), ?_, aN _ _ _ _ (.int k (a.tmod b))⟩
  simp only [execOp, e1, e2]
  simp [eqGuard, binOp, Op.intDiv, hb]
theorem zX {fE : BinOp} {k yk : IntKind} {xt yt : TypeId} {x y : Operand} {a b : Int} {r : Value} {av : AV} (hx : s.ev C x = .d (.int k) a) (hy : s.ev C y = .d (.int yk) b) (hb : 0 <= b)
  (fX : fE = .shl \/ fE = .shr) (hr : r = (match fE with | .shl => .int k (k.wrap (a * 2 ^ (min b.toNat k.bits))) | _ => .int k (a.fdiv (2 ^ (min b.toNat k.bits))))) (JY : jf r = av) :
  bL P C ⟨dst, .binOp fE xt x y yt, ty, pos, cc, gd⟩ ⟨dst, av, [], []⟩ s :=
 aY fun w im μ hp ρ h => by
  have e1 := bH (u := .int k a) (by rw [hx]; rfl) (h x (by simp [Op.operands]))
  have e2 := bH (u := .int yk b) (by rw [hy]; rfl) (h y (by simp [Op.operands]))
  refine ⟨r, ?_, jg JY _ _ _ _⟩
  have hb' : ¬ b < 0 := by omega
  simp only [execOp, e1, e2]
  rcases fX with rfl | rfl <;> simp [eqGuard, binOp, Op.shift, hb', hr]
theorem Kn {xt yt : TypeId} {x y : Operand} {a b : aj} (hx : s.ev C x = .d .str a) (hy : s.ev C y = .d .str b) :
  bL P C ⟨dst, .binOp .eql xt x y yt, ty, pos, cc, gd⟩ ⟨dst, .d .bool (a == b), [], []⟩ s :=
 aY fun w im μ hp ρ h => by
  have e1 := bH (u := .string ⟨a.toArray⟩) (by rw [hx]; rfl) (h x (by simp [Op.operands]))
  have e2 := bH (u := .string ⟨b.toArray⟩) (by rw [hy]; rfl) (h y (by simp [Op.operands]))
  refine ⟨.bool (a == b), ?_, ⟨by simp [RepA, aM, Value.cells], rfl⟩⟩
  simp only [execOp, e1, e2]
  simp [eqGuard, binOp, Op.stringOp]
theorem Ko {xt yt : TypeId} {x y : Operand} {a b : aj} (hx : s.ev C x = .d .str a) (hy : s.ev C y = .d .str b) :
  bL P C ⟨dst, .binOp .neq xt x y yt, ty, pos, cc, gd⟩ ⟨dst, .d .bool (!(a == b)), [], []⟩ s :=
 aY fun w im μ hp ρ h => by
  have e1 := bH (u := .string ⟨a.toArray⟩) (by rw [hx]; rfl) (h x (by simp [Op.operands]))
  have e2 := bH (u := .string ⟨b.toArray⟩) (by rw [hy]; rfl) (h y (by simp [Op.operands]))
  refine ⟨.bool (!(a == b)), ?_, ⟨by simp [RepA, aM, Value.cells], rfl⟩⟩
  simp only [execOp, e1, e2]
  simp [eqGuard, binOp, Op.stringOp]
theorem HL {xt yt : TypeId} {x y : Operand} {a b : aj} (hx : s.ev C x = .d .str a) (hy : s.ev C y = .d .str b) (hl : a.length + b.length < 2 ^ 62) :
  bL P C ⟨dst, .binOp .add xt x y yt, ty, pos, cc, gd⟩ ⟨dst, .d .str (a ++ b), [], []⟩ s :=
 aY fun w im μ hp ρ h => by
  have e1 := bH (u := .string ⟨a.toArray⟩) (by rw [hx]; rfl) (h x (by simp [Op.operands]))
  have e2 := bH (u := .string ⟨b.toArray⟩) (by rw [hy]; rfl) (h y (by simp [Op.operands]))
  refine ⟨.string ⟨(a ++ b).toArray⟩, ?_, ⟨by simp [RepA, aM, Value.cells], rfl⟩⟩
  have gk : (⟨a.toArray⟩ : ByteArray).size = a.length := by simp [ByteArray.size]
  have hsz' : (⟨b.toArray⟩ : ByteArray).size = b.length := by simp [ByteArray.size]
  have happ : (⟨a.toArray⟩ : ByteArray) ++ ⟨b.toArray⟩ = ⟨(a ++ b).toArray⟩ := by
   apply ByteArray.ext; simp
  simp only [execOp, e1, e2]
  have hle : ¬ ((((a.length + b.length : Nat)) : Int) > IntKind.i64.max) := by
   have : IntKind.i64.max = 9223372036854775807 := by decide
   omega
  simp only [eqGuard, binOp, Op.stringOp, happ, gk, hsz', if_neg hle]
  rfl
theorem V1 {uop : UnOp} {xt : TypeId} {x : Operand} {u r : Value} {av : AV} (hx : Du (s.ev C x) = some u) (hr : Op.unary uop u = (pure r : Sem Value)) (JY : jf r = av) :
  bL P C ⟨dst, .unOp uop xt x, ty, pos, cc, gd⟩ ⟨dst, av, [], []⟩ s :=
 aY fun w im μ hp ρ h => by
  have e1 := bH hx (h x (by simp [Op.operands]))
  refine ⟨r, ?_, jg JY _ _ _ _⟩
  simp only [execOp, e1, hr]
  rfl
theorem xD {c x y : Operand} {av : AV} (hc : s.ev C c = .d .bool true) (hx : s.ev C x = av) : bL P C ⟨dst, .pick c x y, ty, pos, cc, gd⟩ ⟨dst, av, [], []⟩ s :=
 aY fun w im μ hp ρ h => by
  have e1 := bH (u := .bool true) (by rw [hc]; rfl) (h c (by simp [Op.operands]))
  refine ⟨ρ x, ?_, hx ▸ h x (by simp [Op.operands])⟩
  simp [execOp, e1, asBool]
theorem vv {c x y : Operand} {av : AV} (hc : s.ev C c = .d .bool false) (hx : s.ev C y = av) : bL P C ⟨dst, .pick c x y, ty, pos, cc, gd⟩ ⟨dst, av, [], []⟩ s :=
 aY fun w im μ hp ρ h => by
  have e1 := bH (u := .bool false) (by rw [hc]; rfl) (h c (by simp [Op.operands]))
  refine ⟨ρ y, ?_, hx ▸ h y (by simp [Op.operands])⟩
  simp [execOp, e1, asBool]
theorem zY {k j : IntKind} {st dt : TypeId} {x : Operand} {n : Int} {d1 : TypeDesc} (hx : s.ev C x = .d (.int k) n) (h1 : P.underlying st = some d1) (h2 : P.underlying dt = some (.int j)) :
  bL P C ⟨dst, .convert st dt x, ty, pos, cc, gd⟩ ⟨dst, .d (.int j) (j.wrap n), [], []⟩ s :=
 aY fun w im μ hp ρ h => by
  have e1 := bH (u := .int k n) (by rw [hx]; rfl) (h x (by simp [Op.operands]))
  refine ⟨.int j (j.wrap n), ?_, aN _ _ _ _ (.int j (j.wrap n))⟩
  simp only [execOp, e1, convert, Sem.run_bind, run_underlying h1, run_underlying h2, Result.andThen_ok]
  cases d1 <;> rfl
theorem sG {k : IntKind} {j : FloatKind} {st dt : TypeId} {x : Operand} {n : Int} {d1 : TypeDesc} (hx : s.ev C x = .d (.int k) n) (h1 : P.underlying st = some d1) (h2 : P.underlying dt = some (.float j)) :
  bL P C ⟨dst, .convert st dt x, ty, pos, cc, gd⟩ ⟨dst, .d (.flt j) (aI j (j.nearest n)), [], []⟩ s :=
 aY fun w im μ hp ρ h => by
  have e1 := bH (u := .int k n) (by rw [hx]; rfl) (h x (by simp [Op.operands]))
  refine ⟨.float j (j.nearest n), ?_, aN _ _ _ _ (.float j (j.nearest n))⟩
  simp only [execOp, e1, convert, Sem.run_bind, run_underlying h1, run_underlying h2, Result.andThen_ok]
  cases d1 <;> rfl
theorem lG {w : World} {im : Nat -> Prop} {μ : Mu} {hp : Hp} {k : FloatKind} {b : Nat} {v : Value} (h : bC w im μ hp (.d (.flt k) b) v) : ∃ r, v = .float k r /\ aI k r = b := by
 obtain ⟨⟨r, h1, h3⟩, h2⟩ := h
 refine ⟨r, ?_, h3⟩
 cases v <;> simp_all [Value.cells, bh, AV.isAgg, Ty.isAgg]
theorem vY (k : FloatKind) : (k.format.read (Ke k)).isNaN = true := by cases k <;> decide +kernel
def sH (f : FloatKind) (b : Nat) (j : FloatKind) : Option Nat :=
 if f = j then some b else match f.decode b with
  | .nan _ _ => none
  | .infinity s => some (j.encode (.infinity s))
  | .number s m e => if (j.decode (j.encode (.number s m e))).isInfinity then none else some (j.encode (.number s m e))
def sI (f : FloatKind) (b : Nat) (j : IntKind) : Option Int :=
 match (f.decode b).toInt .zero with
 | some n => if j.min <= n /\ n <= j.max then some n else none
 | none => none
theorem oc {w : World} {im : Nat -> Prop} {μ : Mu} {hp : Hp} {k : FloatKind} {b : Nat} {v : Value} (h : bC w im μ hp (.d (.flt k) b) v) (hn : (k.format.read b).isNaN = false) : v = .float k b := by
 obtain ⟨r, rfl, c⟩ := lG h
 have : r = b := by
  unfold aI at c
  by_cases hr : l6 k r = true
  ·rw [if_pos hr] at c
   rw [← c, vY] at hn
   cases hn
  ·rwa [if_neg hr] at c
 rw [this]
theorem Xn {P : Program} {w : World} {f j : FloatKind} {b z : Nat} (hz : sH f b j = some z) : (Conv.floatToFloat f b j).run P w = .ok (.float j z) w := by
 unfold sH at hz
 unfold Conv.floatToFloat
 by_cases hf : f = j
 ·rw [if_pos hf] at hz ⊢
  cases hz
  rfl
 ·rw [if_neg hf] at hz ⊢
  cases hd : f.decode b with
  | nan s t => rw [hd] at hz; cases hz
  | infinity s => rw [hd] at hz; cases hz; rfl
  | number s m e =>
   rw [hd] at hz
   simp only at hz ⊢
   by_cases hi : (j.decode (j.encode (.number s m e))).isInfinity = true
   ·rw [if_pos hi] at hz; cases hz
   ·rw [if_neg hi] at hz ⊢; cases hz; rfl
theorem Xo {P : Program} {w : World} {f : FloatKind} {j : IntKind} {b : Nat} {n : Int} (hz : sI f b j = some n) : (Conv.floatToInt f b j).run P w = .ok (.int j n) w := by
 unfold sI at hz
 unfold Conv.floatToInt
 cases hd : (f.decode b).toInt .zero with
 | none => rw [hd] at hz; cases hz
 | some m =>
  rw [hd] at hz
  simp only at hz ⊢
  by_cases hi : j.min <= m /\ m <= j.max
  ·rw [if_pos hi] at hz ⊢; cases hz; rfl
  ·rw [if_neg hi] at hz; cases hz
theorem sJ {f j : FloatKind} {st dt : TypeId} {x : Operand} {b z : Nat} {d1 : TypeDesc} (hx : s.ev C x = .d (.flt f) b) (h1 : P.underlying st = some d1) (h2 : P.underlying dt = some (.float j)) (hn : (f.format.read b).isNaN = false) (hz : sH f b j = some z) :
  bL P C ⟨dst, .convert st dt x, ty, pos, cc, gd⟩ ⟨dst, .d (.flt j) (aI j z), [], []⟩ s :=
 aY fun w im μ hp ρ h => by
  have e1 : ρ x = .float f b := oc (hx ▸ h x (by simp [Op.operands])) hn
  have hr := Xn (P := P) (w := w) hz
  refine ⟨.float j z, ?_, aN _ _ _ _ (.float j z)⟩
  simp only [execOp, e1, convert, Sem.run_bind, run_underlying h1, run_underlying h2, Result.andThen_ok]
  cases d1 <;> simp only [hr] <;> rfl
theorem Dv {f : FloatKind} {xt : TypeId} {x : Operand} {b : Nat} (hx : s.ev C x = .d (.flt f) b) (hn : (f.format.read b).isNaN = false) :
  bL P C ⟨dst, .unOp .neg xt x, ty, pos, cc, gd⟩ ⟨dst, .d (.flt f) (aI f (Op.negFloat f b)), [], []⟩ s :=
 aY fun w im μ hp ρ h => by
  have e1 : ρ x = .float f b := oc (hx ▸ h x (by simp [Op.operands])) hn
  refine ⟨.float f (Op.negFloat f b), ?_, aN _ _ _ _ (.float f (Op.negFloat f b))⟩
  simp only [execOp, e1]
  rfl
theorem sK {f : FloatKind} {j : IntKind} {st dt : TypeId} {x : Operand} {b : Nat} {n : Int} {d1 : TypeDesc} (hx : s.ev C x = .d (.flt f) b) (h1 : P.underlying st = some d1) (h2 : P.underlying dt = some (.int j)) (hn : (f.format.read b).isNaN = false) (hz : sI f b j = some n) :
  bL P C ⟨dst, .convert st dt x, ty, pos, cc, gd⟩ ⟨dst, .d (.int j) n, [], []⟩ s :=
 aY fun w im μ hp ρ h => by
  have e1 : ρ x = .float f b := oc (hx ▸ h x (by simp [Op.operands])) hn
  have hr := Xo (P := P) (w := w) hz
  refine ⟨.int j n, ?_, aN _ _ _ _ (.int j n)⟩
  simp only [execOp, e1, convert, Sem.run_bind, run_underlying h1, run_underlying h2, Result.andThen_ok]
  cases d1 <;> simp only [hr] <;> rfl
theorem jh (k : FloatKind) (r : Nat) : (aI k r = r) \/ ((k.format.read r).isNaN = true /\ (k.format.read (aI k r)).isNaN = true) := by
 unfold aI l6
 by_cases h : (k.format.read r).isNaN = true
 ·rw [if_pos h]; exact .inr ⟨h, vY k⟩
 ·rw [if_neg h]; exact .inl rfl
theorem vZ {x y : Ieee.Datum} (h : x.isNaN = true) : x.sum y = none := by cases x <;> simp_all [Ieee.Datum.isNaN, Ieee.Datum.sum]
theorem wa {x y : Ieee.Datum} (h : y.isNaN = true) : x.sum y = none := by cases x <;> cases y <;> simp_all [Ieee.Datum.isNaN, Ieee.Datum.sum]
theorem vw {x y : Ieee.Datum} (h : x.isNaN = true) : x.product y = none := by cases x <;> simp_all [Ieee.Datum.isNaN, Ieee.Datum.product]
theorem vx {x y : Ieee.Datum} (h : y.isNaN = true) : x.product y = none := by cases x <;> cases y <;> simp_all [Ieee.Datum.isNaN, Ieee.Datum.product]
theorem sL {d : Nat} {x y : Ieee.Datum} (h : x.isNaN = true) : x.quotient d y = none := by cases x <;> simp_all [Ieee.Datum.isNaN, Ieee.Datum.quotient]
theorem sM {d : Nat} {x y : Ieee.Datum} (h : y.isNaN = true) : x.quotient d y = none := by cases x <;> cases y <;> simp_all [Ieee.Datum.isNaN, Ieee.Datum.quotient]
theorem zZ {x y : Ieee.Datum} (h : x.isNaN = true) : x.order y = none := by cases x <;> simp_all [Ieee.Datum.isNaN, Ieee.Datum.order]
theorem z6 {x y : Ieee.Datum} (h : y.isNaN = true) : x.order y = none := by cases x <;> cases y <;> simp_all [Ieee.Datum.isNaN, Ieee.Datum.order]
theorem xE {x : Ieee.Datum} : x.opposite.isNaN = x.isNaN := by cases x <;> rfl
theorem sN {α : Type} (k : FloatKind) (f : Ieee.Datum -> Ieee.Datum -> Option α) (hl : ∀ x y, x.isNaN = true -> f x y = none) (hr : ∀ x y, y.isNaN = true -> f x y = none) (x y : Nat) :
  f (k.format.read x) (k.format.read y) = f (k.format.read (aI k x)) (k.format.read (aI k y)) := by
 rcases jh k x with hx | ⟨hx, hx'⟩
 ·rcases jh k y with hy | ⟨hy, hy'⟩
  ·rw [hx, hy]
  ·rw [hr _ _ hy, hr _ _ hy']
 ·rw [hl _ _ hx, hl _ _ hx']
def Dw (op : BinOp) (k : FloatKind) (x y : Nat) : Option Nat :=
 match op with
 | .add => k.format.add x y
 | .sub => k.format.sub x y
 | .mul => k.format.mul x y
 | .quo => k.format.div x y
 | _ => none
theorem Dx (op : BinOp) (k : FloatKind) (x y : Nat) : Dw op k x y = Dw op k (aI k x) (aI k y) := by
 cases op <;> simp only [Dw, Ieee.Format.add, Ieee.Format.sub, Ieee.Format.mul, Ieee.Format.div]
 ·exact congrArg (Option.map _) (sN k (fun a b => a.sum b) (fun _ _ h => vZ h) (fun _ _ h => wa h) x y)
 ·exact congrArg (Option.map _) (sN k (fun a b => a.sum b.opposite) (fun _ _ h => vZ h) (fun _ _ h => wa (xE.trans h)) x y)
 ·exact congrArg (Option.map _) (sN k (fun a b => a.product b) (fun _ _ h => vw h) (fun _ _ h => vx h) x y)
 ·exact congrArg (Option.map _) (sN k (fun a b => a.quotient _ b) (fun _ _ h => sL h) (fun _ _ h => sM h) x y)
theorem z7 (k : FloatKind) (x y : Nat) : k.format.order x y = k.format.order (aI k x) (aI k y) :=
 sN k (fun a b => a.order b) (fun _ _ h => zZ h) (fun _ _ h => z6 h) x y
def fop (op : BinOp) (k : FloatKind) (x y : Nat) : Nat :=
 match Dw op k x y with
 | some r => aI k r
 | none => Ke k
theorem Fg (k : FloatKind) (x y t : Nat) : aI k ((Question.nanBits k x y).cut t) = Ke k := by
 unfold aI
 rw [if_pos]
 unfold l6
 cases k with
 | f32 =>
  have h : ∀ a b, a < 2 -> b < 2 ^ 23 - 1 -> (Ieee.single.read (a * 2 ^ 31 + 0x7f800000 + 1 + b)).isNaN = true := by
   intro a b ha hb
   have hw : Ieee.single.signWeight = 2147483648 := by decide
   have hbi : Ieee.single.binade = 8388608 := by decide
   have hi : Ieee.single.infRung = 2139095040 := by decide
   unfold Ieee.Format.read
   simp only [hw, hbi, hi]
   have e : (a * 2 ^ 31 + 0x7f800000 + 1 + b) % 2147483648 = 0x7f800000 + 1 + b := by omega
   rw [e, if_neg (by omega), if_neg (by omega), if_neg (by omega)]; rfl
  exact h _ _ (Nat.mod_lt _ (by decide)) (Nat.mod_lt _ (by decide))
 | f64 =>
  have h : ∀ a b, a < 2 -> b < 2 ^ 52 - 1 -> (Ieee.double.read (a * 2 ^ 63 + 0x7ff0000000000000 + 1 + b)).isNaN = true := by
   intro a b ha hb
   have hw : Ieee.double.signWeight = 9223372036854775808 := by decide
   have hbi : Ieee.double.binade = 4503599627370496 := by decide
   have hi : Ieee.double.infRung = 9218868437227405312 := by decide
   unfold Ieee.Format.read
   simp only [hw, hbi, hi]
   have e : (a * 2 ^ 63 + 0x7ff0000000000000 + 1 + b) % 9223372036854775808 = 0x7ff0000000000000 + 1 + b := by omega
   rw [e, if_neg (by omega), if_neg (by omega), if_neg (by omega)]; rfl
  exact h _ _ (Nat.mod_lt _ (by decide)) (Nat.mod_lt _ (by decide))
theorem Xp {fE : BinOp} {k : FloatKind} {xt yt : TypeId} {x y : Operand} {a b : Nat} (fX : fE = .add \/ fE = .sub \/ fE = .mul \/ fE = .quo) (hx : s.ev C x = .d (.flt k) a) (hy : s.ev C y = .d (.flt k) b) :
  bL P C ⟨dst, .binOp fE xt x y yt, ty, pos, cc, gd⟩ ⟨dst, .d (.flt k) (fop fE k a b), [], []⟩ s :=
 dC [] fun w im μ hp ρ h _ _ => by
  obtain ⟨r1, e1, c1⟩ := lG (hx ▸ h x (by simp [Op.operands]))
  obtain ⟨r2, e2, c2⟩ := lG (hy ▸ h y (by simp [Op.operands]))
  have hc := Dx fE k r1 r2
  rw [c1, c2] at hc
  have hrun : (execOp ρ ⟨dst, .binOp fE xt x y yt, ty, pos, cc, gd⟩).run P w = (match Dw fE k r1 r2 with
    | some r => .ok (.value (.float k r)) w
    | none => .ok (.value (.float k ((Question.nanBits k r1 r2).cut (w.tape w.drawn (.nanBits k r1 r2))))) { w with drawn := w.drawn + 1 }) := by
   rcases fX with rfl | rfl | rfl | rfl <;> simp only [execOp, e1, e2, eqGuard, binOp, Op.floatArith, Dw] <;> simp <;> split <;> simp_all [Question.forced]
  rw [hc] at hrun
  unfold fop
  cases hf : Dw fE k a b with
  | some r =>
   rw [hf] at hrun
   exact ⟨_, _, hrun, rfl, rfl, rfl, rfl, ⟨by simp only [RepA, aM, Value.cells]; exact ⟨r, rfl, rfl⟩, rfl⟩⟩
  | none =>
   rw [hf] at hrun
   exact ⟨_, _, hrun, rfl, rfl, rfl, rfl, ⟨by simp only [RepA, aM, Value.cells]; exact ⟨_, rfl, Fg k _ _ _⟩, rfl⟩⟩
theorem P7 {fE : BinOp} {k : FloatKind} {xt yt : TypeId} {x y : Operand} {a b : Nat} {r : Value} {av : AV} (fX : fE = .eql \/ fE = .neq \/ fE = .lss \/ fE = .leq \/ fE = .gtr \/ fE = .geq)
  (hx : s.ev C x = .d (.flt k) a) (hy : s.ev C y = .d (.flt k) b) (hr : Op.floatCmp fE k a b = (pure r : Sem Value)) (JY : jf r = av) :
  bL P C ⟨dst, .binOp fE xt x y yt, ty, pos, cc, gd⟩ ⟨dst, av, [], []⟩ s :=
 aY fun w im μ hp ρ h => by
  obtain ⟨r1, e1, c1⟩ := lG (hx ▸ h x (by simp [Op.operands]))
  obtain ⟨r2, e2, c2⟩ := lG (hy ▸ h y (by simp [Op.operands]))
  refine ⟨r, ?_, jg JY _ _ _ _⟩
  have hc : Op.floatCmp fE k r1 r2 = Op.floatCmp fE k a b := by
   unfold Op.floatCmp
   rw [z7 k r1 r2, c1, c2]
  have hb : binOp fE xt (.float k r1) (.float k r2) = Op.floatCmp fE k r1 r2 := by
   rcases fX with rfl | rfl | rfl | rfl | rfl | rfl <;> simp [binOp]
  have hg : eqGuard fE xt x y (.float k r1) (.float k r2) = (pure () : Sem Unit) := by
   unfold eqGuard; rcases fX with rfl | rfl | rfl | rfl | rfl | rfl <;> rfl
  simp only [execOp, e1, e2, hb, hc, hr, hg]
  rfl
end
end Go.Vm
