/- Part E of the abstract machine: the operations that only compute or read. -/
import Derived.Test.YtnkhoojomojbpaaGreatDoorK4
namespace Go.Vm
section
variable {P : Program} {C : Ctx}
def bB (P : Program) (C : Ctx) (o : Oper) (e : Eff) (s : ASt) : Prop :=
 ∀ s1 : ASt, (∀ x ∈ o.op.operands.toList, s1.ev C x = s.ev C x) -> (∀ k, (k ∈ e.rd \/ k ∈ e.wr.map (·.1)) -> s1.hp k = s.hp k) ->
 ∀ im μ a w, Inv C im μ s1 a w -> (∀ d, o.dst = some d -> d < C.n) ->
  ∃ v w' bI bh, ((execOp a.eval o).run P w = .ok (.value v) w' \/ (v = Go.undef /\ (execOp a.eval o).run P w = .ok .skip w')) /\ Inv C bI bh (e.app s1) (a.put o.dst v) w'
theorem jQ {o : Oper} (h : o.guard = none) (y : Nat -> Option Bool) : Region.wanted o y = true := by simp [Region.wanted, h]
theorem uD {ops : Array Oper} {o : Oper} {t : Tmp} (h : Operand.tmp t ∈ o.op.operands.toList) : t ∈ o.looksAt ops := by
 unfold Oper.looksAt
 grind
theorem rL {ops : Array Oper} {o : Oper} {s s1 : ASt} (h : ∀ x ∈ o.looksAt ops, s1.fr x = s.fr x) : ∀ x ∈ o.op.operands.toList, s1.ev C x = s.ev C x := by
 intro x hx
 cases x with
 | tmp t => exact h t (uD hx)
 | _ => rfl
def OpW (P : Program) (C : Ctx) (o : Oper) (e : Eff) (s : ASt) : Prop :=
 ∀ s1 : ASt, (∀ x ∈ o.op.operands.toList, s1.ev C x = s.ev C x) -> (∀ k, (k ∈ e.rd \/ k ∈ e.wr.map (·.1)) -> s1.hp k = s.hp k) ->
 ∀ a w, Rel C s1 a w -> (∀ d, o.dst = some d -> d < C.n) -> ∀ (K : Act -> World -> Prop) (Q : Exit -> Act -> World -> Prop), (∀ a' w', Rel C (e.app s1) a' w' -> K a' w') -> o.wpIn (fen C.rd) 0 P a w K Q
theorem bB.w {o : Oper} {e : Eff} {s : ASt} (h : bB P C o e s) : OpW P C o e s := by
 intro s1 fj fA a w hr bJ K Q hK
 obtain ⟨im, μ, hi⟩ := hr
 obtain ⟨v, w', bI, bh, hrun, fc⟩ := h s1 fj fA im μ a w hi bJ
 refine ⟨fun f _ => nA _ f, ?_⟩
 rw [Oper.semAt_eq _ _ _ (qF (hrun.imp id (·.2)))]
 rcases hrun with hrun | ⟨rfl, hrun⟩
 ·rw [hrun]; exact hK _ _ ⟨bI, bh, fc⟩
 ·rw [hrun]; exact hK _ _ ⟨bI, bh, fc⟩
theorem Da {ops : Array Oper} {i : Nat} {o : Oper} {e : Eff} {s : ASt} (ho : ops[i]? = some o) (hg : o.guard = none) (hd : e.dst = o.dst) (h : OpW P C o e s) : jg P C ops i s e := by
 intro o' dS bJ
 obtain rfl : o = o' := Option.some.inj (ho.symm.trans dS)
 refine ⟨hd, fun s1 q7 fA a w hr K Q hK => ?_⟩
 unfold wpOpIn
 simp only [ho, jQ hg, if_true]
 exact h s1 (rL q7) fA a w hr bJ K Q hK
theorem nB {ops : Array Oper} {j g : Nat} {b : Bool} {a : Act} {s : ASt} {w : World} {im : Nat -> Prop} {μ : Mu} (hj : (ops[j]?).bind (·.dst) = some g) (hg : g < C.n) (hs : s.fr g = .d .bool b) (hi : Inv C im μ s a w) :
  yielded ops a.tmps j = some b := by
 have hv := hi.fr g
 rw [hs] at hv
 have fP : g < a.tmps.size := by rw [hi.size]; exact hg
 have : a.tmps.getD g Go.undef = .bool b := by
  generalize a.tmps.getD g Go.undef = v at hv
  obtain ⟨h1, h2⟩ := hv
  cases v <;> simp_all [RepA, aM, Value.cells, aY, AV.isAgg, Ty.isAgg]
 unfold yielded
 simp_all
theorem lH {ops : Array Oper} {o : Oper} {j : Nat} {want : Bool} {g : Nat} (hg : o.guard = some (j, want)) (hj : (ops[j]?).bind (·.dst) = some g) : g ∈ o.looksAt ops := by
 unfold Oper.looksAt
 grind
theorem P8 {ops : Array Oper} {i j g : Nat} {want : Bool} {o : Oper} {e : Eff} {s : ASt} (ho : ops[i]? = some o) (hg : o.guard = some (j, want)) (hj : (ops[j]?).bind (·.dst) = some g) (JU : g < C.n)
  (hs : s.fr g = .d .bool want) (hd : e.dst = o.dst) (h : OpW P C o e s) : jg P C ops i s e := by
 intro o' dS bJ
 obtain rfl : o = o' := Option.some.inj (ho.symm.trans dS)
 refine ⟨hd, fun s1 q7 fA a w hr K Q hK => ?_⟩
 obtain ⟨im, μ, hi⟩ := hr
 have hy := nB hj JU ((q7 g (lH hg hj)).trans hs) hi
 have hw : Region.wanted o (yielded ops a.tmps) = true := by simp [Region.wanted, hg, hy]
 unfold wpOpIn
 simp only [ho, hw, if_true]
 exact h s1 (rL q7) fA a w ⟨im, μ, hi⟩ bJ K Q hK
theorem Inv.put {im : Nat -> Prop} {μ : Mu} {s : ASt} {a : Act} {w w' : World} (hi : Inv C im μ s a w) (hheap : w'.heap = w.heap) (hos : w'.os = w.os) (htape : w'.tape = w.tape) (hout : w'.output = w.output)
  {dst : Option Nat} (hd : ∀ d, dst = some d -> d < C.n) {av : AV} {v : Value} (hv : bo w im μ s.hp av v) : Inv C im μ ⟨(s.put dst av).fr, s.hp⟩ (a.put dst v) w' := by
 have hb : ∀ b : Nat, w'.heap[b]? = w.heap[b]? := fun b => by rw [hheap]
 have ev : Ev w im μ s.hp w' im μ s.hp := ⟨fun _ h => h, fun b _ => hb b, fun o ob ho => ⟨ob, ho, cA.refl _ _⟩⟩
 exact hi.step ev hos htape hout (by rw [hheap]; exact Nat.le_refl _) (fun b _ _ => hb b) (fun b h => .inl h) (fun b h => by rw [hheap]; exact hi.imLt b h)
  (fun o b h => ⟨(hi.sep o b h).1, by rw [hheap]; exact (hi.sep o b h).2.1, .inl ⟨o, h⟩⟩) hi.inj hi.dom (fun o ob ho => (hi.obj o ob ho).ev ev (fun b _ => hb b)) dst hd av v (hv.ev ev)
theorem hZ (dst : Option Nat) (av : AV) (rd : List Nat) (s : ASt) : (Eff.app ⟨dst, av, rd, []⟩ s) = ⟨(s.put dst av).fr, s.hp⟩ := rfl
theorem zA {w : World} {im : Nat -> Prop} {μ : Mu} {hp : Hp} : bo w im μ hp (.tup []) Go.undef := ⟨[], rfl, by simp [RepFs]⟩
theorem Kg {ops : Array Oper} {i j g : Nat} {want : Bool} {o : Oper} {s : ASt} (ho : ops[i]? = some o) (hg : o.guard = some (j, want)) (hj : (ops[j]?).bind (·.dst) = some g) (JU : g < C.n)
  (hs : s.fr g = .d .bool (!want)) : jg P C ops i s ⟨o.dst, .tup [], [], []⟩ := by
 intro o' dS bJ
 obtain rfl : o = o' := Option.some.inj (ho.symm.trans dS)
 refine ⟨rfl, fun s1 q7 fA a w hr K Q hK => ?_⟩
 obtain ⟨im, μ, hi⟩ := hr
 have hy := nB hj JU ((q7 g (lH hg hj)).trans hs) hi
 have hw : Region.wanted o (yielded ops a.tmps) = false := by simp [Region.wanted, hg, hy]
 unfold wpOpIn
 simp only [ho, hw, Bool.false_eq_true, if_false]
 refine ⟨fun f _ => nA _ f, hK _ _ ⟨im, μ, ?_⟩⟩
 rw [hZ]
 exact hi.put rfl rfl rfl rfl bJ zA
theorem HA {ops : Array Oper} {i j g : Nat} {want : Bool} {o : Oper} {s : ASt} (ho : ops[i]? = some o) (hg : o.guard = some (j, want)) (hj : (ops[j]?).bind (·.dst) = some g) (_hgn : g < C.n)
  (hs : s.fr g = .tup []) : jg P C ops i s ⟨o.dst, .tup [], [], []⟩ := by
 intro o' dS bJ
 obtain rfl : o = o' := Option.some.inj (ho.symm.trans dS)
 refine ⟨rfl, fun s1 q7 fA a w hr K Q hK => ?_⟩
 obtain ⟨im, μ, hi⟩ := hr
 have hv := hi.fr g
 rw [(q7 g (lH hg hj)).trans hs] at hv
 obtain ⟨vs, hv, Hn⟩ := hv
 simp only [RepFs] at Hn
 subst Hn
 have hy : yielded ops a.tmps j = none := by
  unfold yielded
  rw [hj]
  rw [Array.getD_eq_getD_getElem?] at hv
  grind
 have hw : Region.wanted o (yielded ops a.tmps) = false := by simp [Region.wanted, hg, hy]
 unfold wpOpIn
 simp only [ho, hw, Bool.false_eq_true, if_false]
 refine ⟨fun f _ => nA _ f, hK _ _ ⟨im, μ, ?_⟩⟩
 rw [hZ]
 exact hi.put rfl rfl rfl rfl bJ zA
theorem df {o : Oper} {s : ASt} {av : AV} (rd : List Nat)
  (h : ∀ (w : World) (im : Nat -> Prop) (μ : Mu) (hp : Hp) (ρ : Operand -> Value), (∀ x ∈ o.op.operands.toList, bo w im μ hp (s.ev C x) (ρ x)) ->
   (∀ k, k ∈ rd -> hp k = s.hp k) -> (∀ k ob, hp k = some ob -> il w im μ hp (μ k) ob) ->
   ∃ v w', (execOp ρ o).run P w = .ok (.value v) w' /\ w'.heap = w.heap /\ w'.os = w.os /\ w'.tape = w.tape /\ w'.output = w.output /\ bo w im μ hp av v) :
  bB P C o ⟨o.dst, av, rd, []⟩ s := by
 intro s1 fj fA im μ a w hi hd
 obtain ⟨v, w', hrun, h1, h2, h3, h4, hv⟩ := h w im μ s1.hp a.eval (fun x hx => by rw [← fj x hx]; exact hi.ev x) (fun k hk => fA k (.inl hk)) hi.obj
 exact ⟨v, w', im, μ, .inl hrun, by rw [hZ]; exact hi.put h1 h2 h3 h4 hd hv⟩
theorem aW {o : Oper} {s : ASt} {av : AV}
  (h : ∀ (w : World) (im : Nat -> Prop) (μ : Mu) (hp : Hp) (ρ : Operand -> Value), (∀ x ∈ o.op.operands.toList, bo w im μ hp (s.ev C x) (ρ x)) ->
   ∃ v, (execOp ρ o).run P w = .ok (.value v) w /\ bo w im μ hp av v) :
  bB P C o ⟨o.dst, av, [], []⟩ s :=
 df [] fun w im μ hp ρ hx _ _ => by
  obtain ⟨v, hr, hv⟩ := h w im μ hp ρ hx
  grind
def Db : AV -> Option Value
 | .d (.int k) n => some (.int k n)
 | .d .bool b => some (.bool b)
 | .d .str s => some (.string ⟨s.toArray⟩)
 | .nilif => some .nilIface
 | .nilp => some (.pointer none)
 | .nilfn => some .nilFunc
 | .nils => some (.slice none 0 0)
 | _ => none
theorem bu {w : World} {im : Nat -> Prop} {μ : Mu} {hp : Hp} {av : AV} {u v : Value} (h : Db av = some u) (hv : bo w im μ hp av v) : v = u := by
 unfold Db at h
 split at h <;> first
  | (cases h; obtain ⟨h1, h2⟩ := hv; cases v <;> simp_all [RepA, aM, Value.cells, aY, AV.isAgg, Ty.isAgg]; done)
  | cases h
theorem iS {v : Value} {av : AV} (h : iR v = av) (w : World) (im : Nat -> Prop) (μ : Mu) (hp : Hp) : bo w im μ hp av v := h ▸ aP w im μ hp v
variable {s : ASt} {dst : Option Tmp} {ty : TypeId} {pos : String} {bT : Array Edge} {gd : Option (Nat × Bool)}
theorem P9 {x : Operand} {av : AV} (hx : s.ev C x = av) : bB P C ⟨dst, .move x, ty, pos, bT, gd⟩ ⟨dst, av, [], []⟩ s :=
 aW fun w im μ hp ρ h => ⟨ρ x, rfl, hx ▸ h x (by simp [Op.operands])⟩
theorem HB {x : Operand} {av : AV} (hx : s.ev C x = av) : bB P C ⟨dst, .assign x, ty, pos, bT, gd⟩ ⟨dst, av, [], []⟩ s :=
 aW fun w im μ hp ρ h => ⟨ρ x, rfl, hx ▸ h x (by simp [Op.operands])⟩
theorem gF {fm : BinOp} {xt yt : TypeId} {x y : Operand} {u1 u2 r : Value} {av : AV} (hx : Db (s.ev C x) = some u1) (hy : Db (s.ev C y) = some u2)
  (hr : (do eqGuard fm xt x y u1 u2; binOp fm xt u1 u2) = (pure r : Sem Value)) (JV : iR r = av) :
  bB P C ⟨dst, .binOp fm xt x y yt, ty, pos, bT, gd⟩ ⟨dst, av, [], []⟩ s :=
 aW fun w im μ hp ρ h => by
  have e1 := bu hx (h x (by simp [Op.operands]))
  have e2 := bu hy (h y (by simp [Op.operands]))
  refine ⟨r, ?_, iS JV _ _ _ _⟩
  simp only [execOp, e1, e2, hr]
  rfl
theorem Xq {k : IntKind} {xt yt : TypeId} {x y : Operand} {a b : Int} (hx : s.ev C x = .d (.int k) a) (hy : s.ev C y = .d (.int k) b) (hb : b ≠ 0) :
  bB P C ⟨dst, .binOp .quo xt x y yt, ty, pos, bT, gd⟩ ⟨dst, .d (.int k) (k.wrap (a.tdiv b)), [], []⟩ s :=
 aW fun w im μ hp ρ h => by
  have e1 := bu (u := .int k a) (by rw [hx]; rfl) (h x (by simp [Op.operands]))
  have e2 := bu (u := .int k b) (by rw [hy]; rfl) (h y (by simp [Op.operands]))
  refine ⟨.int k (k.wrap (a.tdiv b)), ?_, aP _ _ _ _ (.int k (k.wrap (a.tdiv b)))⟩
  simp only [execOp, e1, e2]
  simp [eqGuard, binOp, Op.intDiv, hb]
theorem Xr {k : IntKind} {xt yt : TypeId} {x y : Operand} {a b : Int} (hx : s.ev C x = .d (.int k) a) (hy : s.ev C y = .d (.int k) b) (hb : b ≠ 0) :
  bB P C ⟨dst, .binOp .rem xt x y yt, ty, pos, bT, gd⟩ ⟨dst, .d (.int k) (a.tmod b), [], []⟩ s :=
 aW fun w im μ hp ρ h => by
  have e1 := bu (u := .int k a) (by rw [hx]; rfl) (h x (by simp [Op.operands]))
  have e2 := bu (u := .int k b) (by rw [hy]; rfl) (h y (by simp [Op.operands]))
  refine ⟨.int k (a.tmod b), ?_, aP _ _ _ _ (.int k (a.tmod b))⟩
  simp only [execOp, e1, e2]
  simp [eqGuard, binOp, Op.intDiv, hb]
theorem zB {fm : BinOp} {k yk : IntKind} {xt yt : TypeId} {x y : Operand} {a b : Int} {r : Value} {av : AV} (hx : s.ev C x = .d (.int k) a) (hy : s.ev C y = .d (.int yk) b) (hb : 0 <= b)
  (fj : fm = .shl \/ fm = .shr) (hr : r = (match fm with | .shl => .int k (k.wrap (a * 2 ^ (min b.toNat k.bits))) | _ => .int k (a.fdiv (2 ^ (min b.toNat k.bits))))) (JV : iR r = av) :
  bB P C ⟨dst, .binOp fm xt x y yt, ty, pos, bT, gd⟩ ⟨dst, av, [], []⟩ s :=
 aW fun w im μ hp ρ h => by
  have e1 := bu (u := .int k a) (by rw [hx]; rfl) (h x (by simp [Op.operands]))
  have e2 := bu (u := .int yk b) (by rw [hy]; rfl) (h y (by simp [Op.operands]))
  refine ⟨r, ?_, iS JV _ _ _ _⟩
  have hb' : ¬ b < 0 := by omega
  simp only [execOp, e1, e2]
  rcases fj with rfl | rfl <;> simp [eqGuard, binOp, Op.shift, hb', hr]
theorem Kh {xt yt : TypeId} {x y : Operand} {a b : ak} (hx : s.ev C x = .d .str a) (hy : s.ev C y = .d .str b) :
  bB P C ⟨dst, .binOp .eql xt x y yt, ty, pos, bT, gd⟩ ⟨dst, .d .bool (a == b), [], []⟩ s :=
 aW fun w im μ hp ρ h => by
  have e1 := bu (u := .string ⟨a.toArray⟩) (by rw [hx]; rfl) (h x (by simp [Op.operands]))
  have e2 := bu (u := .string ⟨b.toArray⟩) (by rw [hy]; rfl) (h y (by simp [Op.operands]))
  refine ⟨.bool (a == b), ?_, ⟨by simp [RepA, aM, Value.cells], rfl⟩⟩
  simp only [execOp, e1, e2]
  simp [eqGuard, binOp, Op.stringOp]
theorem Ki {xt yt : TypeId} {x y : Operand} {a b : ak} (hx : s.ev C x = .d .str a) (hy : s.ev C y = .d .str b) :
  bB P C ⟨dst, .binOp .neq xt x y yt, ty, pos, bT, gd⟩ ⟨dst, .d .bool (!(a == b)), [], []⟩ s :=
 aW fun w im μ hp ρ h => by
  have e1 := bu (u := .string ⟨a.toArray⟩) (by rw [hx]; rfl) (h x (by simp [Op.operands]))
  have e2 := bu (u := .string ⟨b.toArray⟩) (by rw [hy]; rfl) (h y (by simp [Op.operands]))
  refine ⟨.bool (!(a == b)), ?_, ⟨by simp [RepA, aM, Value.cells], rfl⟩⟩
  simp only [execOp, e1, e2]
  simp [eqGuard, binOp, Op.stringOp]
theorem HC {xt yt : TypeId} {x y : Operand} {a b : ak} (hx : s.ev C x = .d .str a) (hy : s.ev C y = .d .str b) (hl : a.length + b.length < 2 ^ 62) :
  bB P C ⟨dst, .binOp .add xt x y yt, ty, pos, bT, gd⟩ ⟨dst, .d .str (a ++ b), [], []⟩ s :=
 aW fun w im μ hp ρ h => by
  have e1 := bu (u := .string ⟨a.toArray⟩) (by rw [hx]; rfl) (h x (by simp [Op.operands]))
  have e2 := bu (u := .string ⟨b.toArray⟩) (by rw [hy]; rfl) (h y (by simp [Op.operands]))
  refine ⟨.string ⟨(a ++ b).toArray⟩, ?_, ⟨by simp [RepA, aM, Value.cells], rfl⟩⟩
  have fP : (⟨a.toArray⟩ : ByteArray).size = a.length := by simp [ByteArray.size]
  have hsz' : (⟨b.toArray⟩ : ByteArray).size = b.length := by simp [ByteArray.size]
  have happ : (⟨a.toArray⟩ : ByteArray) ++ ⟨b.toArray⟩ = ⟨(a ++ b).toArray⟩ := by
   rfl
  simp only [execOp, e1, e2]
  have hle : ¬ ((((a.length + b.length : Nat)) : Int) > IntKind.i64.max) := by
   (simp_all; omega)
  simp only [eqGuard, binOp, Op.stringOp, happ, fP, hsz', if_neg hle]
  rfl
theorem V0 {uop : UnOp} {xt : TypeId} {x : Operand} {u r : Value} {av : AV} (hx : Db (s.ev C x) = some u) (hr : Op.unary uop u = (pure r : Sem Value)) (JV : iR r = av) :
  bB P C ⟨dst, .unOp uop xt x, ty, pos, bT, gd⟩ ⟨dst, av, [], []⟩ s :=
 aW fun w im μ hp ρ h => by
  have e1 := bu hx (h x (by simp [Op.operands]))
  refine ⟨r, ?_, iS JV _ _ _ _⟩
  simp only [execOp, e1, hr]
  rfl
theorem wV {c x y : Operand} {av : AV} (hc : s.ev C c = .d .bool true) (hx : s.ev C x = av) : bB P C ⟨dst, .pick c x y, ty, pos, bT, gd⟩ ⟨dst, av, [], []⟩ s :=
 aW fun w im μ hp ρ h => by
  have e1 := bu (u := .bool true) (by rw [hc]; rfl) (h c (by simp [Op.operands]))
  refine ⟨ρ x, ?_, hx ▸ h x (by simp [Op.operands])⟩
  simp [execOp, e1, asBool]
theorem uE {c x y : Operand} {av : AV} (hc : s.ev C c = .d .bool false) (hx : s.ev C y = av) : bB P C ⟨dst, .pick c x y, ty, pos, bT, gd⟩ ⟨dst, av, [], []⟩ s :=
 aW fun w im μ hp ρ h => by
  have e1 := bu (u := .bool false) (by rw [hc]; rfl) (h c (by simp [Op.operands]))
  refine ⟨ρ y, ?_, hx ▸ h y (by simp [Op.operands])⟩
  simp [execOp, e1, asBool]
theorem zC {k j : IntKind} {st dt : TypeId} {x : Operand} {n : Int} {d1 : TypeDesc} (hx : s.ev C x = .d (.int k) n) (h1 : P.underlying st = some d1) (h2 : P.underlying dt = some (.int j)) :
  bB P C ⟨dst, .convert st dt x, ty, pos, bT, gd⟩ ⟨dst, .d (.int j) (j.wrap n), [], []⟩ s :=
 aW fun w im μ hp ρ h => by
  have e1 := bu (u := .int k n) (by rw [hx]; rfl) (h x (by simp [Op.operands]))
  refine ⟨.int j (j.wrap n), ?_, aP _ _ _ _ (.int j (j.wrap n))⟩
  simp only [execOp, e1, convert, Sem.run_bind, run_underlying h1, run_underlying h2, Result.andThen_ok]
  rfl
theorem rM {k : IntKind} {j : FloatKind} {st dt : TypeId} {x : Operand} {n : Int} {d1 : TypeDesc} (hx : s.ev C x = .d (.int k) n) (h1 : P.underlying st = some d1) (h2 : P.underlying dt = some (.float j)) :
  bB P C ⟨dst, .convert st dt x, ty, pos, bT, gd⟩ ⟨dst, .d (.flt j) (ca j (j.nearest n)), [], []⟩ s :=
 aW fun w im μ hp ρ h => by
  have e1 := bu (u := .int k n) (by rw [hx]; rfl) (h x (by simp [Op.operands]))
  refine ⟨.float j (j.nearest n), ?_, aP _ _ _ _ (.float j (j.nearest n))⟩
  simp only [execOp, e1, convert, Sem.run_bind, run_underlying h1, run_underlying h2, Result.andThen_ok]
  rfl
theorem kR {w : World} {im : Nat -> Prop} {μ : Mu} {hp : Hp} {k : FloatKind} {b : Nat} {v : Value} (h : bo w im μ hp (.d (.flt k) b) v) : ∃ r, v = .float k r /\ ca k r = b := by
 obtain ⟨⟨r, h1, h3⟩, h2⟩ := h
 refine ⟨r, ?_, h3⟩
 cases v <;> simp_all [Value.cells, aY, AV.isAgg, Ty.isAgg]
theorem vj (k : FloatKind) : (k.format.read (J8 k)).isNaN = true := by cases k <;> decide +kernel
def rN (f : FloatKind) (b : Nat) (j : FloatKind) : Option Nat :=
 if f = j then some b else match f.decode b with
  | .nan _ _ => none
  | .infinity s => some (j.encode (.infinity s))
  | .number s m e => if (j.decode (j.encode (.number s m e))).isInfinity then none else some (j.encode (.number s m e))
def rO (f : FloatKind) (b : Nat) (j : IntKind) : Option Int :=
 match (f.decode b).toInt .zero with
 | some n => if j.min <= n /\ n <= j.max then some n else none
 | none => none
theorem nC {w : World} {im : Nat -> Prop} {μ : Mu} {hp : Hp} {k : FloatKind} {b : Nat} {v : Value} (h : bo w im μ hp (.d (.flt k) b) v) (hn : (k.format.read b).isNaN = false) : v = .float k b := by
 grind [kR, ca, zp, vj]
theorem Xs {P : Program} {w : World} {f j : FloatKind} {b z : Nat} (hz : rN f b j = some z) : (Conv.floatToFloat f b j).run P w = .ok (.float j z) w := by
 unfold rN at hz
 unfold Conv.floatToFloat
 by_cases hf : f = j
 ·simp_all
 ·rw [if_neg hf] at hz ⊢
  cases hd : f.decode b with
  | nan s t => rw [hd] at hz; cases hz
  | infinity s => rw [hd] at hz; cases hz; rfl
  | number s m e =>
   rw [hd] at hz
   simp only at hz ⊢
   by_cases hi : (j.decode (j.encode (.number s m e))).isInfinity = true
   all_goals simp_all
theorem Xt {P : Program} {w : World} {f : FloatKind} {j : IntKind} {b : Nat} {n : Int} (hz : rO f b j = some n) : (Conv.floatToInt f b j).run P w = .ok (.int j n) w := by
 unfold rO at hz
 unfold Conv.floatToInt
 cases hd : (f.decode b).toInt .zero with
 | none => rw [hd] at hz; cases hz
 | some m =>
  (simp_all; omega)
theorem rP {f j : FloatKind} {st dt : TypeId} {x : Operand} {b z : Nat} {d1 : TypeDesc} (hx : s.ev C x = .d (.flt f) b) (h1 : P.underlying st = some d1) (h2 : P.underlying dt = some (.float j)) (hn : (f.format.read b).isNaN = false) (hz : rN f b j = some z) :
  bB P C ⟨dst, .convert st dt x, ty, pos, bT, gd⟩ ⟨dst, .d (.flt j) (ca j z), [], []⟩ s :=
 aW fun w im μ hp ρ h => by
  have e1 : ρ x = .float f b := nC (hx ▸ h x (by simp [Op.operands])) hn
  have hr := Xs (P := P) (w := w) hz
  refine ⟨.float j z, ?_, aP _ _ _ _ (.float j z)⟩
  simp only [execOp, e1, convert, Sem.run_bind, run_underlying h1, run_underlying h2, Result.andThen_ok]
  simp_all
theorem Dc {f : FloatKind} {xt : TypeId} {x : Operand} {b : Nat} (hx : s.ev C x = .d (.flt f) b) (hn : (f.format.read b).isNaN = false) :
  bB P C ⟨dst, .unOp .neg xt x, ty, pos, bT, gd⟩ ⟨dst, .d (.flt f) (ca f (Op.negFloat f b)), [], []⟩ s :=
 aW fun w im μ hp ρ h => by
  have e1 : ρ x = .float f b := nC (hx ▸ h x (by simp [Op.operands])) hn
  refine ⟨.float f (Op.negFloat f b), ?_, aP _ _ _ _ (.float f (Op.negFloat f b))⟩
  simp only [execOp, e1]
  rfl
theorem rQ {f : FloatKind} {j : IntKind} {st dt : TypeId} {x : Operand} {b : Nat} {n : Int} {d1 : TypeDesc} (hx : s.ev C x = .d (.flt f) b) (h1 : P.underlying st = some d1) (h2 : P.underlying dt = some (.int j)) (hn : (f.format.read b).isNaN = false) (hz : rO f b j = some n) :
  bB P C ⟨dst, .convert st dt x, ty, pos, bT, gd⟩ ⟨dst, .d (.int j) n, [], []⟩ s :=
 aW fun w im μ hp ρ h => by
  have e1 : ρ x = .float f b := nC (hx ▸ h x (by simp [Op.operands])) hn
  have hr := Xt (P := P) (w := w) hz
  refine ⟨.int j n, ?_, aP _ _ _ _ (.int j n)⟩
  simp only [execOp, e1, convert, Sem.run_bind, run_underlying h1, run_underlying h2, Result.andThen_ok]
  simp_all
theorem kS (k : FloatKind) (r : Nat) : (ca k r = r) \/ ((k.format.read r).isNaN = true /\ (k.format.read (ca k r)).isNaN = true) := by
 grind [ca, zp, vj]
theorem vk {x y : Ieee.Datum} (h : x.isNaN = true) : x.sum y = none := by cases x <;> simp_all [Ieee.Datum.isNaN, Ieee.Datum.sum]
theorem vl {x y : Ieee.Datum} (h : y.isNaN = true) : x.sum y = none := by cases x <;> cases y <;> simp_all [Ieee.Datum.isNaN, Ieee.Datum.sum]
theorem uF {x y : Ieee.Datum} (h : x.isNaN = true) : x.product y = none := by cases x <;> simp_all [Ieee.Datum.isNaN, Ieee.Datum.product]
theorem uG {x y : Ieee.Datum} (h : y.isNaN = true) : x.product y = none := by cases x <;> cases y <;> simp_all [Ieee.Datum.isNaN, Ieee.Datum.product]
theorem rR {d : Nat} {x y : Ieee.Datum} (h : x.isNaN = true) : x.quotient d y = none := by cases x <;> simp_all [Ieee.Datum.isNaN, Ieee.Datum.quotient]
theorem rS {d : Nat} {x y : Ieee.Datum} (h : y.isNaN = true) : x.quotient d y = none := by cases x <;> cases y <;> simp_all [Ieee.Datum.isNaN, Ieee.Datum.quotient]
theorem zD {x y : Ieee.Datum} (h : x.isNaN = true) : x.order y = none := by cases x <;> simp_all [Ieee.Datum.isNaN, Ieee.Datum.order]
theorem zE {x y : Ieee.Datum} (h : y.isNaN = true) : x.order y = none := by cases x <;> cases y <;> simp_all [Ieee.Datum.isNaN, Ieee.Datum.order]
theorem wW {x : Ieee.Datum} : x.opposite.isNaN = x.isNaN := by cases x <;> rfl
theorem rT {α : Type} (k : FloatKind) (f : Ieee.Datum -> Ieee.Datum -> Option α) (hl : ∀ x y, x.isNaN = true -> f x y = none) (hr : ∀ x y, y.isNaN = true -> f x y = none) (x y : Nat) :
  f (k.format.read x) (k.format.read y) = f (k.format.read (ca k x)) (k.format.read (ca k y)) := by
 grind [kS]
def Dd (op : BinOp) (k : FloatKind) (x y : Nat) : Option Nat :=
 match op with
 | .add => k.format.add x y
 | .sub => k.format.sub x y
 | .mul => k.format.mul x y
 | .quo => k.format.div x y
 | _ => none
theorem De (op : BinOp) (k : FloatKind) (x y : Nat) : Dd op k x y = Dd op k (ca k x) (ca k y) := by
 cases op <;> simp only [Dd, Ieee.Format.add, Ieee.Format.sub, Ieee.Format.mul, Ieee.Format.div]
 ·exact congrArg (Option.map _) (rT k (fun a b => a.sum b) (fun _ _ h => vk h) (fun _ _ h => vl h) x y)
 ·exact congrArg (Option.map _) (rT k (fun a b => a.sum b.opposite) (fun _ _ h => vk h) (fun _ _ h => vl (wW.trans h)) x y)
 ·exact congrArg (Option.map _) (rT k (fun a b => a.product b) (fun _ _ h => uF h) (fun _ _ h => uG h) x y)
 ·exact congrArg (Option.map _) (rT k (fun a b => a.quotient _ b) (fun _ _ h => rR h) (fun _ _ h => rS h) x y)
theorem zF (k : FloatKind) (x y : Nat) : k.format.order x y = k.format.order (ca k x) (ca k y) :=
 rT k (fun a b => a.order b) (fun _ _ h => zD h) (fun _ _ h => zE h) x y
def fop (op : BinOp) (k : FloatKind) (x y : Nat) : Nat :=
 match Dd op k x y with
 | some r => ca k r
 | none => J8 k
theorem E6 (k : FloatKind) (x y t : Nat) : ca k ((Question.nanBits k x y).cut t) = J8 k := by
 unfold ca
 rw [if_pos]
 unfold zp
 cases k with
 | f32 =>
  have h : ∀ a b, a < 2 -> b < 2 ^ 23 - 1 -> (Ieee.single.read (a * 2 ^ 31 + 0x7f800000 + 1 + b)).isNaN = true := by
   intro a b ha hb
   have hw : Ieee.single.signWeight = 2147483648 := by decide
   have hbi : Ieee.single.binade = 8388608 := by decide
   have hi : Ieee.single.infRung = 2139095040 := by decide
   unfold Ieee.Format.read
   simp only [hw, hbi, hi]
   have e : (a * 2 ^ 31 + 0x7f800000 + 1 + b) % 2147483648 = 0x7f800000 + 1 + b := by omega
   rw [e, if_neg (by omega), if_neg (by omega), if_neg (by omega)]; rfl
  exact h _ _ (Nat.mod_lt _ (by decide)) (Nat.mod_lt _ (by decide))
 | f64 =>
  have h : ∀ a b, a < 2 -> b < 2 ^ 52 - 1 -> (Ieee.double.read (a * 2 ^ 63 + 0x7ff0000000000000 + 1 + b)).isNaN = true := by
   intro a b ha hb
   have hw : Ieee.double.signWeight = 9223372036854775808 := by decide
   have hbi : Ieee.double.binade = 4503599627370496 := by decide
   have hi : Ieee.double.infRung = 9218868437227405312 := by decide
   unfold Ieee.Format.read
   simp only [hw, hbi, hi]
   have e : (a * 2 ^ 63 + 0x7ff0000000000000 + 1 + b) % 9223372036854775808 = 0x7ff0000000000000 + 1 + b := by omega
   rw [e, if_neg (by omega), if_neg (by omega), if_neg (by omega)]; rfl
  exact h _ _ (Nat.mod_lt _ (by decide)) (Nat.mod_lt _ (by decide))
theorem Xu {fm : BinOp} {k : FloatKind} {xt yt : TypeId} {x y : Operand} {a b : Nat} (fj : fm = .add \/ fm = .sub \/ fm = .mul \/ fm = .quo) (hx : s.ev C x = .d (.flt k) a) (hy : s.ev C y = .d (.flt k) b) :
  bB P C ⟨dst, .binOp fm xt x y yt, ty, pos, bT, gd⟩ ⟨dst, .d (.flt k) (fop fm k a b), [], []⟩ s :=
 df [] fun w im μ hp ρ h _ _ => by
  obtain ⟨r1, e1, c1⟩ := kR (hx ▸ h x (by simp [Op.operands]))
  obtain ⟨r2, e2, c2⟩ := kR (hy ▸ h y (by simp [Op.operands]))
  have hc := De fm k r1 r2
  rw [c1, c2] at hc
  have hrun : (execOp ρ ⟨dst, .binOp fm xt x y yt, ty, pos, bT, gd⟩).run P w = (match Dd fm k r1 r2 with
    | some r => .ok (.value (.float k r)) w
    | none => .ok (.value (.float k ((Question.nanBits k r1 r2).cut (w.tape w.drawn (.nanBits k r1 r2))))) { w with drawn := w.drawn + 1 }) := by
   rcases fj with rfl | rfl | rfl | rfl <;> simp only [execOp, e1, e2, eqGuard, binOp, Op.floatArith, Dd] <;> simp <;> split <;> simp_all [Question.forced]
  rw [hc] at hrun
  unfold fop
  cases hf : Dd fm k a b with
  | some r =>
   rw [hf] at hrun
   exact ⟨_, _, hrun, rfl, rfl, rfl, rfl, ⟨by simp only [RepA, aM, Value.cells]; exact ⟨r, rfl, rfl⟩, rfl⟩⟩
  | none =>
   rw [hf] at hrun
   exact ⟨_, _, hrun, rfl, rfl, rfl, rfl, ⟨by simp only [RepA, aM, Value.cells]; exact ⟨_, rfl, E6 k _ _ _⟩, rfl⟩⟩
theorem Qa {fm : BinOp} {k : FloatKind} {xt yt : TypeId} {x y : Operand} {a b : Nat} {r : Value} {av : AV} (fj : fm = .eql \/ fm = .neq \/ fm = .lss \/ fm = .leq \/ fm = .gtr \/ fm = .geq)
  (hx : s.ev C x = .d (.flt k) a) (hy : s.ev C y = .d (.flt k) b) (hr : Op.floatCmp fm k a b = (pure r : Sem Value)) (JV : iR r = av) :
  bB P C ⟨dst, .binOp fm xt x y yt, ty, pos, bT, gd⟩ ⟨dst, av, [], []⟩ s :=
 aW fun w im μ hp ρ h => by
  obtain ⟨r1, e1, c1⟩ := kR (hx ▸ h x (by simp [Op.operands]))
  obtain ⟨r2, e2, c2⟩ := kR (hy ▸ h y (by simp [Op.operands]))
  refine ⟨r, ?_, iS JV _ _ _ _⟩
  have hc : Op.floatCmp fm k r1 r2 = Op.floatCmp fm k a b := by
   unfold Op.floatCmp
   grind [zF]
  have hb : binOp fm xt (.float k r1) (.float k r2) = Op.floatCmp fm k r1 r2 := by
   rcases fj with rfl | rfl | rfl | rfl | rfl | rfl <;> simp [binOp]
  have hg : eqGuard fm xt x y (.float k r1) (.float k r2) = (pure () : Sem Unit) := by
   unfold eqGuard; rcases fj with rfl | rfl | rfl | rfl | rfl | rfl <;> rfl
  simp only [execOp, e1, e2, hb, hc, hr, hg]
  rfl
end
end Go.Vm
