/- Part E of the abstract machine: the operations that only compute or read. -/
import Derived.Test.YtckoidchbbfkkaaGreatDoorS4
namespace Go.Vm

section
variable {P : Program} {C : Ctx}

/-- what operation o does, from every state that is as s at what o looks at -/
def OpOK (P : Program) (C : Ctx) (o : Oper) (e : Eff) (s : ASt) : Prop :=
  ∀ s1 : ASt, (∀ x ∈ o.op.operands.toList, s1.ev C x = s.ev C x) → (∀ k, (k ∈ e.rd ∨ k ∈ e.wr.map (·.1)) → s1.hp k = s.hp k) →
  ∀ im μ a w, Inv C im μ s1 a w → (∀ d, o.dst = some d → d < C.n) →
    ∃ v w' im' μ', ((execOp a.eval o).run P w = .ok (.value v) w' ∨ (v = Go.undef ∧ (execOp a.eval o).run P w = .ok .skip w')) ∧ Inv C im' μ' (e.app s1) (a.put o.dst v) w'

theorem wanted_none {o : Oper} (h : o.guard = none) (y : Nat → Option Bool) : Region.wanted o y = true := by simp [Region.wanted, h]

theorem looks_operand {ops : Array Oper} {o : Oper} {t : Tmp} (h : Operand.tmp t ∈ o.op.operands.toList) : t ∈ o.looksAt ops := by
  unfold Oper.looksAt
  exact List.mem_append.2 (.inl (List.mem_filterMap.2 ⟨.tmp t, h, rfl⟩))

theorem ev_agree {ops : Array Oper} {o : Oper} {s s1 : ASt} (h : ∀ x ∈ o.looksAt ops, s1.fr x = s.fr x) : ∀ x ∈ o.op.operands.toList, s1.ev C x = s.ev C x := by
  intro x hx
  cases x with
  | tmp t => exact h t (looks_operand hx)
  | _ => rfl

/-- the same, as what the walk asks -/
def OpW (P : Program) (C : Ctx) (o : Oper) (e : Eff) (s : ASt) : Prop :=
  ∀ s1 : ASt, (∀ x ∈ o.op.operands.toList, s1.ev C x = s.ev C x) → (∀ k, (k ∈ e.rd ∨ k ∈ e.wr.map (·.1)) → s1.hp k = s.hp k) →
  ∀ a w, Rel C s1 a w → (∀ d, o.dst = some d → d < C.n) → ∀ (K : Act → World → Prop) (Q : Exit → Act → World → Prop), (∀ a' w', Rel C (e.app s1) a' w' → K a' w') → o.wpIn (fen C.rd) 0 P a w K Q

theorem OpOK.w {o : Oper} {e : Eff} {s : ASt} (h : OpOK P C o e s) : OpW P C o e s := by
  intro s1 hop hhp a w hr hlt K Q hK
  obtain ⟨im, μ, hi⟩ := hr
  obtain ⟨v, w', im', μ', hrun, hi'⟩ := h s1 hop hhp im μ a w hi hlt
  refine ⟨fun f _ => fen_fn _ f, ?_⟩
  rw [Oper.semAt_eq _ _ _ (notDefer_of_run (hrun.imp id (·.2)))]
  rcases hrun with hrun | ⟨rfl, hrun⟩
  · rw [hrun]; exact hK _ _ ⟨im', μ', hi'⟩
  · rw [hrun]; exact hK _ _ ⟨im', μ', hi'⟩

/-- an operation without a guard -/
theorem step_plain {ops : Array Oper} {i : Nat} {o : Oper} {e : Eff} {s : ASt} (ho : ops[i]? = some o) (hg : o.guard = none) (hd : e.dst = o.dst) (h : OpW P C o e s) : StepOK P C ops i s e := by
  intro o' ho' hlt
  obtain rfl : o = o' := Option.some.inj (ho.symm.trans ho')
  refine ⟨hd, fun s1 hfr hhp a w hr K Q hK => ?_⟩
  unfold wpOpIn
  simp only [ho, wanted_none hg, if_true]
  exact h s1 (ev_agree hfr) hhp a w hr hlt K Q hK

theorem yielded_of {ops : Array Oper} {j g : Nat} {b : Bool} {a : Act} {s : ASt} {w : World} {im : Nat → Prop} {μ : Mu} (hj : (ops[j]?).bind (·.dst) = some g) (hg : g < C.n) (hs : s.fr g = .d .bool b) (hi : Inv C im μ s a w) :
    yielded ops a.tmps j = some b := by
  have hv := hi.fr g
  rw [hs] at hv
  have hsz : g < a.tmps.size := by rw [hi.size]; exact hg
  have : a.tmps.getD g Go.undef = .bool b := by
    generalize a.tmps.getD g Go.undef = v at hv
    obtain ⟨h1, h2⟩ := hv
    cases v <;> simp_all [RepA, RepD, Value.cells, vIsAgg, AV.isAgg, Ty.isAgg]
  unfold yielded
  rw [hj]
  simp only [Option.bind_some]
  rw [Array.getElem?_eq_getElem hsz]
  simp only [Array.getD_eq_getD_getElem?, Array.getElem?_eq_getElem hsz, Option.getD_some] at this
  rw [this]

theorem looks_guard {ops : Array Oper} {o : Oper} {j : Nat} {want : Bool} {g : Nat} (hg : o.guard = some (j, want)) (hj : (ops[j]?).bind (·.dst) = some g) : g ∈ o.looksAt ops := by
  unfold Oper.looksAt
  refine List.mem_append.2 (.inr ?_)
  rw [hg]
  simp [hj]

/-- a guarded operation that is wanted -/
theorem step_on {ops : Array Oper} {i j g : Nat} {want : Bool} {o : Oper} {e : Eff} {s : ASt} (ho : ops[i]? = some o) (hg : o.guard = some (j, want)) (hj : (ops[j]?).bind (·.dst) = some g) (hgn : g < C.n)
    (hs : s.fr g = .d .bool want) (hd : e.dst = o.dst) (h : OpW P C o e s) : StepOK P C ops i s e := by
  intro o' ho' hlt
  obtain rfl : o = o' := Option.some.inj (ho.symm.trans ho')
  refine ⟨hd, fun s1 hfr hhp a w hr K Q hK => ?_⟩
  obtain ⟨im, μ, hi⟩ := hr
  have hy := yielded_of hj hgn ((hfr g (looks_guard hg hj)).trans hs) hi
  have hw : Region.wanted o (yielded ops a.tmps) = true := by simp [Region.wanted, hg, hy]
  unfold wpOpIn
  simp only [ho, hw, if_true]
  exact h s1 (ev_agree hfr) hhp a w ⟨im, μ, hi⟩ hlt K Q hK

/-- nothing turns but one slot -/
theorem Inv.put {im : Nat → Prop} {μ : Mu} {s : ASt} {a : Act} {w w' : World} (hi : Inv C im μ s a w) (hheap : w'.heap = w.heap) (hos : w'.os = w.os) (htape : w'.tape = w.tape) (hout : w'.output = w.output)
    {dst : Option Nat} (hd : ∀ d, dst = some d → d < C.n) {av : AV} {v : Value} (hv : RepV w im μ s.hp av v) : Inv C im μ ⟨(s.put dst av).fr, s.hp⟩ (a.put dst v) w' := by
  have hb : ∀ b : Nat, w'.heap[b]? = w.heap[b]? := fun b => by rw [hheap]
  have ev : Ev w im μ s.hp w' im μ s.hp := ⟨fun _ h => h, fun b _ => hb b, fun o ob ho => ⟨ob, ho, ObEv.refl _ _⟩⟩
  exact hi.step ev hos htape hout (by rw [hheap]; exact Nat.le_refl _) (fun b _ _ => hb b) (fun b h => .inl h) (fun b h => by rw [hheap]; exact hi.imLt b h)
    (fun o b h => ⟨(hi.sep o b h).1, by rw [hheap]; exact (hi.sep o b h).2.1, .inl ⟨o, h⟩⟩) hi.inj hi.dom (fun o ob ho => (hi.obj o ob ho).ev ev (fun b _ => hb b)) dst hd av v (hv.ev ev)

theorem eff_plain_app (dst : Option Nat) (av : AV) (rd : List Nat) (s : ASt) : (Eff.app ⟨dst, av, rd, []⟩ s) = ⟨(s.put dst av).fr, s.hp⟩ := rfl

/-- a guarded operation that is not wanted -/
theorem skip_rep {w : World} {im : Nat → Prop} {μ : Mu} {hp : Hp} : RepV w im μ hp (.tup []) Go.undef := ⟨[], rfl, by simp [RepFs]⟩

theorem step_off {ops : Array Oper} {i j g : Nat} {want : Bool} {o : Oper} {s : ASt} (ho : ops[i]? = some o) (hg : o.guard = some (j, want)) (hj : (ops[j]?).bind (·.dst) = some g) (hgn : g < C.n)
    (hs : s.fr g = .d .bool (!want)) : StepOK P C ops i s ⟨o.dst, .tup [], [], []⟩ := by
  intro o' ho' hlt
  obtain rfl : o = o' := Option.some.inj (ho.symm.trans ho')
  refine ⟨rfl, fun s1 hfr hhp a w hr K Q hK => ?_⟩
  obtain ⟨im, μ, hi⟩ := hr
  have hy := yielded_of hj hgn ((hfr g (looks_guard hg hj)).trans hs) hi
  have hw : Region.wanted o (yielded ops a.tmps) = false := by simp [Region.wanted, hg, hy]
  unfold wpOpIn
  simp only [ho, hw, Bool.false_eq_true, if_false]
  refine ⟨fun f _ => fen_fn _ f, hK _ _ ⟨im, μ, ?_⟩⟩
  rw [eff_plain_app]
  exact hi.put rfl rfl rfl rfl hlt skip_rep

/-- the guard's own operation was left out -/
theorem step_skip {ops : Array Oper} {i j g : Nat} {want : Bool} {o : Oper} {s : ASt} (ho : ops[i]? = some o) (hg : o.guard = some (j, want)) (hj : (ops[j]?).bind (·.dst) = some g) (_hgn : g < C.n)
    (hs : s.fr g = .tup []) : StepOK P C ops i s ⟨o.dst, .tup [], [], []⟩ := by
  intro o' ho' hlt
  obtain rfl : o = o' := Option.some.inj (ho.symm.trans ho')
  refine ⟨rfl, fun s1 hfr hhp a w hr K Q hK => ?_⟩
  obtain ⟨im, μ, hi⟩ := hr
  have hv := hi.fr g
  rw [(hfr g (looks_guard hg hj)).trans hs] at hv
  obtain ⟨vs, hv, hvs⟩ := hv
  simp only [RepFs] at hvs
  subst hvs
  have hy : yielded ops a.tmps j = none := by
    unfold yielded
    rw [hj]
    rw [Array.getD_eq_getD_getElem?] at hv
    simp only [Option.bind_some]
    cases ht : a.tmps[g]? with
    | none => rfl
    | some u => rw [ht] at hv; simp only [Option.getD_some] at hv; subst hv; rfl
  have hw : Region.wanted o (yielded ops a.tmps) = false := by simp [Region.wanted, hg, hy]
  unfold wpOpIn
  simp only [ho, hw, Bool.false_eq_true, if_false]
  refine ⟨fun f _ => fen_fn _ f, hK _ _ ⟨im, μ, ?_⟩⟩
  rw [eff_plain_app]
  exact hi.put rfl rfl rfl rfl hlt skip_rep

/-- THE SCHEME: an operation that leaves the heap as it is -/
theorem ok_read {o : Oper} {s : ASt} {av : AV} (rd : List Nat)
    (h : ∀ (w : World) (im : Nat → Prop) (μ : Mu) (hp : Hp) (ρ : Operand → Value), (∀ x ∈ o.op.operands.toList, RepV w im μ hp (s.ev C x) (ρ x)) →
      (∀ k, k ∈ rd → hp k = s.hp k) → (∀ k ob, hp k = some ob → RepO w im μ hp (μ k) ob) →
      ∃ v w', (execOp ρ o).run P w = .ok (.value v) w' ∧ w'.heap = w.heap ∧ w'.os = w.os ∧ w'.tape = w.tape ∧ w'.output = w.output ∧ RepV w im μ hp av v) :
    OpOK P C o ⟨o.dst, av, rd, []⟩ s := by
  intro s1 hop hhp im μ a w hi hd
  obtain ⟨v, w', hrun, h1, h2, h3, h4, hv⟩ := h w im μ s1.hp a.eval (fun x hx => by rw [← hop x hx]; exact hi.ev x) (fun k hk => hhp k (.inl hk)) hi.obj
  exact ⟨v, w', im, μ, .inl hrun, by rw [eff_plain_app]; exact hi.put h1 h2 h3 h4 hd hv⟩

/-- nothing of memory is asked, and the world stays -/
theorem ok_pure {o : Oper} {s : ASt} {av : AV}
    (h : ∀ (w : World) (im : Nat → Prop) (μ : Mu) (hp : Hp) (ρ : Operand → Value), (∀ x ∈ o.op.operands.toList, RepV w im μ hp (s.ev C x) (ρ x)) →
      ∃ v, (execOp ρ o).run P w = .ok (.value v) w ∧ RepV w im μ hp av v) :
    OpOK P C o ⟨o.dst, av, [], []⟩ s :=
  ok_read [] fun w im μ hp ρ hx _ _ => by
    obtain ⟨v, hr, hv⟩ := h w im μ hp ρ hx
    exact ⟨v, w, hr, rfl, rfl, rfl, rfl, hv⟩

/-! ### scalars -/

/-- the value that an abstract scalar is -/
def scal : AV → Option Value
  | .d (.int k) n => some (.int k n)
  | .d .bool b => some (.bool b)
  | .d .str s => some (.string ⟨s.toArray⟩)
  | .nilif => some .nilIface
  | .nilp => some (.pointer none)
  | .nilfn => some .nilFunc
  | .nils => some (.slice none 0 0)
  | _ => none

theorem scal_eq {w : World} {im : Nat → Prop} {μ : Mu} {hp : Hp} {av : AV} {u v : Value} (h : scal av = some u) (hv : RepV w im μ hp av v) : v = u := by
  unfold scal at h
  split at h <;> first
    | (cases h; obtain ⟨h1, h2⟩ := hv; cases v <;> simp_all [RepA, RepD, Value.cells, vIsAgg, AV.isAgg, Ty.isAgg]; done)
    | cases h

theorem constAV_scal {v : Value} {av : AV} (h : constAV v = av) (w : World) (im : Nat → Prop) (μ : Mu) (hp : Hp) : RepV w im μ hp av v := h ▸ constAV_rep w im μ hp v

variable {s : ASt} {dst : Option Tmp} {ty : TypeId} {pos : String} {aft : Array Edge} {gd : Option (Nat × Bool)}

theorem ok_move {x : Operand} {av : AV} (hx : s.ev C x = av) : OpOK P C ⟨dst, .move x, ty, pos, aft, gd⟩ ⟨dst, av, [], []⟩ s :=
  ok_pure fun w im μ hp ρ h => ⟨ρ x, rfl, hx ▸ h x (by simp [Op.operands])⟩
theorem ok_assign {x : Operand} {av : AV} (hx : s.ev C x = av) : OpOK P C ⟨dst, .assign x, ty, pos, aft, gd⟩ ⟨dst, av, [], []⟩ s :=
  ok_pure fun w im μ hp ρ h => ⟨ρ x, rfl, hx ▸ h x (by simp [Op.operands])⟩

theorem ok_bin {bop : BinOp} {xt yt : TypeId} {x y : Operand} {u1 u2 r : Value} {av : AV} (hx : scal (s.ev C x) = some u1) (hy : scal (s.ev C y) = some u2)
    (hr : (do eqGuard bop xt x y u1 u2; binOp bop xt u1 u2) = (pure r : Sem Value)) (hav : constAV r = av) :
    OpOK P C ⟨dst, .binOp bop xt x y yt, ty, pos, aft, gd⟩ ⟨dst, av, [], []⟩ s :=
  ok_pure fun w im μ hp ρ h => by
    have e1 := scal_eq hx (h x (by simp [Op.operands]))
    have e2 := scal_eq hy (h y (by simp [Op.operands]))
    refine ⟨r, ?_, constAV_scal hav _ _ _ _⟩
    simp only [execOp, e1, e2, hr]
    rfl

/-- quotient and remainder: not by nought -/
theorem ok_quo {k : IntKind} {xt yt : TypeId} {x y : Operand} {a b : Int} (hx : s.ev C x = .d (.int k) a) (hy : s.ev C y = .d (.int k) b) (hb : b ≠ 0) :
    OpOK P C ⟨dst, .binOp .quo xt x y yt, ty, pos, aft, gd⟩ ⟨dst, .d (.int k) (k.wrap (a.tdiv b)), [], []⟩ s :=
  ok_pure fun w im μ hp ρ h => by
    have e1 := scal_eq (u := .int k a) (by rw [hx]; rfl) (h x (by simp [Op.operands]))
    have e2 := scal_eq (u := .int k b) (by rw [hy]; rfl) (h y (by simp [Op.operands]))
    refine ⟨.int k (k.wrap (a.tdiv b)), ?_, constAV_rep _ _ _ _ (.int k (k.wrap (a.tdiv b)))⟩
    simp only [execOp, e1, e2]
    simp [eqGuard, binOp, Op.intDiv, hb]
theorem ok_rem {k : IntKind} {xt yt : TypeId} {x y : Operand} {a b : Int} (hx : s.ev C x = .d (.int k) a) (hy : s.ev C y = .d (.int k) b) (hb : b ≠ 0) :
    OpOK P C ⟨dst, .binOp .rem xt x y yt, ty, pos, aft, gd⟩ ⟨dst, .d (.int k) (a.tmod b), [], []⟩ s :=
  ok_pure fun w im μ hp ρ h => by
    have e1 := scal_eq (u := .int k a) (by rw [hx]; rfl) (h x (by simp [Op.operands]))
    have e2 := scal_eq (u := .int k b) (by rw [hy]; rfl) (h y (by simp [Op.operands]))
    refine ⟨.int k (a.tmod b), ?_, constAV_rep _ _ _ _ (.int k (a.tmod b))⟩
    simp only [execOp, e1, e2]
    simp [eqGuard, binOp, Op.intDiv, hb]

theorem ok_shift {bop : BinOp} {k yk : IntKind} {xt yt : TypeId} {x y : Operand} {a b : Int} {r : Value} {av : AV} (hx : s.ev C x = .d (.int k) a) (hy : s.ev C y = .d (.int yk) b) (hb : 0 ≤ b)
    (hop : bop = .shl ∨ bop = .shr) (hr : r = (match bop with | .shl => .int k (k.wrap (a * 2 ^ (min b.toNat k.bits))) | _ => .int k (a.fdiv (2 ^ (min b.toNat k.bits))))) (hav : constAV r = av) :
    OpOK P C ⟨dst, .binOp bop xt x y yt, ty, pos, aft, gd⟩ ⟨dst, av, [], []⟩ s :=
  ok_pure fun w im μ hp ρ h => by
    have e1 := scal_eq (u := .int k a) (by rw [hx]; rfl) (h x (by simp [Op.operands]))
    have e2 := scal_eq (u := .int yk b) (by rw [hy]; rfl) (h y (by simp [Op.operands]))
    refine ⟨r, ?_, constAV_scal hav _ _ _ _⟩
    have hb' : ¬ b < 0 := by omega
    simp only [execOp, e1, e2]
    rcases hop with rfl | rfl <;> simp [eqGuard, binOp, Op.shift, hb', hr]

theorem ok_streq {xt yt : TypeId} {x y : Operand} {a b : List UInt8} (hx : s.ev C x = .d .str a) (hy : s.ev C y = .d .str b) :
    OpOK P C ⟨dst, .binOp .eql xt x y yt, ty, pos, aft, gd⟩ ⟨dst, .d .bool (a == b), [], []⟩ s :=
  ok_pure fun w im μ hp ρ h => by
    have e1 := scal_eq (u := .string ⟨a.toArray⟩) (by rw [hx]; rfl) (h x (by simp [Op.operands]))
    have e2 := scal_eq (u := .string ⟨b.toArray⟩) (by rw [hy]; rfl) (h y (by simp [Op.operands]))
    refine ⟨.bool (a == b), ?_, ⟨by simp [RepA, RepD, Value.cells], rfl⟩⟩
    simp only [execOp, e1, e2]
    simp [eqGuard, binOp, Op.stringOp]
theorem ok_strne {xt yt : TypeId} {x y : Operand} {a b : List UInt8} (hx : s.ev C x = .d .str a) (hy : s.ev C y = .d .str b) :
    OpOK P C ⟨dst, .binOp .neq xt x y yt, ty, pos, aft, gd⟩ ⟨dst, .d .bool (!(a == b)), [], []⟩ s :=
  ok_pure fun w im μ hp ρ h => by
    have e1 := scal_eq (u := .string ⟨a.toArray⟩) (by rw [hx]; rfl) (h x (by simp [Op.operands]))
    have e2 := scal_eq (u := .string ⟨b.toArray⟩) (by rw [hy]; rfl) (h y (by simp [Op.operands]))
    refine ⟨.bool (!(a == b)), ?_, ⟨by simp [RepA, RepD, Value.cells], rfl⟩⟩
    simp only [execOp, e1, e2]
    simp [eqGuard, binOp, Op.stringOp]

theorem ok_strcat {xt yt : TypeId} {x y : Operand} {a b : List UInt8} (hx : s.ev C x = .d .str a) (hy : s.ev C y = .d .str b) (hl : a.length + b.length < 2 ^ 62) :
    OpOK P C ⟨dst, .binOp .add xt x y yt, ty, pos, aft, gd⟩ ⟨dst, .d .str (a ++ b), [], []⟩ s :=
  ok_pure fun w im μ hp ρ h => by
    have e1 := scal_eq (u := .string ⟨a.toArray⟩) (by rw [hx]; rfl) (h x (by simp [Op.operands]))
    have e2 := scal_eq (u := .string ⟨b.toArray⟩) (by rw [hy]; rfl) (h y (by simp [Op.operands]))
    refine ⟨.string ⟨(a ++ b).toArray⟩, ?_, ⟨by simp [RepA, RepD, Value.cells], rfl⟩⟩
    have hsz : (⟨a.toArray⟩ : ByteArray).size = a.length := by simp [ByteArray.size]
    have hsz' : (⟨b.toArray⟩ : ByteArray).size = b.length := by simp [ByteArray.size]
    have happ : (⟨a.toArray⟩ : ByteArray) ++ ⟨b.toArray⟩ = ⟨(a ++ b).toArray⟩ := by
      apply ByteArray.ext; simp
    simp only [execOp, e1, e2]
    have hle : ¬ ((((a.length + b.length : Nat)) : Int) > IntKind.i64.max) := by
      have : IntKind.i64.max = 9223372036854775807 := by decide
      omega
    simp only [eqGuard, binOp, Op.stringOp, happ, hsz, hsz', if_neg hle]
    rfl

theorem ok_un {uop : UnOp} {xt : TypeId} {x : Operand} {u r : Value} {av : AV} (hx : scal (s.ev C x) = some u) (hr : Op.unary uop u = (pure r : Sem Value)) (hav : constAV r = av) :
    OpOK P C ⟨dst, .unOp uop xt x, ty, pos, aft, gd⟩ ⟨dst, av, [], []⟩ s :=
  ok_pure fun w im μ hp ρ h => by
    have e1 := scal_eq hx (h x (by simp [Op.operands]))
    refine ⟨r, ?_, constAV_scal hav _ _ _ _⟩
    simp only [execOp, e1, hr]
    rfl

theorem ok_pick_true {c x y : Operand} {av : AV} (hc : s.ev C c = .d .bool true) (hx : s.ev C x = av) : OpOK P C ⟨dst, .pick c x y, ty, pos, aft, gd⟩ ⟨dst, av, [], []⟩ s :=
  ok_pure fun w im μ hp ρ h => by
    have e1 := scal_eq (u := .bool true) (by rw [hc]; rfl) (h c (by simp [Op.operands]))
    refine ⟨ρ x, ?_, hx ▸ h x (by simp [Op.operands])⟩
    simp [execOp, e1, asBool]
theorem ok_pick_false {c x y : Operand} {av : AV} (hc : s.ev C c = .d .bool false) (hx : s.ev C y = av) : OpOK P C ⟨dst, .pick c x y, ty, pos, aft, gd⟩ ⟨dst, av, [], []⟩ s :=
  ok_pure fun w im μ hp ρ h => by
    have e1 := scal_eq (u := .bool false) (by rw [hc]; rfl) (h c (by simp [Op.operands]))
    refine ⟨ρ y, ?_, hx ▸ h y (by simp [Op.operands])⟩
    simp [execOp, e1, asBool]

/-! ### conversions -/
theorem ok_conv_int {k j : IntKind} {st dt : TypeId} {x : Operand} {n : Int} {d1 : TypeDesc} (hx : s.ev C x = .d (.int k) n) (h1 : P.underlying st = some d1) (h2 : P.underlying dt = some (.int j)) :
    OpOK P C ⟨dst, .convert st dt x, ty, pos, aft, gd⟩ ⟨dst, .d (.int j) (j.wrap n), [], []⟩ s :=
  ok_pure fun w im μ hp ρ h => by
    have e1 := scal_eq (u := .int k n) (by rw [hx]; rfl) (h x (by simp [Op.operands]))
    refine ⟨.int j (j.wrap n), ?_, constAV_rep _ _ _ _ (.int j (j.wrap n))⟩
    simp only [execOp, e1, convert, Sem.run_bind, run_underlying h1, run_underlying h2, Result.andThen_ok]
    cases d1 <;> rfl
theorem ok_conv_intflt {k : IntKind} {j : FloatKind} {st dt : TypeId} {x : Operand} {n : Int} {d1 : TypeDesc} (hx : s.ev C x = .d (.int k) n) (h1 : P.underlying st = some d1) (h2 : P.underlying dt = some (.float j)) :
    OpOK P C ⟨dst, .convert st dt x, ty, pos, aft, gd⟩ ⟨dst, .d (.flt j) (canonF j (j.nearest n)), [], []⟩ s :=
  ok_pure fun w im μ hp ρ h => by
    have e1 := scal_eq (u := .int k n) (by rw [hx]; rfl) (h x (by simp [Op.operands]))
    refine ⟨.float j (j.nearest n), ?_, constAV_rep _ _ _ _ (.float j (j.nearest n))⟩
    simp only [execOp, e1, convert, Sem.run_bind, run_underlying h1, run_underlying h2, Result.andThen_ok]
    cases d1 <;> rfl

/-! ### floats -/
theorem rep_flt {w : World} {im : Nat → Prop} {μ : Mu} {hp : Hp} {k : FloatKind} {b : Nat} {v : Value} (h : RepV w im μ hp (.d (.flt k) b) v) : ∃ r, v = .float k r ∧ canonF k r = b := by
  obtain ⟨⟨r, h1, h3⟩, h2⟩ := h
  refine ⟨r, ?_, h3⟩
  cases v <;> simp_all [Value.cells, vIsAgg, AV.isAgg, Ty.isAgg]

theorem read_nanW (k : FloatKind) : (k.format.read (nanW k)).isNaN = true := by cases k <;> decide +kernel

/-- what the formats' operations see of a word is the same for all NaNs -/
theorem canonF_cases (k : FloatKind) (r : Nat) : (canonF k r = r) ∨ ((k.format.read r).isNaN = true ∧ (k.format.read (canonF k r)).isNaN = true) := by
  unfold canonF fNaN
  by_cases h : (k.format.read r).isNaN = true
  · rw [if_pos h]; exact .inr ⟨h, read_nanW k⟩
  · rw [if_neg h]; exact .inl rfl

theorem sum_nan_l {x y : Ieee.Datum} (h : x.isNaN = true) : x.sum y = none := by cases x <;> simp_all [Ieee.Datum.isNaN, Ieee.Datum.sum]
theorem sum_nan_r {x y : Ieee.Datum} (h : y.isNaN = true) : x.sum y = none := by cases x <;> cases y <;> simp_all [Ieee.Datum.isNaN, Ieee.Datum.sum]
theorem product_nan_l {x y : Ieee.Datum} (h : x.isNaN = true) : x.product y = none := by cases x <;> simp_all [Ieee.Datum.isNaN, Ieee.Datum.product]
theorem product_nan_r {x y : Ieee.Datum} (h : y.isNaN = true) : x.product y = none := by cases x <;> cases y <;> simp_all [Ieee.Datum.isNaN, Ieee.Datum.product]
theorem quotient_nan_l {d : Nat} {x y : Ieee.Datum} (h : x.isNaN = true) : x.quotient d y = none := by cases x <;> simp_all [Ieee.Datum.isNaN, Ieee.Datum.quotient]
theorem quotient_nan_r {d : Nat} {x y : Ieee.Datum} (h : y.isNaN = true) : x.quotient d y = none := by cases x <;> cases y <;> simp_all [Ieee.Datum.isNaN, Ieee.Datum.quotient]
theorem order_nan_l {x y : Ieee.Datum} (h : x.isNaN = true) : x.order y = none := by cases x <;> simp_all [Ieee.Datum.isNaN, Ieee.Datum.order]
theorem order_nan_r {x y : Ieee.Datum} (h : y.isNaN = true) : x.order y = none := by cases x <;> cases y <;> simp_all [Ieee.Datum.isNaN, Ieee.Datum.order]
theorem opposite_nan {x : Ieee.Datum} : x.opposite.isNaN = x.isNaN := by cases x <;> rfl

/-- a function of two data that is none where one is a NaN -/
theorem canon2 {α : Type} (k : FloatKind) (f : Ieee.Datum → Ieee.Datum → Option α) (hl : ∀ x y, x.isNaN = true → f x y = none) (hr : ∀ x y, y.isNaN = true → f x y = none) (x y : Nat) :
    f (k.format.read x) (k.format.read y) = f (k.format.read (canonF k x)) (k.format.read (canonF k y)) := by
  rcases canonF_cases k x with hx | ⟨hx, hx'⟩
  · rcases canonF_cases k y with hy | ⟨hy, hy'⟩
    · rw [hx, hy]
    · rw [hr _ _ hy, hr _ _ hy']
  · rw [hl _ _ hx, hl _ _ hx']

def fbin (op : BinOp) (k : FloatKind) (x y : Nat) : Option Nat :=
  match op with
  | .add => k.format.add x y
  | .sub => k.format.sub x y
  | .mul => k.format.mul x y
  | .quo => k.format.div x y
  | _ => none

theorem fbin_canon (op : BinOp) (k : FloatKind) (x y : Nat) : fbin op k x y = fbin op k (canonF k x) (canonF k y) := by
  cases op <;> simp only [fbin, Ieee.Format.add, Ieee.Format.sub, Ieee.Format.mul, Ieee.Format.div]
  · exact congrArg (Option.map _) (canon2 k (fun a b => a.sum b) (fun _ _ h => sum_nan_l h) (fun _ _ h => sum_nan_r h) x y)
  · exact congrArg (Option.map _) (canon2 k (fun a b => a.sum b.opposite) (fun _ _ h => sum_nan_l h) (fun _ _ h => sum_nan_r (opposite_nan.trans h)) x y)
  · exact congrArg (Option.map _) (canon2 k (fun a b => a.product b) (fun _ _ h => product_nan_l h) (fun _ _ h => product_nan_r h) x y)
  · exact congrArg (Option.map _) (canon2 k (fun a b => a.quotient _ b) (fun _ _ h => quotient_nan_l h) (fun _ _ h => quotient_nan_r h) x y)

theorem order_canon (k : FloatKind) (x y : Nat) : k.format.order x y = k.format.order (canonF k x) (canonF k y) :=
  canon2 k (fun a b => a.order b) (fun _ _ h => order_nan_l h) (fun _ _ h => order_nan_r h) x y

/-- the four operations on floats, a NaN being the one -/
def fop (op : BinOp) (k : FloatKind) (x y : Nat) : Nat :=
  match fbin op k x y with
  | some r => canonF k r
  | none => nanW k

theorem nan_cut (k : FloatKind) (x y t : Nat) : canonF k ((Question.nanBits k x y).cut t) = nanW k := by
  unfold canonF
  rw [if_pos]
  unfold fNaN
  cases k with
  | f32 =>
    have h : ∀ a b, a < 2 → b < 2 ^ 23 - 1 → (Ieee.single.read (a * 2 ^ 31 + 0x7f800000 + 1 + b)).isNaN = true := by
      intro a b ha hb
      have hw : Ieee.single.signWeight = 2147483648 := by decide
      have hbi : Ieee.single.binade = 8388608 := by decide
      have hi : Ieee.single.infRung = 2139095040 := by decide
      unfold Ieee.Format.read
      simp only [hw, hbi, hi]
      have e : (a * 2 ^ 31 + 0x7f800000 + 1 + b) % 2147483648 = 0x7f800000 + 1 + b := by omega
      rw [e, if_neg (by omega), if_neg (by omega), if_neg (by omega)]; rfl
    exact h _ _ (Nat.mod_lt _ (by decide)) (Nat.mod_lt _ (by decide))
  | f64 =>
    have h : ∀ a b, a < 2 → b < 2 ^ 52 - 1 → (Ieee.double.read (a * 2 ^ 63 + 0x7ff0000000000000 + 1 + b)).isNaN = true := by
      intro a b ha hb
      have hw : Ieee.double.signWeight = 9223372036854775808 := by decide
      have hbi : Ieee.double.binade = 4503599627370496 := by decide
      have hi : Ieee.double.infRung = 9218868437227405312 := by decide
      unfold Ieee.Format.read
      simp only [hw, hbi, hi]
      have e : (a * 2 ^ 63 + 0x7ff0000000000000 + 1 + b) % 9223372036854775808 = 0x7ff0000000000000 + 1 + b := by omega
      rw [e, if_neg (by omega), if_neg (by omega), if_neg (by omega)]; rfl
    exact h _ _ (Nat.mod_lt _ (by decide)) (Nat.mod_lt _ (by decide))

theorem ok_fop {bop : BinOp} {k : FloatKind} {xt yt : TypeId} {x y : Operand} {a b : Nat} (hop : bop = .add ∨ bop = .sub ∨ bop = .mul ∨ bop = .quo) (hx : s.ev C x = .d (.flt k) a) (hy : s.ev C y = .d (.flt k) b) :
    OpOK P C ⟨dst, .binOp bop xt x y yt, ty, pos, aft, gd⟩ ⟨dst, .d (.flt k) (fop bop k a b), [], []⟩ s :=
  ok_read [] fun w im μ hp ρ h _ _ => by
    obtain ⟨r1, e1, c1⟩ := rep_flt (hx ▸ h x (by simp [Op.operands]))
    obtain ⟨r2, e2, c2⟩ := rep_flt (hy ▸ h y (by simp [Op.operands]))
    have hc := fbin_canon bop k r1 r2
    rw [c1, c2] at hc
    have hrun : (execOp ρ ⟨dst, .binOp bop xt x y yt, ty, pos, aft, gd⟩).run P w = (match fbin bop k r1 r2 with
        | some r => .ok (.value (.float k r)) w
        | none => .ok (.value (.float k ((Question.nanBits k r1 r2).cut (w.tape w.drawn (.nanBits k r1 r2))))) { w with drawn := w.drawn + 1 }) := by
      rcases hop with rfl | rfl | rfl | rfl <;> simp only [execOp, e1, e2, eqGuard, binOp, Op.floatArith, fbin] <;> simp <;> split <;> simp_all [Question.forced]
    rw [hc] at hrun
    unfold fop
    cases hf : fbin bop k a b with
    | some r =>
      rw [hf] at hrun
      exact ⟨_, _, hrun, rfl, rfl, rfl, rfl, ⟨by simp only [RepA, RepD, Value.cells]; exact ⟨r, rfl, rfl⟩, rfl⟩⟩
    | none =>
      rw [hf] at hrun
      exact ⟨_, _, hrun, rfl, rfl, rfl, rfl, ⟨by simp only [RepA, RepD, Value.cells]; exact ⟨_, rfl, nan_cut k _ _ _⟩, rfl⟩⟩

theorem ok_fcmp {bop : BinOp} {k : FloatKind} {xt yt : TypeId} {x y : Operand} {a b : Nat} {r : Value} {av : AV} (hop : bop = .eql ∨ bop = .neq ∨ bop = .lss ∨ bop = .leq ∨ bop = .gtr ∨ bop = .geq)
    (hx : s.ev C x = .d (.flt k) a) (hy : s.ev C y = .d (.flt k) b) (hr : Op.floatCmp bop k a b = (pure r : Sem Value)) (hav : constAV r = av) :
    OpOK P C ⟨dst, .binOp bop xt x y yt, ty, pos, aft, gd⟩ ⟨dst, av, [], []⟩ s :=
  ok_pure fun w im μ hp ρ h => by
    obtain ⟨r1, e1, c1⟩ := rep_flt (hx ▸ h x (by simp [Op.operands]))
    obtain ⟨r2, e2, c2⟩ := rep_flt (hy ▸ h y (by simp [Op.operands]))
    refine ⟨r, ?_, constAV_scal hav _ _ _ _⟩
    have hc : Op.floatCmp bop k r1 r2 = Op.floatCmp bop k a b := by
      unfold Op.floatCmp
      rw [order_canon k r1 r2, c1, c2]
    have hb : binOp bop xt (.float k r1) (.float k r2) = Op.floatCmp bop k r1 r2 := by
      rcases hop with rfl | rfl | rfl | rfl | rfl | rfl <;> simp [binOp]
    have hg : eqGuard bop xt x y (.float k r1) (.float k r2) = (pure () : Sem Unit) := by
      unfold eqGuard; rcases hop with rfl | rfl | rfl | rfl | rfl | rfl <;> rfl
    simp only [execOp, e1, e2, hb, hc, hr, hg]
    rfl

end
end Go.Vm
