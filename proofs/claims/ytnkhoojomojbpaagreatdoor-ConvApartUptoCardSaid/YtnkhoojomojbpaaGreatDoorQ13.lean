/- Part L of the abstract machine: the pure side; more operations. -/
import Derived.Test.YtnkhoojomojbpaaGreatDoorQ12
namespace Go.Vm
inductive Stp (S E : Type) where
 | next (s : S)
 | done (e : E)
def sX {S E : Type} (body : S -> Option (Stp S E)) : Nat -> S -> Option E
 | 0, _ => none
 | n + 1, s =>
  match body s with
  | none => none
  | some (.next s') => sX body n s'
  | some (.done e) => some e
def fu : Nat := 18446744073709551616
def idx {α : Type} (xs : List α) (i : Int) : Option α := if 0 <= i then xs[i.toNat]? else none
def cut {α : Type} (xs : List α) (l h : Int) : Option (List α) := if 0 <= l /\ l <= h /\ h <= xs.length then some ((xs.take h.toNat).drop l.toNat) else none
def app {α : Type} (xs ys : List α) : Option (List α) := if xs.length + ys.length <= lim then some (xs ++ ys) else none
def quo (k : IntKind) (a b : Int) : Option Int := if b = 0 then none else some (k.wrap (a.tdiv b))
def rem (a b : Int) : Option Int := if b = 0 then none else some (a.tmod b)
def DH (a b : aj) : Option (aj) := if a.length + b.length < 4611686018427387904 then some (a ++ b) else none
def mk {α : Type} (n : Int) (z : α) : Option (List α) := if 0 <= n /\ n <= lim then some (List.replicate n.toNat z) else none
theorem aS {α β : Type} {m : Option α} {f : α -> Option β} {r : β} (h : m.bind f = some r) : ∃ x, m = some x /\ f x = some r := by
 cases m with
 | none => cases h
 | some x => exact ⟨x, rfl, h⟩
theorem gC {α : Type} {xs : List α} {i : Int} {x : α} (h : idx xs i = some x) : 0 <= i /\ xs[i.toNat]? = some x := by
 unfold idx at h
 by_cases h0 : 0 <= i
 ·rw [if_pos h0] at h; exact ⟨h0, h⟩
 ·rw [if_neg h0] at h; cases h
theorem sY {α : Type} {xs ys zs : List α} (h : app xs ys = some zs) : xs.length + ys.length <= lim /\ xs ++ ys = zs := by
 unfold app at h
 by_cases h0 : xs.length + ys.length <= lim
 ·rw [if_pos h0] at h; exact ⟨h0, Option.some.inj h⟩
 ·rw [if_neg h0] at h; cases h
theorem Ai {k : IntKind} {a b z : Int} (h : quo k a b = some z) : b ≠ 0 /\ k.wrap (a.tdiv b) = z := by
 unfold quo at h
 by_cases h0 : b = 0
 ·rw [if_pos h0] at h; cases h
 ·rw [if_neg h0] at h; exact ⟨h0, Option.some.inj h⟩
theorem Aj {a b z : Int} (h : rem a b = some z) : b ≠ 0 /\ a.tmod b = z := by
 unfold rem at h
 by_cases h0 : b = 0
 ·rw [if_pos h0] at h; cases h
 ·rw [if_neg h0] at h; exact ⟨h0, Option.some.inj h⟩
theorem mu {α : Type} {xs zs : List α} {l h : Int} (hc : cut xs l h = some zs) : 0 <= l /\ l.toNat <= h.toNat /\ 0 <= h /\ h.toNat <= xs.length /\ (xs.take h.toNat).drop l.toNat = zs := by
 unfold cut at hc
 by_cases h0 : 0 <= l /\ l <= h /\ h <= xs.length
 ·rw [if_pos h0] at hc
  exact ⟨h0.1, by omega, by omega, by omega, Option.some.inj hc⟩
 ·rw [if_neg h0] at hc; cases hc
theorem qT {a b z : aj} (h : DH a b = some z) : a.length + b.length < 2 ^ 62 /\ a ++ b = z := by
 unfold DH at h
 by_cases h0 : a.length + b.length < 4611686018427387904
 ·rw [if_pos h0] at h; exact ⟨by omega, Option.some.inj h⟩
 ·rw [if_neg h0] at h; cases h
theorem Qa {α : Type} {n : Int} {z : α} {l : List α} (h : mk n z = some l) : 0 <= n /\ n <= lim /\ List.replicate n.toNat z = l := by
 unfold mk at h
 by_cases h0 : 0 <= n /\ n <= lim
 ·rw [if_pos h0] at h; exact ⟨h0.1, h0.2, Option.some.inj h⟩
 ·rw [if_neg h0] at h; cases h
def Ak (l : aj) (n : Int) : Option Int := if 0 <= n then (l[n.toNat]?).map (fun z => (z.toNat : Int)) else none
theorem HR {l : aj} {n z : Int} (h : Ak l n = some z) : 0 <= n /\ ∃ b, l[n.toNat]? = some b /\ (b.toNat : Int) = z := by
 unfold Ak at h
 by_cases h0 : 0 <= n
 ·rw [if_pos h0] at h
  obtain ⟨b, hb, rfl⟩ := Option.map_eq_some_iff.1 h
  exact ⟨h0, b, hb, rfl⟩
 ·rw [if_neg h0] at h; cases h
def shl (k : IntKind) (a b : Int) : Option Int := if 0 <= b then some (k.wrap (a * 2 ^ (min b.toNat k.bits))) else none
def shr (k : IntKind) (a b : Int) : Option Int := if 0 <= b then some (a.fdiv (2 ^ (min b.toNat k.bits))) else none
def Xt (P : Program) (t : TypeId) : Prop := ∃ d, P.underlying t = some d /\ (match d with | .interface _ => false | _ => true) = true
section
variable {P : Program} {C : Ctx} {s : ASt}
variable {dst : Option Tmp} {ty : TypeId} {pos : String} {cc : Array Edge} {gd : Option (Nat × Bool)}
theorem bL.cast {o : Oper} {d : Option Tmp} {a b : AV} {rd : List Nat} {wr : List (Nat × al)} (h : bL P C o ⟨d, a, rd, wr⟩ s) (e : a = b) : bL P C o ⟨d, b, rd, wr⟩ s := e ▸ h
theorem Inv.grown {im : Nat -> Prop} {μ : Mu} {a : Act} {w w' : World} (hi : Inv C im μ s a w) (h1 : w'.os = w.os) (h2 : w'.tape = w.tape) (h3 : w'.output = w.output) (h4 : w.heap.size <= w'.heap.size) (h5 : ∀ b, b < w.heap.size -> w'.heap[b]? = w.heap[b]?)
  {d : Option Nat} (hd : ∀ x, d = some x -> x < C.n) {av : AV} {v : Value} (hv : bC w' im μ s.hp av v) : Inv C im μ ⟨(s.put d av).fr, s.hp⟩ (a.put d v) w' := by
 have ev : Ev w im μ s.hp w' im μ s.hp := ⟨fun _ h => h, fun b h => h5 b (hi.imLt b h), fun o ob ho => ⟨ob, ho, cZ.refl _ _⟩⟩
 exact hi.step ev h1 h2 h3 h4 (fun b h _ => h5 b h) (fun b h => .inl h) (fun b h => Nat.lt_of_lt_of_le (hi.imLt b h) h4) (fun o b h => ⟨(hi.sep o b h).1, Nat.lt_of_lt_of_le (hi.sep o b h).2.1 h4, .inl ⟨o, h⟩⟩) hi.inj hi.dom
  (fun o ob ho => (hi.obj o ob ho).ev ev (fun b h => h5 b (hi.sep o b h).2.1)) d hd av v hv
theorem wk {w : World} {im : Nat -> Prop} {μ : Mu} {hp : Hp} {ρ : Operand -> Value} : ∀ (l : List Operand), (∀ x ∈ l, bC w im μ hp (s.ev C x) (ρ x)) -> (∀ x ∈ l, (s.ev C x).plain = true) -> RepFs w im μ hp (l.map (s.ev C)) (l.map ρ)
 | [], _, _ => by simp [RepFs]
 | x :: l, h, hp => by
  simp only [List.map_cons, RepFs]
  obtain ⟨h1, h2⟩ := (h x (by simp)).toA (hp x (by simp))
  exact ⟨_, _, rfl, h1, h2, wk l (fun y hy => h y (by simp [hy])) (fun y hy => hp y (by simp [hy]))⟩
theorem Al {f : Fn} {cap : Array Operand} {caps : List AV} (hc : cap.toList.map (s.ev C) = caps) (hp : ∀ a ∈ caps, a.plain = true) : bL P C ⟨dst, .makeFunc f #[] cap, ty, pos, cc, gd⟩ ⟨dst, .fn f [] caps, [], []⟩ s :=
 aY fun w im μ bq ρ h => by
  subst hc
  refine ⟨.func f #[] (cap.map ρ), ?_, ⟨?_, rfl⟩⟩
  ·simp [execOp, Instr.makeFunc]
  ·simp only [RepA, RepFs, Value.cells]
   refine ⟨[], cap.toList.map ρ, by congr 2; apply Array.ext'; simp, rfl, wk _ (fun x hx => h x (by simpa [Op.operands] using hx)) (fun x hx => hp _ (List.mem_map.2 ⟨x, hx, rfl⟩))⟩
theorem sZ {x : Operand} {o : Nat} {p : List Nat} {off : Nat} (hx : s.ev C x = .op o p off) : bL P C ⟨dst, .nilCheck x, ty, pos, cc, gd⟩ ⟨dst, .op o p off, [], []⟩ s :=
 aY fun w im μ hp ρ h => by
  have hr := hx ▸ h x (by simp [Op.operands])
  obtain ⟨b, u, h1, h2, hv⟩ := qg hr
  exact ⟨ρ x, by simp [execOp, hv], hr⟩
theorem Xu {x y : Operand} {ts : Array TypeId} {k k2 : IntKind} {a b : Int} (hx : s.ev C x = .d (.int k) a) (hy : s.ev C y = .d (.int k2) b) : bL P C ⟨dst, .call ⟨.builtin .max, #[x, y], ts⟩, ty, pos, cc, gd⟩ ⟨dst, .d (.int k) (if b > a then b else a), [], []⟩ s :=
 aY fun w im μ hp ρ h => by
  have e1 := fa (hx ▸ h x (by simp [Op.operands, Call.operands]))
  have e2 := fa (hy ▸ h y (by simp [Op.operands, Call.operands]))
  refine ⟨.int k (if b > a then b else a), ?_, aN _ _ _ _ (.int k (if b > a then b else a))⟩
  simp [execOp, resolve, invoke, builtin, e1, e2, Builtin.max_, Builtin.max2]
theorem Xv {x y : Operand} {ts : Array TypeId} {k k2 : IntKind} {a b : Int} (hx : s.ev C x = .d (.int k) a) (hy : s.ev C y = .d (.int k2) b) : bL P C ⟨dst, .call ⟨.builtin .min, #[x, y], ts⟩, ty, pos, cc, gd⟩ ⟨dst, .d (.int k) (if b < a then b else a), [], []⟩ s :=
 aY fun w im μ hp ρ h => by
  have e1 := fa (hx ▸ h x (by simp [Op.operands, Call.operands]))
  have e2 := fa (hy ▸ h y (by simp [Op.operands, Call.operands]))
  refine ⟨.int k (if b < a then b else a), ?_, aN _ _ _ _ (.int k (if b < a then b else a))⟩
  simp [execOp, resolve, invoke, builtin, e1, e2, Builtin.min_, Builtin.min2]
theorem xO {x y : Operand} {t : TypeId} {l : aj} {k : IntKind} {n : Int} {z : UInt8} (hx : s.ev C x = .d .str l) (hy : s.ev C y = .d (.int k) n) (ht : P.underlying t = some .string) (h0 : 0 <= n) (hz : l[n.toNat]? = some z) :
  bL P C ⟨dst, .index t x y, ty, pos, cc, gd⟩ ⟨dst, .d (.int .u8) (z.toNat : Int), [], []⟩ s :=
 aY fun w im μ hp ρ h => by
  have e1 := bH (u := .string ⟨l.toArray⟩) (by rw [hx]; rfl) (h x (by simp [Op.operands]))
  have e2 := fa (hy ▸ h y (by simp [Op.operands]))
  refine ⟨.int .u8 z.toNat, ?_, aN _ _ _ _ (.int .u8 z.toNat)⟩
  obtain ⟨cn, PX⟩ := List.getElem?_eq_some_iff.1 hz
  have hb : (⟨l.toArray⟩ : ByteArray)[n.toNat]? = some z := by
   have gk : n.toNat < (⟨l.toArray⟩ : ByteArray).size := by simpa [ByteArray.size] using cn
   rw [getElem?_pos (⟨l.toArray⟩ : ByteArray) n.toNat gk]
   exact congrArg some PX
  simp [execOp, e1, e2, Instr.index, asIntOf, run_underlying ht, h0, hb]
theorem xP {t : TypeId} {x : Operand} {v : AV} (hx : s.ev C x = v) (hv : v.plain = true) (ht : Xt P t) : bL P C ⟨dst, .makeInterface t x, ty, pos, cc, gd⟩ ⟨dst, .iface t v, [], []⟩ s :=
 aY fun w im μ hp ρ h => by
  obtain ⟨d, hd, PI⟩ := ht
  have hr := (hx ▸ h x (by simp [Op.operands])).toA hv
  refine ⟨.iface t (ρ x), ?_, ⟨?_, rfl⟩⟩
  ·simp only [execOp, Instr.makeInterface, Sem.run_bind, run_underlying hd, Result.andThen_ok]
   cases d <;> first | rfl | simp at PI
  ·simp only [RepA, Value.cells]; exact ⟨ρ x, rfl, hr.1, hr.2⟩
theorem s7 {x : Operand} {τ : Ty} {y : τ.den} (hx : s.ev C x = .ip τ y) : bL P C ⟨dst, .nilCheck x, ty, pos, cc, gd⟩ ⟨dst, .ip τ y, [], []⟩ s :=
 aY fun w im μ hp ρ h => by
  have hr := hx ▸ h x (by simp [Op.operands])
  have hr2 := hr
  obtain ⟨h1, h2⟩ := hr
  simp only [RepA] at h1
  obtain ⟨b, off, hc, _⟩ := h1
  have hv : ρ x = .pointer (some ⟨b, off, none⟩) := by
   generalize ρ x = v at hc h2
   cases v <;> simp_all [Value.cells, bh, AV.isAgg]
  exact ⟨ρ x, by simp [execOp, hv], hr2⟩
theorem Qb {k : IntKind} {xt yt : TypeId} {x y : Operand} {a b z : Int} (hx : s.ev C x = .d (.int k) a) (hy : s.ev C y = .d (.int k) b) (h : quo k a b = some z) :
  bL P C ⟨dst, .binOp .quo xt x y yt, ty, pos, cc, gd⟩ ⟨dst, .d (.int k) z, [], []⟩ s := (Xl hx hy (Ai h).1).cast (by rw [(Ai h).2])
theorem Qc {k : IntKind} {xt yt : TypeId} {x y : Operand} {a b z : Int} (hx : s.ev C x = .d (.int k) a) (hy : s.ev C y = .d (.int k) b) (h : rem a b = some z) :
  bL P C ⟨dst, .binOp .rem xt x y yt, ty, pos, cc, gd⟩ ⟨dst, .d (.int k) z, [], []⟩ s := (Xm hx hy (Aj h).1).cast (by rw [(Aj h).2])
theorem Qd {k yk : IntKind} {xt yt : TypeId} {x y : Operand} {a b z : Int} (hx : s.ev C x = .d (.int k) a) (hy : s.ev C y = .d (.int yk) b) (h : shl k a b = some z) :
  bL P C ⟨dst, .binOp .shl xt x y yt, ty, pos, cc, gd⟩ ⟨dst, .d (.int k) z, [], []⟩ s := by
 unfold shl at h
 by_cases h0 : 0 <= b
 ·rw [if_pos h0] at h; cases h; exact zX hx hy h0 (.inl rfl) rfl rfl
 ·rw [if_neg h0] at h; cases h
theorem Qe {k yk : IntKind} {xt yt : TypeId} {x y : Operand} {a b z : Int} (hx : s.ev C x = .d (.int k) a) (hy : s.ev C y = .d (.int yk) b) (h : shr k a b = some z) :
  bL P C ⟨dst, .binOp .shr xt x y yt, ty, pos, cc, gd⟩ ⟨dst, .d (.int k) z, [], []⟩ s := by
 unfold shr at h
 by_cases h0 : 0 <= b
 ·rw [if_pos h0] at h; cases h; exact zX hx hy h0 (.inr rfl) rfl rfl
 ·rw [if_neg h0] at h; cases h
theorem s8 {w : World} {im : Nat -> Prop} {μ : Mu} {hp : Hp} {t : TypeId} {k : IntKind} {n : Int} {v : Value} (h : bC w im μ hp (.iface t (.d (.int k) n)) v) : v = .iface t (.int k n) := by
 obtain ⟨hr, cY⟩ := h
 simp only [RepA] at hr
 obtain ⟨u, hc, hu, hu2⟩ := hr
 have hu3 : u = .int k n := by
  simp only [aM] at hu
  cases u <;> simp_all [Value.cells, bh, AV.isAgg, Ty.isAgg]
 subst hu3
 cases v <;> simp_all [Value.cells, bh, AV.isAgg]
theorem Qf {x : Operand} {xt yt t : TypeId} {k : IntKind} {n : Int} (hx : s.ev C x = .iface t (.d (.int k) n)) (ht : ∃ m, P.underlying xt = some (.interface m)) :
  bL P C ⟨dst, .binOp .neq xt x (.const .nilIface) yt, ty, pos, cc, gd⟩ ⟨dst, .d .bool true, [], []⟩ s :=
 aY fun w im μ hp ρ h => by
  obtain ⟨m, ht⟩ := ht
  have e1 := s8 (hx ▸ h x (by simp [Op.operands]))
  have e2 : ρ (.const .nilIface) = .nilIface := bH (u := .nilIface) rfl (h (.const .nilIface) (by simp [Op.operands]))
  have he : (Op.equal xt (.iface t (.int k n)) .nilIface).run P w = .ok false w := by
   show (Op.equalIn (9999 + 1) xt _ _).run P w = _
   rw [Op.equalIn.eq_2]
   simp only [Sem.run_bind, run_underlying ht, Result.andThen_ok]
   rfl
  have hb : binOp .neq xt (.iface t (.int k n)) .nilIface = (do pure (.bool (!(← Op.equal xt (.iface t (.int k n)) .nilIface)))) := rfl
  have hg : eqGuard .neq xt x (.const .nilIface) (.iface t (.int k n)) .nilIface = pure () := rfl
  refine ⟨.bool true, ?_, aN _ _ _ _ (.bool true)⟩
  simp only [execOp, e1, e2, hg, hb]
  simp [he]
theorem Am {x : Operand} {xt yt : TypeId} (hx : s.ev C x = .nilif) (ht : ∃ m, P.underlying xt = some (.interface m)) :
  bL P C ⟨dst, .binOp .neq xt x (.const .nilIface) yt, ty, pos, cc, gd⟩ ⟨dst, .d .bool false, [], []⟩ s :=
 aY fun w im μ hp ρ h => by
  obtain ⟨m, ht⟩ := ht
  have e1 : ρ x = .nilIface := bH (u := .nilIface) (by rw [hx]; rfl) (h x (by simp [Op.operands]))
  have e2 : ρ (.const .nilIface) = .nilIface := bH (u := .nilIface) rfl (h (.const .nilIface) (by simp [Op.operands]))
  have he : (Op.equal xt .nilIface .nilIface).run P w = .ok true w := by
   show (Op.equalIn (9999 + 1) xt _ _).run P w = _
   rw [Op.equalIn.eq_2]
   simp only [Sem.run_bind, run_underlying ht, Result.andThen_ok]
   rfl
  have hb : binOp .neq xt .nilIface .nilIface = (do pure (.bool (!(← Op.equal xt .nilIface .nilIface)))) := rfl
  have hg : eqGuard .neq xt x (.const .nilIface) .nilIface .nilIface = pure () := by simp [eqGuard]
  refine ⟨.bool false, ?_, aN _ _ _ _ (.bool false)⟩
  simp only [execOp, e1, e2, hg, hb]
  simp [he]
theorem vy {x : Operand} {xt t : TypeId} {k : IntKind} {n : Int} (hx : s.ev C x = .iface t (.d (.int k) n)) (ht : Xt P t) :
  bL P C ⟨dst, .typeAssert x xt t true, ty, pos, cc, gd⟩ ⟨dst, .tup [.d (.int k) n, .d .bool true], [], []⟩ s :=
 aY fun w im μ hp ρ h => by
  obtain ⟨d, hd, PI⟩ := ht
  have e1 := s8 (hx ▸ h x (by simp [Op.operands]))
  refine ⟨.tuple #[.int k n, .bool true], ?_, ⟨[.int k n, .bool true], rfl, ?_⟩⟩
  ·simp only [execOp, e1, Instr.typeAssert, Sem.run_bind, run_underlying hd, Result.andThen_ok]
   cases d <;> first | (exact Bool.noConfusion PI) | (dsimp only; rw [if_pos rfl]; rfl)
  ·simp only [RepFs, RepA, aM]
   exact ⟨_, _, rfl, rfl, rfl, _, _, rfl, rfl, rfl, rfl⟩
theorem Qg {t T : TypeId} {e : Ty} (ht : ElT P t T e) : bL P C ⟨dst, .buildSlice t 0 #[], ty, pos, cc, gd⟩ ⟨dst, .emp, [], []⟩ s := by
 intro s1 fX gm im μ a w hi hd
 obtain ⟨i, z, iT, ma, xq, hz1, JZ⟩ := ht.info
 refine ⟨.slice (some ⟨w.heap.size, 0, none⟩) 0 0, _, im, μ, .inl ?_, by
  rw [iA]
  exact hi.grown (w' := w.alloc (.cells #[] T)) rfl rfl rfl (by simp) (fun b h => heap_alloc_old w _ h) hd ⟨⟨_, rfl⟩, rfl⟩⟩
 have hempty : ∀ f : Nat -> Value, (Array.range 0).map f = #[] := fun f => Array.eq_empty_of_size_eq_zero (by simp)
 simp [execOp, Instr.buildSlice, Sem.run_bind, run_underlying ht.und, Result.andThen_ok, sizeOf, typeInfo, run_program, iT, Sem.run_pure, Instr.fill, jG, hempty]
def StT (P : Program) (t : TypeId) (places : List (Nat × Nat)) : Prop := ∃ fs : Array Field, P.underlying t = some (.struct fs) /\ fs.toList.length = places.length /\ ∀ (i : Nat) (f : Field) (p : Nat × Nat), fs.toList[i]? = some f -> places[i]? = some p -> f.offset = p.1 /\ ∃ inf, P.info? f.type = some inf /\ inf.size = p.2
inductive qi (C : Ctx) (s : ASt) (places : List (Nat × Nat)) : List (Nat × Operand) -> AV -> AV -> Prop
 | nil {v : AV} : qi C s places [] v v
 | cons {i off off' sz : Nat} {x : Operand} {u v v' v'' : AV} {l : List (Nat × Operand)} : s.ev C x = u -> u.plain = true -> places[i]? = some (off, sz) -> u.asize = sz -> jE v [i] off' u v' -> off' = off -> qi C s places l v' v'' -> qi C s places ((i, x) :: l) v v''
theorem s9 {w : World} {im : Nat -> Prop} {μ : Mu} {hp : Hp} {places : List (Nat × Nat)} {place : Nat -> Option (Nat × Nat)} {ρ : Operand -> Value} (eQ : ∀ i p, places[i]? = some p -> place i = some p) : ∀ {l : List (Nat × Operand)} {v v' : AV}, qi C s places l v v' ->
  (∀ p ∈ l, bC w im μ hp (s.ev C p.2) (ρ p.2)) -> ∀ cells : Array Value, RepA w im μ hp v cells.toList -> ∃ out, Instr.fill place cells (l.map fun p => (p.1, ρ p.2)) = some out /\ RepA w im μ hp v' out.toList
 | _, _, _, .nil, _, cells, hc => ⟨cells, rfl, hc⟩
 | _, _, _, .cons (i := i) (x := x) hx hup hplc gk hset ho h, hr, cells, hc => by
  subst ho
  obtain ⟨PW, hua⟩ := (hx ▸ hr (i, x) (by simp)).toA hup
  have hul := RepA.length _ _ PW
  obtain ⟨c1, c2, c3, qb, Df, lA, hnew⟩ := hset.sound _ hc _ PW
  have hlen : cells.size = c1.length + (c2.length + c3.length) := by rw [← Array.length_toList, qb]; simp
  simp only [List.map_cons]
  rw [we (eQ _ _ hplc) (by rw [hul]; exact gk) (by omega)]
  have e2 : cells.toList.drop (c1.length + c2.length) = c3 := by rw [qb, ← List.drop_drop, List.drop_left, List.drop_left]
  have hsz2 : c2.length = _ := lA.trans (hul.trans gk)
  refine s9 eQ h (fun p hp => hr p (by simp [hp])) _ ?_
  rw [← Df, ← hsz2, e2]
  have e3 : cells.toList.take c1.length = c1 := by rw [qb, List.take_left]
  rw [e3]
  simpa using hnew
def tc : Ty -> Bool
 | .slice _ => true
 | .pair a b => tc a || tc b
 | _ => false
def oY : Ty -> AV
 | .slice _ => .nils
 | .pair a b => bif tc a || tc b then .pr (oY a) (oY b) else .d (.pair a b) (kQ (.pair a b))
 | τ => .d τ (kQ τ)
theorem wm (w : World) (im : Nat -> Prop) (μ : Mu) (hp : Hp) (τ : Ty) : RepA w im μ hp (oY τ) (fv τ) := by
 induction τ with
 | slice e => simp only [oY, RepA, fv]
 | pair a b vq vO =>
  simp only [oY]
  cases tc a || tc b with
  | true => simp only [ak, RepA, fv]; exact ⟨_, _, rfl, vq, vO⟩
  | false => simp only [ax, RepA]; exact cu w im _
 | _ => simp only [oY, RepA]; exact cu w im _
theorem Kv {t : TypeId} {parts : Array (Nat × Operand)} {places : List (Nat × Nat)} {τ : Ty} {v : AV} (ht : StT P t places) (hz : TyZ P t τ) (hb : qi C s places parts.toList (oY τ) v) (hv : v.isAgg = true) :
  bL P C ⟨dst, .build t parts, ty, pos, cc, gd⟩ ⟨dst, v, [], []⟩ s :=
 aY fun w im μ hp ρ h => by
  obtain ⟨fs, hu, hl, hall⟩ := ht
  obtain ⟨z, hzr, hzc⟩ := sQ hz w
  have hplaces : (fs.mapM fun (f : Field) => (do pure (f.offset, ← sizeOf f.type) : Sem (Nat × Nat))).run P w = .ok places.toArray w := by
   rw [Array.mapM_eq_mapM_toList, Sem.run_map]
   have : ∀ (l : List Field) (ps : List (Nat × Nat)), l.length = ps.length -> (∀ (i : Nat) (f : Field) (p : Nat × Nat), l[i]? = some f -> ps[i]? = some p -> f.offset = p.1 /\ ∃ inf, P.info? f.type = some inf /\ inf.size = p.2) ->
     (l.mapM fun f => (do pure (f.offset, ← sizeOf f.type) : Sem (Nat × Nat))).run P w = .ok ps w := by
    intro l
    induction l with
    | nil => intro ps hl _; cases ps <;> simp_all
    | cons f l ih =>
     intro ps hl ha
     match ps, hl with
     | p :: ps, hl =>
      obtain ⟨h1, inf, h2, h3⟩ := ha 0 f p rfl rfl
      have := ih ps (by simpa using hl) (fun i f p hf hp => ha (i + 1) f p (by simpa using hf) (by simpa using hp))
      rw [List.mapM_cons, Sem.run_bind]
      have hs : (do pure (f.offset, ← sizeOf f.type) : Sem (Nat × Nat)).run P w = .ok p w := by
       simp [sizeOf, typeInfo, h2, h1, h3]
      rw [hs]
      simp only [Result.andThen_ok, Sem.run_bind, this, Sem.run_pure]
   rw [this _ _ hl hall]; rfl
  obtain ⟨out, hfill, hrep⟩ := s9 (place := fun i => places.toArray[i]?) (ρ := ρ) (fun i p hp => by simpa using hp) hb (fun p hp => h p.2 (by simp only [Op.operands]; exact List.mem_map.2 ⟨p, hp, rfl⟩)) z.cells (by rw [hzc]; exact wm w im _ _ τ)
  refine ⟨.agg out, ?_, bC.ofA (by simpa [Value.cells] using hrep) (by rw [hv]; rfl)⟩
  have hmap : (parts.map fun (i, x) => (i, ρ x)).toList = parts.toList.map fun p => (p.1, ρ p.2) := by simp
  simp only [execOp, Instr.build, Sem.run_bind, hzr, Result.andThen_ok, run_underlying hu]
  rw [hplaces]
  simp only [Result.andThen_ok, hmap, hfill, Sem.run_pure]
structure ArE (P : Program) (t : TypeId) (n : Nat) (e : Ty) : Prop where
 und : ∃ T, P.underlying t = some (.array n T) /\ TyS P T e.size e.isAgg
 zero : TyZ P t (.arr n e)
theorem qU {t : TypeId} {n : Nat} {agg : Bool} (h : TyS P t n agg) (w : World) : (sizeOf t).run P w = .ok n w := by
 obtain ⟨i, h1, h2⟩ := h.info
 simp [sizeOf, typeInfo, h1, h2]
theorem nS {α : Type} : ∀ (ys : List (Nat × α)) (l : List α), (jF l ys).length = l.length
 | [], _ => rfl
 | _ :: ys, l => by simp only [jF]; rw [nS ys]; simp
theorem An {t : TypeId} {n : Nat} {parts : Array (Nat × Operand)} {e : Ty} {ys : List (Nat × e.den)} (ht : ArE P t n e) (hlen : parts.toList.length = ys.length)
  (hp : ∀ (k i : Nat) (x : Operand), parts.toList[k]? = some (i, x) -> ∃ y, ys[k]? = some (i, y) /\ s.ev C x = .d e y /\ i < n) :
  bL P C ⟨dst, .build t parts, ty, pos, cc, gd⟩ ⟨dst, .d (.arr n e) (jF (List.replicate n (kQ e)) ys), [], []⟩ s :=
 aY fun w im μ bq ρ h => by
  obtain ⟨⟨T, hT, hTs⟩, hz⟩ := ht
  obtain ⟨z, hzr, hzc⟩ := sQ hz w
  have h0 := (cu w im (.arr n e)).2
  obtain ⟨out, hfill, hrep⟩ := qh (w := w) (im := im) (parts.toList.map fun p => (p.1, ρ p.2)) ys z.cells (List.replicate n (kQ e)) (by rw [hzc]; exact h0) (by simpa using hlen) (fun k j v hk => by
   rw [List.getElem?_map, Option.map_eq_some_iff] at hk
   obtain ⟨⟨j', x⟩, hk, he⟩ := hk
   simp only [Prod.mk.injEq] at he
   obtain ⟨rfl, rfl⟩ := he
   obtain ⟨y, hy, hc, cn⟩ := hp k j' x hk
   have hr := h x (by simp only [Op.operands]; exact List.mem_map.2 ⟨(j', x), List.mem_of_getElem? hk, rfl⟩)
   rw [hc] at hr
   obtain ⟨hr, _⟩ := hr
   simp only [RepA] at hr
   exact ⟨y, hy, hr, by simpa using cn⟩)
  refine ⟨.agg out, ?_, ?_⟩
  ·have hmap : (parts.map fun (i, x) => (i, ρ x)).toList = parts.toList.map fun p => (p.1, ρ p.2) := by simp
   simp only [execOp, Instr.build, Sem.run_bind, hzr, Result.andThen_ok, run_underlying hT, qU hTs, hmap, hfill, Sem.run_pure]
  ·refine bC.ofA ?_ rfl
   simp only [RepA, aM, Value.cells]
   exact ⟨by rw [nS]; simp, hrep⟩
theorem xQ {x y : Operand} {t : TypeId} {m : Nat} {e : Ty} {xs : List e.den} {k : IntKind} {n : Int} {z : e.den} (hx : s.ev C x = .d (.arr m e) xs) (hy : s.ev C y = .d (.int k) n) (ht : ArE P t m e) (h : idx xs n = some z) :
  bL P C ⟨dst, .index t x y, ty, pos, cc, gd⟩ ⟨dst, .d e z, [], []⟩ s :=
 aY fun w im μ hp ρ hr => by
  obtain ⟨⟨T, hT, hTs⟩, _⟩ := ht
  have e2 := fa (hy ▸ hr y (by simp [Op.operands]))
  obtain ⟨h0, hz⟩ := gC h
  obtain ⟨hc, cY⟩ := hx ▸ hr x (by simp [Op.operands])
  simp only [RepA, aM] at hc
  obtain ⟨hl, hrl⟩ := hc
  have hv : ∃ cs, ρ x = .agg cs := by
   generalize ρ x = v at cY
   cases v <;> simp_all [bh, AV.isAgg, Ty.isAgg]
  obtain ⟨cs, hv⟩ := hv
  rw [hv] at hrl
  simp only [Value.cells] at hrl
  obtain ⟨hg1, hg2⟩ := aU.get (aM.length e) hrl hz
  have cn : n.toNat < m := by rw [← hl]; exact (List.getElem?_eq_some_iff.1 hz).1
  have hle : (n.toNat + 1) * e.size <= cs.toList.length := by
   have h1 := aU.length (aM.length e) _ _ hrl
   rw [h1, hl]; exact Nat.mul_le_mul_right _ cn
  rw [Nat.add_mul, Nat.one_mul] at hle
  have hsplit : cs.toList = cs.toList.take (n.toNat * e.size) ++ ((cs.toList.drop (n.toNat * e.size)).take e.size ++ (cs.toList.drop (n.toNat * e.size)).drop e.size) := by
   rw [List.take_append_drop, List.take_append_drop]
  have hlen1 : (cs.toList.take (n.toNat * e.size)).length = n.toNat * e.size := by rw [List.length_take]; omega
  have hpart := Ae hTs w hsplit hg2 (fun cY => hY (a := .d e z) cY)
  rw [hlen1] at hpart
  refine ⟨iI e.isAgg ((cs.toList.drop (n.toNat * e.size)).take e.size), ?_, ?_⟩
  ·have hcond : 0 <= n /\ n < (m : Int) := ⟨h0, by omega⟩
   simp only [execOp, e2, hv, Instr.index, asIntOf, Sem.run_bind, Sem.run_pure, Result.andThen_ok, run_underlying hT]
   rw [if_pos hcond]
   simp only [Sem.run_bind, qU hTs, Result.andThen_ok, hpart]
  ·have hmk : RepA w im μ hp (.d e z) ((cs.toList.drop (n.toNat * e.size)).take e.size) := by simp only [RepA]; exact hg1
   exact hmk.toV
inductive iJ (hp : Hp) : AV -> (t : Ty) -> t.den -> Prop
 | d {t : Ty} {x : t.den} : iJ hp (.d t x) t x
 | nils {e : Ty} : iJ hp .nils (.slice e) []
 | emp {e : Ty} : iJ hp .emp (.slice e) []
 | os {o n : Nat} {T : TypeId} {e : Ty} {xs : List e.den} : hp o = some (.arr T e n true xs) -> iJ hp (.os o n) (.slice e) xs
 | pr {a b : AV} {ta tb : Ty} {x : ta.den} {y : tb.den} : iJ hp a ta x -> iJ hp b tb y -> iJ hp (.pr a b) (.pair ta tb) (x, y)
def AV.osl : AV -> List Nat
 | .os o _ => [o]
 | .pr a b => a.osl ++ b.osl
 | _ => []
theorem iJ.congr {hp bq : Hp} {a : AV} {t : Ty} {x : t.den} (h : iJ hp a t x) : (∀ k ∈ a.osl, bq k = hp k) -> iJ bq a t x := by
 induction h with
 | d => exact fun _ => .d
 | nils => exact fun _ => .nils
 | emp => exact fun _ => .emp
 | os h => exact fun hk => .os ((hk _ (by simp [AV.osl])).trans h)
 | pr _ _ ih1 ih2 => exact fun hk => .pr (ih1 (fun k h => hk k (by simp [AV.osl, h]))) (ih2 (fun k h => hk k (by simp [AV.osl, h])))
theorem iJ.plain {hp : Hp} {a : AV} {t : Ty} {x : t.den} (h : iJ hp a t x) : a.plain = true := by cases h <;> rfl
theorem iJ.agg {hp : Hp} {a : AV} {t : Ty} {x : t.den} (h : iJ hp a t x) : a.isAgg = t.isAgg := by cases h <;> rfl
theorem iJ.sound {w : World} {im : Nat -> Prop} {μ : Mu} {hp : Hp} (ef : ∀ k ob, hp k = some ob -> iH w im μ hp (μ k) ob) {a : AV} {t : Ty} {x : t.den} (h : iJ hp a t x) : ∀ cs, RepA w im μ hp a cs -> aM w im t cs x := by
 induction h with
 | d => intro cs hr; simp only [RepA] at hr; exact hr
 | nils => intro cs hr; simp only [RepA] at hr; exact ⟨none, 0, hr, Nat.le_refl _, Nat.zero_le _, fun _ => rfl, rfl⟩
 | emp =>
  intro cs hr
  simp only [RepA] at hr
  obtain ⟨ad, hr⟩ := hr
  refine ⟨ad, 0, hr, Nat.le_refl _, Nat.zero_le _, fun _ => rfl, ?_⟩
  cases ad
  ·exact rfl
  ·exact .inl rfl
 | @os o n T e xs ho =>
  intro cs hr
  simp only [RepA] at hr
  obtain ⟨T', e', m', z', oP, eZ, hle, u, hc, h1, eQ⟩ := hr
  rw [ho] at eZ
  cases eZ
  have hpl2 := eQ rfl
  subst hc
  rcases ef o _ ho with ⟨ad, bq, rfl⟩ | ⟨hz, _⟩ | ⟨_, b, cap, cs, bq, hb, vl, xp, h3', h4'⟩
  ·rw [bq] at hpl2
   simp only [cI] at hpl2
   subst hpl2
   refine ⟨ad, 0, rfl, Nat.le_refl _, Nat.zero_le _, fun _ => rfl, ?_⟩
   cases ad
   ·exact rfl
   ·exact .inl rfl
  ·cases hz
  ·rw [bq] at hpl2
   simp only [cI] at hpl2
   subst hpl2
   exact ⟨some ⟨b, 0, none⟩, cap, rfl, vl, xp, (fun h => by cases h), .inr ⟨rfl, hb, cs, h3', h4'⟩⟩
 | pr _ _ ih1 ih2 =>
  intro cs hr
  simp only [RepA] at hr
  obtain ⟨c1, c2, e, h1, h2⟩ := hr
  exact ⟨c1, c2, e, ih1 c1 h1, ih2 c2 h2⟩
theorem tf {d o : Nat} {t T : TypeId} {n : Nat} {parts : Array (Nat × Operand)} {e : Ty} {ys : List (Nat × e.den)} {xs : List e.den} (J0 : List Nat) (ht : ElT P t T e) (h0 : s.hp o = none) (hn : n * e.size <= 2 ^ 24) (hlen : parts.toList.length = ys.length)
  (hp : ∀ (k i : Nat) (x : Operand), parts.toList[k]? = some (i, x) -> ∃ y, ys[k]? = some (i, y) /\ iJ s.hp (s.ev C x) e y /\ (∀ k ∈ (s.ev C x).osl, k ∈ J0) /\ i < n) (hxs : jF (List.replicate n (kQ e)) ys = xs) :
  bL P C ⟨some d, .buildSlice t n parts, ty, pos, cc, gd⟩ ⟨some d, .os o 0, J0, [(o, .arr T e 0 false xs)]⟩ s := by
 intro s1 fX gm im μ a w hi hd
 have E8 : s1.hp o = none := (gm o (.inr (by simp))).trans h0
 obtain ⟨i, z, iT, ma, xq, hz1, JZ⟩ := ht.info
 have hzc := kB JZ n
 have hrep0 : aU (aM w im e) ((Array.range (n * e.size)).map (z.cells[· % z.cells.size]!)).toList (List.replicate n (kQ e)) := by
  rw [hzc]; exact aU.replicate (cu w im e) n
 obtain ⟨out, hfill, hrep⟩ := qh (parts.toList.map fun p => (p.1, a.eval p.2)) ys _ _ hrep0 (by simpa using hlen) (fun k j v hk => by
  rw [List.getElem?_map, Option.map_eq_some_iff] at hk
  obtain ⟨⟨j', x⟩, hk, he⟩ := hk
  simp only [Prod.mk.injEq] at he
  obtain ⟨rfl, rfl⟩ := he
  obtain ⟨y, hy, hc0, C4, cn⟩ := hp k j' x hk
  have hc : iJ s1.hp (s.ev C x) e y := hc0.congr (fun k hk => gm k (.inl (C4 k hk)))
  have sA : s1.ev C x = s.ev C x := fX x (by
   simp only [Op.operands]
   exact List.mem_map.2 ⟨(j', x), List.mem_of_getElem? hk, rfl⟩)
  have hr := (hi.ev x).toA (by rw [sA]; exact hc.plain)
  rw [sA] at hr
  exact ⟨y, hy, hc.sound hi.obj _ hr.1, by simpa using cn⟩)
 rw [hxs] at hrep
 have hxl : xs.length = n := by
  rw [← hxs]
  have : ∀ (ys : List (Nat × e.den)) (l : List e.den), (jF l ys).length = l.length := by
   intro ys
   induction ys with
   | nil => intro l; rfl
   | cons y ys ih => intro l; simp only [jF]; rw [ih]; simp
  rw [this]; simp
 have mf := aU.length (aM.length e) _ _ hrep
 rw [Array.length_toList] at mf
 have hnew := hi.newArr (w1 := w) rfl rfl rfl rfl (hd d rfl) E8 (cells := out) (T := T) (e := e) (xs := xs) (cap := n) (by omega) (by
   have : n <= n * e.size := Nat.le_mul_of_pos_right _ ht.pos
   unfold maxLen; omega) (by rw [mf, hxl]) (by rw [← mf, List.take_of_length_le (by simp)]; exact hrep)
 rw [hxl] at hnew
 refine ⟨_, _, im, _, .inl ?_, hnew⟩
 have lC : ¬ (n * e.size > 2 ^ 24) := by omega
 have hmap : (parts.map fun (i, x) => (i, a.eval x)).toList = parts.toList.map fun p => (p.1, a.eval p.2) := by simp
 simp only [execOp, Instr.buildSlice, Sem.run_bind, run_underlying ht.und, Result.andThen_ok, sizeOf, typeInfo, run_program, iT, Sem.run_pure, ma, if_neg lC]
 by_cases E9 : n * e.size = 0
 ·have hn0 : n = 0 := by
   rcases Nat.mul_eq_zero.1 E9 with h | h
   ·exact h
   ·have := ht.pos; omega
  subst hn0
  have hempty : ∀ f : Nat -> Value, (Array.range (0 * e.size)).map f = #[] := fun f => Array.eq_empty_of_size_eq_zero (by simp)
  rw [hempty] at hfill
  simp only [if_pos E9, Sem.run_pure, Result.andThen_ok, hempty, hmap, hfill, Sem.run_bind, jG]
 ·simp only [if_neg E9, zeroValue, Sem.run_bind, typeInfo, run_program, iT, Sem.run_pure, Result.andThen_ok, hz1]
  rw [hmap, hfill]
  simp [jG]
theorem xR {t : TypeId} {x y : Operand} {o m i : Nat} {T : TypeId} {e : Ty} {xs : List e.den} {z : e.den} (hx : s.ev C x = .oe o m i) (ho : s.hp o = some (.arr T e m false xs)) (fq : i < xs.length) (hy : iJ s.hp (s.ev C y) e z) (J0 : List Nat) (C4 : ∀ k ∈ (s.ev C y).osl, k ∈ J0)
  {agg : Bool} (ht : TyS P t e.size agg) : bL P C ⟨none, .store t x y, ty, pos, cc, gd⟩ ⟨none, .undef, J0, [(o, .arr T e m false (xs.set i z))]⟩ s := by
 intro s1 fX gm im μ a w hi hd
 have sA : s1.ev C x = .oe o m i := (fX x (by simp [Op.operands])).trans hx
 have hy1 : s1.ev C y = s.ev C y := fX y (by simp [Op.operands])
 have hyc : iJ s1.hp (s.ev C y) e z := hy.congr (fun k hk => gm k (.inl (C4 k hk)))
 have Dg : s1.hp o = some (.arr T e m false xs) := (gm o (.inr (by simp))).trans ho
 obtain ⟨hr, cY⟩ := sA ▸ hi.ev x
 obtain ⟨hur0, hua⟩ := (hy1 ▸ hi.ev y : bC w im μ s1.hp (s.ev C y) (a.eval y)).toA hyc.plain
 have PW := hyc.sound hi.obj _ hur0
 simp only [RepA] at hr
 obtain ⟨T', e', m', z', oP, eZ, hle, u, hc, h1, eQ⟩ := hr
 rw [Dg] at eZ
 cases eZ
 obtain ⟨b, cap, iS, rfl⟩ := eQ rfl
 rcases hi.obj o _ Dg with ⟨ad, bq, rfl⟩ | ⟨_, b', cap', cells, bq, hb, hcap, hmax, gk, hl⟩ | ⟨hz, _⟩
 ·simp at fq
 ·obtain ⟨rfl, rfl⟩ : b' = b /\ cap' = cap := by
   rcases iS with iS | iS <;> rw [iS] at bq <;> cases bq <;> exact ⟨rfl, rfl⟩
  replace iS := bq
  have hv : a.eval x = .pointer (some ⟨b', i * e.size, none⟩) := by
   generalize a.eval x = v at hc cY
   cases v <;> simp_all [Value.cells, bh, AV.isAgg]
  have hlen := aU.length (aM.length e) _ _ hl
  have hzl := aM.length e _ _ PW
  have hle1 : (i + 1) * e.size <= xs.length * e.size := Nat.mul_le_mul_right _ (by omega)
  have hle2 : xs.length * e.size <= cells.size := by rw [gk]; exact Nat.mul_le_mul_right _ hcap
  rw [Nat.add_mul, Nat.one_mul] at hle1
  have qb : cells.toList = cells.toList.take (i * e.size) ++ ((cells.toList.drop (i * e.size)).take e.size ++ cells.toList.drop (i * e.size + e.size)) := by
   rw [← List.drop_drop, List.take_append_drop, List.take_append_drop]
  have l1 : (cells.toList.take (i * e.size)).length = i * e.size := by rw [List.length_take, Array.length_toList]; omega
  have l2 : ((cells.toList.drop (i * e.size)).take e.size).length = (a.eval y).cells.toList.length := by rw [List.length_take, List.length_drop, Array.length_toList, hzl]; omega
  have hrun := nQ ht w hb qb l1 l2 hzl (aM.one e _ _ PW)
  have gU : ∀ ob, s1.hp o = some ob -> cZ ob (μ o) (.arr T e m false (xs.set i z)) (.row b' cap') := by
   intro ob ef
   rw [Dg] at ef
   obtain rfl := Option.some.inj ef
   exact ⟨m, false, _, rfl, .inl ⟨rfl, by simp, .inl iS.symm⟩⟩
  have hw : ki w (w.setRow b' (cells.toList.take (i * e.size) ++ ((a.eval y).cells.toList ++ cells.toList.drop (i * e.size + e.size))).toArray) (μ o).blk :=
   ⟨rfl, rfl, rfl, by simp [World.setRow], fun k _ hk => setRow_other w b' k _ (fun e => hk (by rw [iS, e]; rfl))⟩
  have ev := hi.evObj gU hw
  refine ⟨Go.undef, _, im, _, .inr ⟨rfl, ?_⟩, hi.obj1 (dst := none) gU hw ?_ ?_ (fun d h => by cases h) trivial⟩
  ·simp only [execOp, hv, Instr.storeAt, Instr.sureAddr, Sem.run_bind, Sem.run_pure, Result.andThen_ok, hrun]
  ·intro k hk
   cases hk
   have cn : b' < w.heap.size := (Array.getElem?_eq_some_iff.1 hb).1
   exact ⟨by simpa [World.setRow] using cn, .inl (by rw [iS]; rfl)⟩
  ·refine .inr (.inl ⟨rfl, b', cap', _, rfl, setRow_heap w b' _ _ _ _ hb, by simpa using hcap, hmax, ?_, ?_⟩)
   ·rw [← gk]
    simp only [List.size_toArray, List.length_append, List.length_take, List.length_drop, Array.length_toList, hzl]
    omega
   ·have hset := aU.set (aM.length e) hl fq PW
    rw [Nat.add_mul, Nat.one_mul] at hset
    have hmono := aU.mono (aM.mono ev.fim ev.fheap e) _ _ hset
    have he : (cells.toList.take (i * e.size) ++ ((a.eval y).cells.toList ++ cells.toList.drop (i * e.size + e.size))).take ((xs.set i z).length * e.size) =
      (cells.toList.take (xs.length * e.size)).take (i * e.size) ++ (a.eval y).cells.toList ++ (cells.toList.take (xs.length * e.size)).drop (i * e.size + e.size) := by
     have hAV : (cells.toList.take (i * e.size) ++ (a.eval y).cells.toList).length = i * e.size + e.size := by rw [List.length_append, l1, hzl]
     rw [List.length_set, List.take_take, Nat.min_eq_left (show i * e.size <= xs.length * e.size by omega), ← List.append_assoc, List.take_append, hAV, List.take_of_length_le (by omega), List.drop_take]
    rw [he]; exact hmono
 ·cases hz
end
end Go.Vm
