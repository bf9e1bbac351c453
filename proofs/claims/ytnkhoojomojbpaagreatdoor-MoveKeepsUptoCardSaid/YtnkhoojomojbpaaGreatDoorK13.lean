/- Part L of the abstract machine: the pure side; more operations. -/
import Derived.Test.YtnkhoojomojbpaaGreatDoorK12
namespace Go.Vm
inductive Stp (S E : Type) where
 | next (s : S)
 | done (e : E)
def r7 {S E : Type} (body : S -> Option (Stp S E)) : Nat -> S -> Option E
 | 0, _ => none
 | n + 1, s =>
  match body s with
  | none => none
  | some (.next s') => r7 body n s'
  | some (.done e) => some e
def fu : Nat := 18446744073709551616
def idx {α : Type} (xs : List α) (i : Int) : Option α := if 0 <= i then xs[i.toNat]? else none
def cut {α : Type} (xs : List α) (l h : Int) : Option (List α) := if 0 <= l /\ l <= h /\ h <= xs.length then some ((xs.take h.toNat).drop l.toNat) else none
def app {α : Type} (xs ys : List α) : Option (List α) := if xs.length + ys.length <= lim then some (xs ++ ys) else none
def quo (k : IntKind) (a b : Int) : Option Int := if b = 0 then none else some (k.wrap (a.tdiv b))
def rem (a b : Int) : Option Int := if b = 0 then none else some (a.tmod b)
def Dt (a b : ak) : Option (ak) := if a.length + b.length < 4611686018427387904 then some (a ++ b) else none
def mk {α : Type} (n : Int) (z : α) : Option (List α) := if 0 <= n /\ n <= lim then some (List.replicate n.toNat z) else none
theorem aS {α β : Type} {m : Option α} {f : α -> Option β} {r : β} (h : m.bind f = some r) : ∃ x, m = some x /\ f x = some r := by
 cases m with
 | none => cases h
 | some x => exact ⟨x, rfl, h⟩
theorem fS {α : Type} {xs : List α} {i : Int} {x : α} (h : idx xs i = some x) : 0 <= i /\ xs[i.toNat]? = some x := by
 grind [idx]
theorem r8 {α : Type} {xs ys zs : List α} (h : app xs ys = some zs) : xs.length + ys.length <= lim /\ xs ++ ys = zs := by
 unfold app at h
 grind
theorem zR {k : IntKind} {a b z : Int} (h : quo k a b = some z) : b ≠ 0 /\ k.wrap (a.tdiv b) = z := by
 unfold quo at h
 grind
theorem zT {a b z : Int} (h : rem a b = some z) : b ≠ 0 /\ a.tmod b = z := by
 unfold rem at h
 grind
theorem lM {α : Type} {xs zs : List α} {l h : Int} (hc : cut xs l h = some zs) : 0 <= l /\ l.toNat <= h.toNat /\ 0 <= h /\ h.toNat <= xs.length /\ (xs.take h.toNat).drop l.toNat = zs := by
 unfold cut at hc
 grind
theorem qk {a b z : ak} (h : Dt a b = some z) : a.length + b.length < 2 ^ 62 /\ a ++ b = z := by
 unfold Dt at h
 grind
theorem Qd {α : Type} {n : Int} {z : α} {l : List α} (h : mk n z = some l) : 0 <= n /\ n <= lim /\ List.replicate n.toNat z = l := by
 unfold mk at h
 grind
def zU (l : ak) (n : Int) : Option Int := if 0 <= n then (l[n.toNat]?).map (fun z => (z.toNat : Int)) else none
theorem HI {l : ak} {n z : Int} (h : zU l n = some z) : 0 <= n /\ ∃ b, l[n.toNat]? = some b /\ (b.toNat : Int) = z := by
 unfold zU at h
 grind
def shl (k : IntKind) (a b : Int) : Option Int := if 0 <= b then some (k.wrap (a * 2 ^ (min b.toNat k.bits))) else none
def shr (k : IntKind) (a b : Int) : Option Int := if 0 <= b then some (a.fdiv (2 ^ (min b.toNat k.bits))) else none
def Xy (P : Program) (t : TypeId) : Prop := ∃ d, P.underlying t = some d /\ (match d with | .interface _ => false | _ => true) = true
section
variable {P : Program} {C : Ctx} {s : ASt}
variable {dst : Option Tmp} {ty : TypeId} {pos : String} {bT : Array Edge} {gd : Option (Nat × Bool)}
theorem bB.cast {o : Oper} {d : Option Tmp} {a b : AV} {rd : List Nat} {wr : List (Nat × aj)} (h : bB P C o ⟨d, a, rd, wr⟩ s) (e : a = b) : bB P C o ⟨d, b, rd, wr⟩ s := e ▸ h
theorem Inv.grown {im : Nat -> Prop} {μ : Mu} {a : Act} {w w' : World} (hi : Inv C im μ s a w) (h1 : w'.os = w.os) (h2 : w'.tape = w.tape) (h3 : w'.output = w.output) (h4 : w.heap.size <= w'.heap.size) (h5 : ∀ b, b < w.heap.size -> w'.heap[b]? = w.heap[b]?)
  {d : Option Nat} (hd : ∀ x, d = some x -> x < C.n) {av : AV} {v : Value} (hv : bo w' im μ s.hp av v) : Inv C im μ ⟨(s.put d av).fr, s.hp⟩ (a.put d v) w' := by
 have ev : Ev w im μ s.hp w' im μ s.hp := ⟨fun _ h => h, fun b h => h5 b (hi.imLt b h), fun o ob ho => ⟨ob, ho, cA.refl _ _⟩⟩
 exact hi.step ev h1 h2 h3 h4 (fun b h _ => h5 b h) (fun b h => .inl h) (fun b h => Nat.lt_of_lt_of_le (hi.imLt b h) h4) (fun o b h => ⟨(hi.sep o b h).1, Nat.lt_of_lt_of_le (hi.sep o b h).2.1 h4, .inl ⟨o, h⟩⟩) hi.inj hi.dom
  (fun o ob ho => (hi.obj o ob ho).ev ev (fun b h => h5 b (hi.sep o b h).2.1)) d hd av v hv
theorem vu {w : World} {im : Nat -> Prop} {μ : Mu} {hp : Hp} {ρ : Operand -> Value} : ∀ (l : List Operand), (∀ x ∈ l, bo w im μ hp (s.ev C x) (ρ x)) -> (∀ x ∈ l, (s.ev C x).plain = true) -> RepFs w im μ hp (l.map (s.ev C)) (l.map ρ)
 | [], _, _ => by simp [RepFs]
 | x :: l, h, hp => by
  simp only [List.map_cons, RepFs]
  obtain ⟨h1, h2⟩ := (h x (by simp)).toA (hp x (by simp))
  exact ⟨_, _, rfl, h1, h2, vu l (fun y hy => h y (by simp [hy])) (fun y hy => hp y (by simp [hy]))⟩
theorem zV {f : Fn} {cap : Array Operand} {caps : List AV} (hc : cap.toList.map (s.ev C) = caps) (hp : ∀ a ∈ caps, a.plain = true) : bB P C ⟨dst, .makeFunc f #[] cap, ty, pos, bT, gd⟩ ⟨dst, .fn f [] caps, [], []⟩ s :=
 aW fun w im μ bp ρ h => by
  subst hc
  refine ⟨.func f #[] (cap.map ρ), ?_, ⟨?_, rfl⟩⟩
  ·simp [execOp, Instr.makeFunc]
  ·simp only [RepA, RepFs, Value.cells]
   refine ⟨[], cap.toList.map ρ, by congr 2; apply Array.ext'; simp, rfl, vu _ (fun x hx => h x (by simpa [Op.operands] using hx)) (fun x hx => hp _ (List.mem_map.2 ⟨x, hx, rfl⟩))⟩
theorem r9 {x : Operand} {o : Nat} {p : List Nat} {off : Nat} (hx : s.ev C x = .op o p off) : bB P C ⟨dst, .nilCheck x, ty, pos, bT, gd⟩ ⟨dst, .op o p off, [], []⟩ s :=
 aW fun w im μ hp ρ h => by
  have hr := hx ▸ h x (by simp [Op.operands])
  obtain ⟨b, u, h1, h2, hv⟩ := pC hr
  exact ⟨ρ x, by simp [execOp, hv], hr⟩
theorem Xz {x y : Operand} {ts : Array TypeId} {k k2 : IntKind} {a b : Int} (hx : s.ev C x = .d (.int k) a) (hy : s.ev C y = .d (.int k2) b) : bB P C ⟨dst, .call ⟨.builtin .max, #[x, y], ts⟩, ty, pos, bT, gd⟩ ⟨dst, .d (.int k) (if b > a then b else a), [], []⟩ s :=
 aW fun w im μ hp ρ h => by
  have e1 := eu (hx ▸ h x (by simp [Op.operands, Call.operands]))
  have e2 := eu (hy ▸ h y (by simp [Op.operands, Call.operands]))
  refine ⟨.int k (if b > a then b else a), ?_, aP _ _ _ _ (.int k (if b > a then b else a))⟩
  simp [execOp, resolve, invoke, builtin, e1, e2, Builtin.max_, Builtin.max2]
theorem XA {x y : Operand} {ts : Array TypeId} {k k2 : IntKind} {a b : Int} (hx : s.ev C x = .d (.int k) a) (hy : s.ev C y = .d (.int k2) b) : bB P C ⟨dst, .call ⟨.builtin .min, #[x, y], ts⟩, ty, pos, bT, gd⟩ ⟨dst, .d (.int k) (if b < a then b else a), [], []⟩ s :=
 aW fun w im μ hp ρ h => by
  have e1 := eu (hx ▸ h x (by simp [Op.operands, Call.operands]))
  have e2 := eu (hy ▸ h y (by simp [Op.operands, Call.operands]))
  refine ⟨.int k (if b < a then b else a), ?_, aP _ _ _ _ (.int k (if b < a then b else a))⟩
  simp [execOp, resolve, invoke, builtin, e1, e2, Builtin.min_, Builtin.min2]
theorem xc {x y : Operand} {t : TypeId} {l : ak} {k : IntKind} {n : Int} {z : UInt8} (hx : s.ev C x = .d .str l) (hy : s.ev C y = .d (.int k) n) (ht : P.underlying t = some .string) (h0 : 0 <= n) (hz : l[n.toNat]? = some z) :
  bB P C ⟨dst, .index t x y, ty, pos, bT, gd⟩ ⟨dst, .d (.int .u8) (z.toNat : Int), [], []⟩ s :=
 aW fun w im μ hp ρ h => by
  have e1 := bu (u := .string ⟨l.toArray⟩) (by rw [hx]; rfl) (h x (by simp [Op.operands]))
  have e2 := eu (hy ▸ h y (by simp [Op.operands]))
  refine ⟨.int .u8 z.toNat, ?_, aP _ _ _ _ (.int .u8 z.toNat)⟩
  obtain ⟨bJ, P0⟩ := List.getElem?_eq_some_iff.1 hz
  have hb : (⟨l.toArray⟩ : ByteArray)[n.toNat]? = some z := by
   have fP : n.toNat < (⟨l.toArray⟩ : ByteArray).size := by simpa [ByteArray.size] using bJ
   rw [getElem?_pos (⟨l.toArray⟩ : ByteArray) n.toNat fP]
   exact congrArg some P0
  simp [execOp, e1, e2, Instr.index, asIntOf, run_underlying ht, h0, hb]
theorem xe {t : TypeId} {x : Operand} {v : AV} (hx : s.ev C x = v) (hv : v.plain = true) (ht : Xy P t) : bB P C ⟨dst, .makeInterface t x, ty, pos, bT, gd⟩ ⟨dst, .iface t v, [], []⟩ s :=
 aW fun w im μ hp ρ h => by
  obtain ⟨d, hd, hd2⟩ := ht
  have hr := (hx ▸ h x (by simp [Op.operands])).toA hv
  refine ⟨.iface t (ρ x), ?_, ⟨?_, rfl⟩⟩
  ·simp only [execOp, Instr.makeInterface, Sem.run_bind, run_underlying hd, Result.andThen_ok]
   cases d <;> first | rfl | simp at hd2
  grind [RepA, Value.cells]
theorem sd {x : Operand} {τ : Ty} {y : τ.den} (hx : s.ev C x = .ip τ y) : bB P C ⟨dst, .nilCheck x, ty, pos, bT, gd⟩ ⟨dst, .ip τ y, [], []⟩ s :=
 aW fun w im μ hp ρ h => by
  have hr := hx ▸ h x (by simp [Op.operands])
  have hr2 := hr
  obtain ⟨h1, h2⟩ := hr
  simp only [RepA] at h1
  obtain ⟨b, off, hc, _⟩ := h1
  have hv : ρ x = .pointer (some ⟨b, off, none⟩) := by
   generalize ρ x = v at hc h2
   cases v <;> simp_all [Value.cells, aY, AV.isAgg]
  exact ⟨ρ x, by simp [execOp, hv], hr2⟩
theorem Qe {k : IntKind} {xt yt : TypeId} {x y : Operand} {a b z : Int} (hx : s.ev C x = .d (.int k) a) (hy : s.ev C y = .d (.int k) b) (h : quo k a b = some z) :
  bB P C ⟨dst, .binOp .quo xt x y yt, ty, pos, bT, gd⟩ ⟨dst, .d (.int k) z, [], []⟩ s := (Xq hx hy (zR h).1).cast (by rw [(zR h).2])
theorem Qf {k : IntKind} {xt yt : TypeId} {x y : Operand} {a b z : Int} (hx : s.ev C x = .d (.int k) a) (hy : s.ev C y = .d (.int k) b) (h : rem a b = some z) :
  bB P C ⟨dst, .binOp .rem xt x y yt, ty, pos, bT, gd⟩ ⟨dst, .d (.int k) z, [], []⟩ s := (Xr hx hy (zT h).1).cast (by rw [(zT h).2])
theorem Qg {k yk : IntKind} {xt yt : TypeId} {x y : Operand} {a b z : Int} (hx : s.ev C x = .d (.int k) a) (hy : s.ev C y = .d (.int yk) b) (h : shl k a b = some z) :
  bB P C ⟨dst, .binOp .shl xt x y yt, ty, pos, bT, gd⟩ ⟨dst, .d (.int k) z, [], []⟩ s := by
 unfold shl at h
 by_cases h0 : 0 <= b
 ·rw [if_pos h0] at h; cases h; exact zB hx hy h0 (.inl rfl) rfl rfl
 grind
theorem Qh {k yk : IntKind} {xt yt : TypeId} {x y : Operand} {a b z : Int} (hx : s.ev C x = .d (.int k) a) (hy : s.ev C y = .d (.int yk) b) (h : shr k a b = some z) :
  bB P C ⟨dst, .binOp .shr xt x y yt, ty, pos, bT, gd⟩ ⟨dst, .d (.int k) z, [], []⟩ s := by
 unfold shr at h
 by_cases h0 : 0 <= b
 ·rw [if_pos h0] at h; cases h; exact zB hx hy h0 (.inr rfl) rfl rfl
 grind
theorem se {w : World} {im : Nat -> Prop} {μ : Mu} {hp : Hp} {t : TypeId} {k : IntKind} {n : Int} {v : Value} (h : bo w im μ hp (.iface t (.d (.int k) n)) v) : v = .iface t (.int k n) := by
 obtain ⟨hr, cy⟩ := h
 simp only [RepA] at hr
 obtain ⟨u, hc, hu, hu2⟩ := hr
 have hu3 : u = .int k n := by
  simp only [aM] at hu
  cases u <;> simp_all [Value.cells, aY, AV.isAgg, Ty.isAgg]
 subst hu3
 cases v <;> simp_all [Value.cells, aY, AV.isAgg]
theorem Qi {x : Operand} {xt yt t : TypeId} {k : IntKind} {n : Int} (hx : s.ev C x = .iface t (.d (.int k) n)) (ht : ∃ m, P.underlying xt = some (.interface m)) :
  bB P C ⟨dst, .binOp .neq xt x (.const .nilIface) yt, ty, pos, bT, gd⟩ ⟨dst, .d .bool true, [], []⟩ s :=
 aW fun w im μ hp ρ h => by
  obtain ⟨m, ht⟩ := ht
  have e1 := se (hx ▸ h x (by simp [Op.operands]))
  have e2 : ρ (.const .nilIface) = .nilIface := bu (u := .nilIface) rfl (h (.const .nilIface) (by simp [Op.operands]))
  have he : (Op.equal xt (.iface t (.int k n)) .nilIface).run P w = .ok false w := by
   show (Op.equalIn (9999 + 1) xt _ _).run P w = _
   rw [Op.equalIn.eq_2]
   simp only [Sem.run_bind, run_underlying ht, Result.andThen_ok]
   rfl
  have hb : binOp .neq xt (.iface t (.int k n)) .nilIface = (do pure (.bool (!(← Op.equal xt (.iface t (.int k n)) .nilIface)))) := rfl
  have hg : eqGuard .neq xt x (.const .nilIface) (.iface t (.int k n)) .nilIface = pure () := rfl
  refine ⟨.bool true, ?_, aP _ _ _ _ (.bool true)⟩
  simp only [execOp, e1, e2, hg, hb]
  simp [he]
theorem zW {x : Operand} {xt yt : TypeId} (hx : s.ev C x = .nilif) (ht : ∃ m, P.underlying xt = some (.interface m)) :
  bB P C ⟨dst, .binOp .neq xt x (.const .nilIface) yt, ty, pos, bT, gd⟩ ⟨dst, .d .bool false, [], []⟩ s :=
 aW fun w im μ hp ρ h => by
  obtain ⟨m, ht⟩ := ht
  have e1 : ρ x = .nilIface := bu (u := .nilIface) (by rw [hx]; rfl) (h x (by simp [Op.operands]))
  have e2 : ρ (.const .nilIface) = .nilIface := bu (u := .nilIface) rfl (h (.const .nilIface) (by simp [Op.operands]))
  have he : (Op.equal xt .nilIface .nilIface).run P w = .ok true w := by
   show (Op.equalIn (9999 + 1) xt _ _).run P w = _
   rw [Op.equalIn.eq_2]
   simp only [Sem.run_bind, run_underlying ht, Result.andThen_ok]
   rfl
  have hb : binOp .neq xt .nilIface .nilIface = (do pure (.bool (!(← Op.equal xt .nilIface .nilIface)))) := rfl
  have hg : eqGuard .neq xt x (.const .nilIface) .nilIface .nilIface = pure () := by simp [eqGuard]
  refine ⟨.bool false, ?_, aP _ _ _ _ (.bool false)⟩
  simp only [execOp, e1, e2, hg, hb]
  simp [he]
theorem uH {x : Operand} {xt t : TypeId} {k : IntKind} {n : Int} (hx : s.ev C x = .iface t (.d (.int k) n)) (ht : Xy P t) :
  bB P C ⟨dst, .typeAssert x xt t true, ty, pos, bT, gd⟩ ⟨dst, .tup [.d (.int k) n, .d .bool true], [], []⟩ s :=
 aW fun w im μ hp ρ h => by
  obtain ⟨d, hd, hd2⟩ := ht
  have e1 := se (hx ▸ h x (by simp [Op.operands]))
  refine ⟨.tuple #[.int k n, .bool true], ?_, ⟨[.int k n, .bool true], rfl, ?_⟩⟩
  ·simp only [execOp, e1, Instr.typeAssert, Sem.run_bind, run_underlying hd, Result.andThen_ok]
   cases d <;> first | (exact Bool.noConfusion hd2) | (dsimp only; rw [if_pos rfl]; rfl)
  ·simp only [RepFs, RepA, aM]
   exact ⟨_, _, rfl, rfl, rfl, _, _, rfl, rfl, rfl, rfl⟩
theorem Qj {t T : TypeId} {e : Ty} (ht : ElT P t T e) : bB P C ⟨dst, .buildSlice t 0 #[], ty, pos, bT, gd⟩ ⟨dst, .emp, [], []⟩ s := by
 intro s1 fj fA im μ a w hi hd
 obtain ⟨i, z, iE, lB, wO, hz1, JW⟩ := ht.info
 refine ⟨.slice (some ⟨w.heap.size, 0, none⟩) 0 0, _, im, μ, .inl ?_, by
  rw [hZ]
  exact hi.grown (w' := w.alloc (.cells #[] T)) rfl rfl rfl (by simp) (fun b h => heap_alloc_old w _ h) hd ⟨⟨_, rfl⟩, rfl⟩⟩
 have hempty : ∀ f : Nat -> Value, (Array.range 0).map f = #[] := fun f => Array.eq_empty_of_size_eq_zero (by simp)
 simp [execOp, Instr.buildSlice, Sem.run_bind, run_underlying ht.und, Result.andThen_ok, sizeOf, typeInfo, run_program, iE, Sem.run_pure, Instr.fill, jn, hempty]
def StT (P : Program) (t : TypeId) (places : List (Nat × Nat)) : Prop := ∃ fs : Array Field, P.underlying t = some (.struct fs) /\ fs.toList.length = places.length /\ ∀ (i : Nat) (f : Field) (p : Nat × Nat), fs.toList[i]? = some f -> places[i]? = some p -> f.offset = p.1 /\ ∃ inf, P.info? f.type = some inf /\ inf.size = p.2
inductive pE (C : Ctx) (s : ASt) (places : List (Nat × Nat)) : List (Nat × Operand) -> AV -> AV -> Prop
 | nil {v : AV} : pE C s places [] v v
 | cons {i off off' sz : Nat} {x : Operand} {u v v' v'' : AV} {l : List (Nat × Operand)} : s.ev C x = u -> u.plain = true -> places[i]? = some (off, sz) -> u.asize = sz -> jl v [i] off' u v' -> off' = off -> pE C s places l v' v'' -> pE C s places ((i, x) :: l) v v''
theorem sf {w : World} {im : Nat -> Prop} {μ : Mu} {hp : Hp} {places : List (Nat × Nat)} {place : Nat -> Option (Nat × Nat)} {ρ : Operand -> Value} (eg : ∀ i p, places[i]? = some p -> place i = some p) : ∀ {l : List (Nat × Operand)} {v v' : AV}, pE C s places l v v' ->
  (∀ p ∈ l, bo w im μ hp (s.ev C p.2) (ρ p.2)) -> ∀ cells : Array Value, RepA w im μ hp v cells.toList -> ∃ out, Instr.fill place cells (l.map fun p => (p.1, ρ p.2)) = some out /\ RepA w im μ hp v' out.toList
 | _, _, _, .nil, _, cells, hc => ⟨cells, rfl, hc⟩
 | _, _, _, .cons (i := i) (x := x) hx hup hplc fP hset ho h, hr, cells, hc => by
  subst ho
  obtain ⟨PZ, hua⟩ := (hx ▸ hr (i, x) (by simp)).toA hup
  have hul := RepA.length _ _ PZ
  obtain ⟨c1, c2, c3, pw, Ho, j1, hnew⟩ := hset.sound _ hc _ PZ
  have hlen : cells.size = c1.length + (c2.length + c3.length) := by rw [← Array.length_toList, pw]; simp
  simp only [List.map_cons]
  rw [vn (eg _ _ hplc) (by rw [hul]; exact fP) (by omega)]
  have e2 : cells.toList.drop (c1.length + c2.length) = c3 := by rw [pw, ← List.drop_drop, List.drop_left, List.drop_left]
  have hsz2 : c2.length = _ := j1.trans (hul.trans fP)
  refine sf eg h (fun p hp => hr p (by simp [hp])) _ ?_
  grind
def vv : Ty -> Bool
 | .slice _ => true
 | .pair a b => vv a || vv b
 | _ => false
def n8 : Ty -> AV
 | .slice _ => .nils
 | .pair a b => bif vv a || vv b then .pr (n8 a) (n8 b) else .d (.pair a b) (kg (.pair a b))
 | τ => .d τ (kg τ)
theorem vw (w : World) (im : Nat -> Prop) (μ : Mu) (hp : Hp) (τ : Ty) : RepA w im μ hp (n8 τ) (fe τ) := by
 induction τ with
 | slice e => simp only [n8, RepA, fe]
 | pair a b wQ zi =>
  grind [n8, vv, RepA, fe, bZ]
 | _ => simp only [n8, RepA]; exact bZ w im _
theorem Kp {t : TypeId} {parts : Array (Nat × Operand)} {places : List (Nat × Nat)} {τ : Ty} {v : AV} (ht : StT P t places) (hz : TyZ P t τ) (hb : pE C s places parts.toList (n8 τ) v) (hv : v.isAgg = true) :
  bB P C ⟨dst, .build t parts, ty, pos, bT, gd⟩ ⟨dst, v, [], []⟩ s :=
 aW fun w im μ hp ρ h => by
  obtain ⟨fs, hu, hl, hall⟩ := ht
  obtain ⟨z, hzr, hzc⟩ := rV hz w
  have hplaces : (fs.mapM fun (f : Field) => (do pure (f.offset, ← sizeOf f.type) : Sem (Nat × Nat))).run P w = .ok places.toArray w := by
   rw [Array.mapM_eq_mapM_toList, Sem.run_map]
   have : ∀ (l : List Field) (ps : List (Nat × Nat)), l.length = ps.length -> (∀ (i : Nat) (f : Field) (p : Nat × Nat), l[i]? = some f -> ps[i]? = some p -> f.offset = p.1 /\ ∃ inf, P.info? f.type = some inf /\ inf.size = p.2) ->
     (l.mapM fun f => (do pure (f.offset, ← sizeOf f.type) : Sem (Nat × Nat))).run P w = .ok ps w := by
    intro l
    induction l with
    | nil => intro ps hl _; cases ps <;> simp_all
    | cons f l ih =>
     intro ps hl ha
     match ps, hl with
     | p :: ps, hl =>
      obtain ⟨h1, inf, h2, h3⟩ := ha 0 f p rfl rfl
      have := ih ps (by simpa using hl) (fun i f p hf hp => ha (i + 1) f p (by simpa using hf) (by simpa using hp))
      rw [List.mapM_cons, Sem.run_bind]
      have hs : (do pure (f.offset, ← sizeOf f.type) : Sem (Nat × Nat)).run P w = .ok p w := by
       simp [sizeOf, typeInfo, h2, h1, h3]
      simp_all
   rw [this _ _ hl hall]; rfl
  obtain ⟨out, hfill, hrep⟩ := sf (place := fun i => places.toArray[i]?) (ρ := ρ) (fun i p hp => by simpa using hp) hb (fun p hp => h p.2 (by simp only [Op.operands]; exact List.mem_map.2 ⟨p, hp, rfl⟩)) z.cells (by rw [hzc]; exact vw w im _ _ τ)
  refine ⟨.agg out, ?_, bo.ofA (by simpa [Value.cells] using hrep) (by rw [hv]; rfl)⟩
  have hmap : (parts.map fun (i, x) => (i, ρ x)).toList = parts.toList.map fun p => (p.1, ρ p.2) := by simp
  simp only [execOp, Instr.build, Sem.run_bind, hzr, Result.andThen_ok, run_underlying hu]
  rw [hplaces]
  simp only [Result.andThen_ok, hmap, hfill, Sem.run_pure]
structure ArE (P : Program) (t : TypeId) (n : Nat) (e : Ty) : Prop where
 und : ∃ T, P.underlying t = some (.array n T) /\ TyS P T e.size e.isAgg
 zero : TyZ P t (.arr n e)
theorem ql {t : TypeId} {n : Nat} {agg : Bool} (h : TyS P t n agg) (w : World) : (sizeOf t).run P w = .ok n w := by
 obtain ⟨i, h1, h2⟩ := h.info
 simp [sizeOf, typeInfo, h1, h2]
theorem nj {α : Type} : ∀ (ys : List (Nat × α)) (l : List α), (jm l ys).length = l.length
 | [], _ => rfl
 | _ :: ys, l => by simp only [jm]; rw [nj ys]; simp
theorem zX {t : TypeId} {n : Nat} {parts : Array (Nat × Operand)} {e : Ty} {ys : List (Nat × e.den)} (ht : ArE P t n e) (hlen : parts.toList.length = ys.length)
  (hp : ∀ (k i : Nat) (x : Operand), parts.toList[k]? = some (i, x) -> ∃ y, ys[k]? = some (i, y) /\ s.ev C x = .d e y /\ i < n) :
  bB P C ⟨dst, .build t parts, ty, pos, bT, gd⟩ ⟨dst, .d (.arr n e) (jm (List.replicate n (kg e)) ys), [], []⟩ s :=
 aW fun w im μ bp ρ h => by
  obtain ⟨⟨T, hT, hTs⟩, hz⟩ := ht
  obtain ⟨z, hzr, hzc⟩ := rV hz w
  have h0 := (bZ w im (.arr n e)).2
  obtain ⟨out, hfill, hrep⟩ := pD (w := w) (im := im) (parts.toList.map fun p => (p.1, ρ p.2)) ys z.cells (List.replicate n (kg e)) (by rw [hzc]; exact h0) (by simpa using hlen) (fun k j v hk => by
   rw [List.getElem?_map, Option.map_eq_some_iff] at hk
   obtain ⟨⟨j', x⟩, hk, he⟩ := hk
   simp only [Prod.mk.injEq] at he
   obtain ⟨rfl, rfl⟩ := he
   obtain ⟨y, hy, hc, bJ⟩ := hp k j' x hk
   have hr := h x (by simp only [Op.operands]; exact List.mem_map.2 ⟨(j', x), List.mem_of_getElem? hk, rfl⟩)
   rw [hc] at hr
   obtain ⟨hr, _⟩ := hr
   simp only [RepA] at hr
   exact ⟨y, hy, hr, by simpa using bJ⟩)
  refine ⟨.agg out, ?_, ?_⟩
  ·have hmap : (parts.map fun (i, x) => (i, ρ x)).toList = parts.toList.map fun p => (p.1, ρ p.2) := by simp
   simp only [execOp, Instr.build, Sem.run_bind, hzr, Result.andThen_ok, run_underlying hT, ql hTs, hmap, hfill, Sem.run_pure]
  ·refine bo.ofA ?_ rfl
   simp only [RepA, aM, Value.cells]
   exact ⟨by rw [nj]; simp, hrep⟩
theorem xf {x y : Operand} {t : TypeId} {m : Nat} {e : Ty} {xs : List e.den} {k : IntKind} {n : Int} {z : e.den} (hx : s.ev C x = .d (.arr m e) xs) (hy : s.ev C y = .d (.int k) n) (ht : ArE P t m e) (h : idx xs n = some z) :
  bB P C ⟨dst, .index t x y, ty, pos, bT, gd⟩ ⟨dst, .d e z, [], []⟩ s :=
 aW fun w im μ hp ρ hr => by
  obtain ⟨⟨T, hT, hTs⟩, _⟩ := ht
  have e2 := eu (hy ▸ hr y (by simp [Op.operands]))
  obtain ⟨h0, hz⟩ := fS h
  obtain ⟨hc, cy⟩ := hx ▸ hr x (by simp [Op.operands])
  simp only [RepA, aM] at hc
  obtain ⟨hl, hrl⟩ := hc
  have hv : ∃ cs, ρ x = .agg cs := by
   generalize ρ x = v at cy
   cases v <;> simp_all [aY, AV.isAgg, Ty.isAgg]
  obtain ⟨cs, hv⟩ := hv
  rw [hv] at hrl
  simp only [Value.cells] at hrl
  obtain ⟨hg1, hg2⟩ := aR.get (aM.length e) hrl hz
  have bJ : n.toNat < m := by rw [← hl]; exact (List.getElem?_eq_some_iff.1 hz).1
  have hle : (n.toNat + 1) * e.size <= cs.toList.length := by
   grind
  rw [Nat.add_mul, Nat.one_mul] at hle
  have hsplit : cs.toList = cs.toList.take (n.toNat * e.size) ++ ((cs.toList.drop (n.toNat * e.size)).take e.size ++ (cs.toList.drop (n.toNat * e.size)).drop e.size) := by
   grind [List.take_append_drop]
  have hlen1 : (cs.toList.take (n.toNat * e.size)).length = n.toNat * e.size := by rw [List.length_take]; omega
  have hpart := zM hTs w hsplit hg2 (fun cy => gG (a := .d e z) cy)
  rw [hlen1] at hpart
  refine ⟨iq e.isAgg ((cs.toList.drop (n.toNat * e.size)).take e.size), ?_, ?_⟩
  ·have hcond : 0 <= n /\ n < (m : Int) := ⟨h0, by omega⟩
   simp only [execOp, e2, hv, Instr.index, asIntOf, Sem.run_bind, Sem.run_pure, Result.andThen_ok, run_underlying hT]
   rw [if_pos hcond]
   simp only [Sem.run_bind, ql hTs, Result.andThen_ok, hpart]
  ·have hmk : RepA w im μ hp (.d e z) ((cs.toList.drop (n.toNat * e.size)).take e.size) := by simp only [RepA]; exact hg1
   exact hmk.toV
inductive ir (hp : Hp) : AV -> (t : Ty) -> t.den -> Prop
 | d {t : Ty} {x : t.den} : ir hp (.d t x) t x
 | nils {e : Ty} : ir hp .nils (.slice e) []
 | emp {e : Ty} : ir hp .emp (.slice e) []
 | os {o n : Nat} {T : TypeId} {e : Ty} {xs : List e.den} : hp o = some (.arr T e n true xs) -> ir hp (.os o n) (.slice e) xs
 | pr {a b : AV} {ta tb : Ty} {x : ta.den} {y : tb.den} : ir hp a ta x -> ir hp b tb y -> ir hp (.pr a b) (.pair ta tb) (x, y)
def AV.osl : AV -> List Nat
 | .os o _ => [o]
 | .pr a b => a.osl ++ b.osl
 | _ => []
theorem ir.congr {hp bp : Hp} {a : AV} {t : Ty} {x : t.den} (h : ir hp a t x) : (∀ k ∈ a.osl, bp k = hp k) -> ir bp a t x := by
 induction h with
 | d => exact fun _ => .d
 | nils => exact fun _ => .nils
 | emp => exact fun _ => .emp
 | os h => exact fun hk => .os ((hk _ (by simp [AV.osl])).trans h)
 | pr _ _ ih1 ih2 => exact fun hk => .pr (ih1 (fun k h => hk k (by simp [AV.osl, h]))) (ih2 (fun k h => hk k (by simp [AV.osl, h])))
theorem ir.plain {hp : Hp} {a : AV} {t : Ty} {x : t.den} (h : ir hp a t x) : a.plain = true := by cases h <;> rfl
theorem ir.agg {hp : Hp} {a : AV} {t : Ty} {x : t.den} (h : ir hp a t x) : a.isAgg = t.isAgg := by cases h <;> rfl
theorem ir.sound {w : World} {im : Nat -> Prop} {μ : Mu} {hp : Hp} (dK : ∀ k ob, hp k = some ob -> il w im μ hp (μ k) ob) {a : AV} {t : Ty} {x : t.den} (h : ir hp a t x) : ∀ cs, RepA w im μ hp a cs -> aM w im t cs x := by
 induction h with
 | d => intro cs hr; simp only [RepA] at hr; exact hr
 | nils => intro cs hr; simp only [RepA] at hr; exact ⟨none, 0, hr, Nat.le_refl _, Nat.zero_le _, fun _ => rfl, rfl⟩
 | emp =>
  intro cs hr
  simp only [RepA] at hr
  obtain ⟨ad, hr⟩ := hr
  refine ⟨ad, 0, hr, Nat.le_refl _, Nat.zero_le _, fun _ => rfl, ?_⟩
  cases ad
  ·exact rfl
  ·exact .inl rfl
 | @os o n T e xs ho =>
  intro cs hr
  simp only [RepA] at hr
  obtain ⟨T', e', m', z', px, dS, hle, u, hc, h1, eg⟩ := hr
  rw [ho] at dS
  cases dS
  have hpl2 := eg rfl
  subst hc
  rcases dK o _ ho with ⟨ad, bp, rfl⟩ | ⟨hz, _⟩ | ⟨_, b, cap, cs, bp, hb, wN, zo, h3', h4'⟩
  ·rw [bp] at hpl2
   simp only [cn] at hpl2
   subst hpl2
   refine ⟨ad, 0, rfl, Nat.le_refl _, Nat.zero_le _, fun _ => rfl, ?_⟩
   cases ad
   ·exact rfl
   ·exact .inl rfl
  ·cases hz
  ·rw [bp] at hpl2
   simp only [cn] at hpl2
   subst hpl2
   exact ⟨some ⟨b, 0, none⟩, cap, rfl, wN, zo, (fun h => by cases h), .inr ⟨rfl, hb, cs, h3', h4'⟩⟩
 | pr _ _ ih1 ih2 =>
  intro cs hr
  simp only [RepA] at hr
  obtain ⟨c1, c2, e, h1, h2⟩ := hr
  exact ⟨c1, c2, e, ih1 c1 h1, ih2 c2 h2⟩
theorem sg {d o : Nat} {t T : TypeId} {n : Nat} {parts : Array (Nat × Operand)} {e : Ty} {ys : List (Nat × e.den)} {xs : List e.den} (JZ : List Nat) (ht : ElT P t T e) (h0 : s.hp o = none) (hn : n * e.size <= 2 ^ 24) (hlen : parts.toList.length = ys.length)
  (hp : ∀ (k i : Nat) (x : Operand), parts.toList[k]? = some (i, x) -> ∃ y, ys[k]? = some (i, y) /\ ir s.hp (s.ev C x) e y /\ (∀ k ∈ (s.ev C x).osl, k ∈ JZ) /\ i < n) (hxs : jm (List.replicate n (kg e)) ys = xs) :
  bB P C ⟨some d, .buildSlice t n parts, ty, pos, bT, gd⟩ ⟨some d, .os o 0, JZ, [(o, .arr T e 0 false xs)]⟩ s := by
 intro s1 fj fA im μ a w hi hd
 have EY : s1.hp o = none := (fA o (.inr (by simp))).trans h0
 obtain ⟨i, z, iE, lB, wO, hz1, JW⟩ := ht.info
 have hzc := j4 JW n
 have hrep0 : aR (aM w im e) ((Array.range (n * e.size)).map (z.cells[· % z.cells.size]!)).toList (List.replicate n (kg e)) := by
  rw [hzc]; exact aR.replicate (bZ w im e) n
 obtain ⟨out, hfill, hrep⟩ := pD (parts.toList.map fun p => (p.1, a.eval p.2)) ys _ _ hrep0 (by simpa using hlen) (fun k j v hk => by
  rw [List.getElem?_map, Option.map_eq_some_iff] at hk
  obtain ⟨⟨j', x⟩, hk, he⟩ := hk
  simp only [Prod.mk.injEq] at he
  obtain ⟨rfl, rfl⟩ := he
  obtain ⟨y, hy, hc0, CP, bJ⟩ := hp k j' x hk
  have hc : ir s1.hp (s.ev C x) e y := hc0.congr (fun k hk => fA k (.inl (CP k hk)))
  have rG : s1.ev C x = s.ev C x := fj x (by
   simp only [Op.operands]
   exact List.mem_map.2 ⟨(j', x), List.mem_of_getElem? hk, rfl⟩)
  have hr := (hi.ev x).toA (by rw [rG]; exact hc.plain)
  rw [rG] at hr
  exact ⟨y, hy, hc.sound hi.obj _ hr.1, by simpa using bJ⟩)
 rw [hxs] at hrep
 have hxl : xs.length = n := by
  rw [← hxs]
  have : ∀ (ys : List (Nat × e.den)) (l : List e.den), (jm l ys).length = l.length := by
   intro ys
   induction ys with
   | nil => intro l; rfl
   | cons y ys ih => intro l; simp only [jm]; rw [ih]; simp
  rw [this]; simp
 have mV := aR.length (aM.length e) _ _ hrep
 rw [Array.length_toList] at mV
 have hnew := hi.newArr (w1 := w) rfl rfl rfl rfl (hd d rfl) EY (cells := out) (T := T) (e := e) (xs := xs) (cap := n) (by omega) (by
   have : n <= n * e.size := Nat.le_mul_of_pos_right _ ht.pos
   unfold maxLen; omega) (by rw [mV, hxl]) (by rw [← mV, List.take_of_length_le (by simp)]; exact hrep)
 rw [hxl] at hnew
 refine ⟨_, _, im, _, .inl ?_, hnew⟩
 have j2 : ¬ (n * e.size > 2 ^ 24) := by omega
 have hmap : (parts.map fun (i, x) => (i, a.eval x)).toList = parts.toList.map fun p => (p.1, a.eval p.2) := by simp
 simp only [execOp, Instr.buildSlice, Sem.run_bind, run_underlying ht.und, Result.andThen_ok, sizeOf, typeInfo, run_program, iE, Sem.run_pure, lB, if_neg j2]
 by_cases h00 : n * e.size = 0
 ·have hn0 : n = 0 := by
   rcases Nat.mul_eq_zero.1 h00 with h | h
   ·exact h
   ·have := ht.pos; omega
  subst hn0
  have hempty : ∀ f : Nat -> Value, (Array.range (0 * e.size)).map f = #[] := fun f => Array.eq_empty_of_size_eq_zero (by simp)
  rw [hempty] at hfill
  simp only [if_pos h00, Sem.run_pure, Result.andThen_ok, hempty, hmap, hfill, Sem.run_bind, jn]
 ·simp only [if_neg h00, zeroValue, Sem.run_bind, typeInfo, run_program, iE, Sem.run_pure, Result.andThen_ok, hz1]
  rw [hmap, hfill]
  simp [jn]
theorem xg {t : TypeId} {x y : Operand} {o m i : Nat} {T : TypeId} {e : Ty} {xs : List e.den} {z : e.den} (hx : s.ev C x = .oe o m i) (ho : s.hp o = some (.arr T e m false xs)) (fc : i < xs.length) (hy : ir s.hp (s.ev C y) e z) (JZ : List Nat) (CP : ∀ k ∈ (s.ev C y).osl, k ∈ JZ)
  {agg : Bool} (ht : TyS P t e.size agg) : bB P C ⟨none, .store t x y, ty, pos, bT, gd⟩ ⟨none, .undef, JZ, [(o, .arr T e m false (xs.set i z))]⟩ s := by
 intro s1 fj fA im μ a w hi hd
 have rG : s1.ev C x = .oe o m i := (fj x (by simp [Op.operands])).trans hx
 have hy1 : s1.ev C y = s.ev C y := fj y (by simp [Op.operands])
 have hyc : ir s1.hp (s.ev C y) e z := hy.congr (fun k hk => fA k (.inl (CP k hk)))
 have uB : s1.hp o = some (.arr T e m false xs) := (fA o (.inr (by simp))).trans ho
 obtain ⟨hr, cy⟩ := rG ▸ hi.ev x
 obtain ⟨hur0, hua⟩ := (hy1 ▸ hi.ev y : bo w im μ s1.hp (s.ev C y) (a.eval y)).toA hyc.plain
 have PZ := hyc.sound hi.obj _ hur0
 simp only [RepA] at hr
 obtain ⟨T', e', m', z', px, dS, hle, u, hc, h1, eg⟩ := hr
 rw [uB] at dS
 cases dS
 obtain ⟨b, cap, iQ, rfl⟩ := eg rfl
 rcases hi.obj o _ uB with ⟨ad, bp, rfl⟩ | ⟨_, b', cap', cells, bp, hb, hcap, hmax, fP, hl⟩ | ⟨hz, _⟩
 ·simp at fc
 ·obtain ⟨rfl, rfl⟩ : b' = b /\ cap' = cap := by
   grind
  replace iQ := bp
  have hv : a.eval x = .pointer (some ⟨b', i * e.size, none⟩) := by
   generalize a.eval x = v at hc cy
   cases v <;> simp_all [Value.cells, aY, AV.isAgg]
  have hlen := aR.length (aM.length e) _ _ hl
  have hzl := aM.length e _ _ PZ
  have hle1 : (i + 1) * e.size <= xs.length * e.size := Nat.mul_le_mul_right _ (by omega)
  have hle2 : xs.length * e.size <= cells.size := by rw [fP]; exact Nat.mul_le_mul_right _ hcap
  rw [Nat.add_mul, Nat.one_mul] at hle1
  have pw : cells.toList = cells.toList.take (i * e.size) ++ ((cells.toList.drop (i * e.size)).take e.size ++ cells.toList.drop (i * e.size + e.size)) := by
   grind [List.drop_drop, List.take_append_drop]
  have l1 : (cells.toList.take (i * e.size)).length = i * e.size := by rw [List.length_take, Array.length_toList]; omega
  have l2 : ((cells.toList.drop (i * e.size)).take e.size).length = (a.eval y).cells.toList.length := by rw [List.length_take, List.length_drop, Array.length_toList, hzl]; omega
  have hrun := nh ht w hb pw l1 l2 hzl (aM.one e _ _ PZ)
  have fO : ∀ ob, s1.hp o = some ob -> cA ob (μ o) (.arr T e m false (xs.set i z)) (.row b' cap') := by
   intro ob dK
   rw [uB] at dK
   obtain rfl := Option.some.inj dK
   exact ⟨m, false, _, rfl, .inl ⟨rfl, by simp, .inl iQ.symm⟩⟩
  have hw : jk w (w.setRow b' (cells.toList.take (i * e.size) ++ ((a.eval y).cells.toList ++ cells.toList.drop (i * e.size + e.size))).toArray) (μ o).blk :=
   ⟨rfl, rfl, rfl, by simp [World.setRow], fun k _ hk => setRow_other w b' k _ (fun e => hk (by rw [iQ, e]; rfl))⟩
  have ev := hi.evObj fO hw
  refine ⟨Go.undef, _, im, _, .inr ⟨rfl, ?_⟩, hi.obj1 (dst := none) fO hw ?_ ?_ (fun d h => by cases h) trivial⟩
  ·simp only [execOp, hv, Instr.storeAt, Instr.sureAddr, Sem.run_bind, Sem.run_pure, Result.andThen_ok, hrun]
  ·intro k hk
   cases hk
   have bJ : b' < w.heap.size := (Array.getElem?_eq_some_iff.1 hb).1
   exact ⟨by simpa [World.setRow] using bJ, .inl (by rw [iQ]; rfl)⟩
  ·refine .inr (.inl ⟨rfl, b', cap', _, rfl, setRow_heap w b' _ _ _ _ hb, by simpa using hcap, hmax, ?_, ?_⟩)
   ·rw [← fP]
    simp only [List.size_toArray, List.length_append, List.length_take, List.length_drop, Array.length_toList, hzl]
    omega
   ·have hset := aR.set (aM.length e) hl fc PZ
    rw [Nat.add_mul, Nat.one_mul] at hset
    have hmono := aR.mono (aM.mono ev.fim ev.fheap e) _ _ hset
    have he : (cells.toList.take (i * e.size) ++ ((a.eval y).cells.toList ++ cells.toList.drop (i * e.size + e.size))).take ((xs.set i z).length * e.size) =
      (cells.toList.take (xs.length * e.size)).take (i * e.size) ++ (a.eval y).cells.toList ++ (cells.toList.take (xs.length * e.size)).drop (i * e.size + e.size) := by
     have hAV : (cells.toList.take (i * e.size) ++ (a.eval y).cells.toList).length = i * e.size + e.size := by rw [List.length_append, l1, hzl]
     rw [List.length_set, List.take_take, Nat.min_eq_left (show i * e.size <= xs.length * e.size by omega), ← List.append_assoc, List.take_append, hAV, List.take_of_length_le (by omega), List.drop_take]
    rw [he]; exact hmono
 ·cases hz
end
end Go.Vm
