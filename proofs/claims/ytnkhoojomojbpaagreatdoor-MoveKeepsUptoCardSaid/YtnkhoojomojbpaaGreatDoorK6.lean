/- Part F of the abstract machine: variables in memory: make, load, store; fields; structs by value. -/
import Derived.Test.YtnkhoojomojbpaaGreatDoorK5
namespace Go.Vm
def AV.asize : AV -> Nat
 | .d t _ => t.size
 | .pr a b => a.asize + b.asize
 | _ => 1
theorem RepA.length {w : World} {im : Nat -> Prop} {μ : Mu} {hp : Hp} : ∀ (a : AV) (cs : List Value), RepA w im μ hp a cs -> cs.length = a.asize
 | .undef, _, hr => by simp only [RepA] at hr
 | .d t x, cs, hr => by simp only [RepA] at hr; exact hr.length
 | .ip t x, cs, hr => by simp only [RepA] at hr; obtain ⟨b, off, rfl, _⟩ := hr; rfl
 | .op o p off, cs, hr => by simp only [RepA] at hr; obtain ⟨b, v, _, _, rfl⟩ := hr; rfl
 | .os o n, cs, hr => by simp only [RepA] at hr; obtain ⟨T, e, m, z, xs, _, _, v, rfl, _⟩ := hr; rfl
 | .oe o n i, cs, hr => by simp only [RepA] at hr; obtain ⟨T, e, m, z, xs, _, _, v, rfl, _⟩ := hr; rfl
 | .ow o n i l, cs, hr => by simp only [RepA] at hr; obtain ⟨T, e, m, z, xs, _, _, v, rfl, _⟩ := hr; rfl
 | .nils, cs, hr => by simp only [RepA] at hr; subst hr; rfl
 | .emp, cs, hr => by simp only [RepA] at hr; obtain ⟨a, rfl⟩ := hr; rfl
 | .pr a b, cs, hr => by
  simp only [RepA] at hr
  obtain ⟨c1, c2, rfl, h1, h2⟩ := hr
  rw [List.length_append, RepA.length a c1 h1, RepA.length b c2 h2]; rfl
 | .tup _, _, hr => by simp only [RepA] at hr
 | .fn f first cap, cs, hr => by simp only [RepA] at hr; obtain ⟨vs, us, rfl, _⟩ := hr; rfl
 | .nilfn, cs, hr => by simp only [RepA] at hr; subst hr; rfl
 | .iface t v, cs, hr => by simp only [RepA] at hr; obtain ⟨u, rfl, _⟩ := hr; rfl
 | .nilif, cs, hr => by simp only [RepA] at hr; subst hr; rfl
 | .nilp, cs, hr => by simp only [RepA] at hr; subst hr; rfl
 | .ref o, cs, hr => by simp only [RepA] at hr; obtain ⟨b, r, _, _, rfl⟩ := hr; rfl
def iq (agg : Bool) (cs : List Value) : Value := if agg then .agg cs.toArray else cs.headD Go.undef
theorem mo {v : Value} (h : v.oneCell' = true) : v.cells = #[v] /\ aY v = false := by cases v <;> simp_all [Value.oneCell', Value.cells, aY]
theorem gG {a : AV} (h : a.isAgg = false) : a.asize = 1 := by
 cases a <;> first
  | rfl
  | (rename_i t x; cases t <;> simp_all [AV.isAgg, Ty.isAgg, AV.asize, Ty.size])
  | simp_all [AV.isAgg]
theorem RepA.toV {w : World} {im : Nat -> Prop} {μ : Mu} {hp : Hp} {a : AV} {cs : List Value} (h : RepA w im μ hp a cs) : bo w im μ hp a (iq a.isAgg cs) := by
 have key : RepA w im μ hp a (iq a.isAgg cs).cells.toList /\ aY (iq a.isAgg cs) = a.isAgg := by
  cases cy : a.isAgg with
  | true => simp only [iq, if_true, Value.cells, aY]; exact ⟨h, trivial⟩
  | false =>
   have hl := RepA.length a cs h
   rw [gG cy] at hl
   have ho := RepA.one a cs h
   match cs, hl, ho, h with
   | [c], _, ho, h =>
    grind [mo, iq, Bool.false_eq_true, List.headD_cons]
 cases a <;> first
  | exact key
  | trivial
  | (simp only [RepA] at h)
def Df : TypeDesc -> Bool
 | .struct _ | .array _ _ => true
 | _ => false
structure TyS (P : Program) (t : TypeId) (n : Nat) (agg : Bool) : Prop where
 info : ∃ i, P.info? t = some i /\ i.size = n
 und : ∃ d, P.underlying t = some d /\ Df d = agg
section
variable {P : Program} {C : Ctx}
theorem rU {t : TypeId} {n : Nat} {agg : Bool} (h : TyS P t n agg) (w : World) : (isAgg t).run P w = .ok agg w := by
 obtain ⟨d, hd, rfl⟩ := h.und
 simp only [isAgg, Sem.run_bind, run_underlying hd, Result.andThen_ok]
 cases d <;> rfl
theorem lI {t : TypeId} {n : Nat} {agg : Bool} (h : TyS P t n agg) (w : World) : (sizeOf t).run P w = .ok n w := by
 obtain ⟨i, hi, rfl⟩ := h.info
 simp [sizeOf, typeInfo, hi]
theorem cT (b off n : Nat) : (⟨b, off, none⟩ : Addr).add n = ⟨b, off + n, none⟩ := by unfold Addr.add; split <;> simp_all
theorem iT {t : TypeId} {n : Nat} {agg : Bool} (h : TyS P t n agg) (w : World) {b off : Nat} {cs : List Value} (hc : bX w b off cs) (hl : cs.length = n) (h1 : agg = false -> n = 1) :
  (loadVar t ⟨b, off, none⟩).run P w = .ok (iq agg cs) w := by
 unfold loadVar
 simp only [Sem.run_bind, rU h, Result.andThen_ok]
 cases agg with
 | true =>
  simp only [if_true, Sem.run_bind, lI h, Result.andThen_ok]
  have := run_loadCells_list (P := P) w ⟨b, off, none⟩ cs (fun j v hj => by rw [cT]; exact hc j v hj)
  simp_all [iq]
 | false =>
  have hn := h1 rfl
  match cs, hl, hc with
  | [c], _, hc =>
   have hcell := hc 0 c rfl
   simp_all [Nat.add_zero, iq]
  | [], hl, _ => simp at hl; omega
  | _ :: _ :: _, hl, _ => simp at hl; omega
def jj (μ : Mu) (o : Nat) (pl : Pl) : Mu := fun x => bif Nat.beq x o then pl else μ x
theorem bE (μ : Mu) (o : Nat) (pl : Pl) : jj μ o pl o = pl := by simp [jj]
theorem cE (μ : Mu) {o x : Nat} (pl : Pl) (h : x ≠ o) : jj μ o pl x = μ x := by
 have : Nat.beq x o = false := by rw [← Bool.not_eq_true]; intro hb; exact h (bj hb)
 simp [jj, this]
theorem dz (hp : Hp) (o : Nat) (ob : aj) : aG hp [(o, ob)] o = some ob := by simp [aG, List.find?]
theorem iU (hp : Hp) {o x : Nat} (ob : aj) (h : x ≠ o) : aG hp [(o, ob)] x = hp x := dL (by simpa using h)
structure jk (w w' : World) (old : Option Nat) : Prop where
 os : w'.os = w.os
 tape : w'.tape = w.tape
 output : w'.output = w.output
 grow : w.heap.size <= w'.heap.size
 blk : ∀ b, b < w.heap.size -> old ≠ some b -> w'.heap[b]? = w.heap[b]?
theorem Inv.evObj {im : Nat -> Prop} {μ : Mu} {s : ASt} {a : Act} {w w' : World} (hi : Inv C im μ s a w) {o : Nat} {ct : aj} {pz : Pl}
  (fO : ∀ ob, s.hp o = some ob -> cA ob (μ o) ct pz) (hw : jk w w' (μ o).blk) : Ev w im μ s.hp w' im (jj μ o pz) (aG s.hp [(o, ct)]) := by
 refine ⟨fun _ h => h, fun b hb => hw.blk b (hi.imLt b hb) (fun e => (hi.sep o b e).1 hb), fun x ob hx => ?_⟩
 grind [dz, bE, iU, cE, cA.refl]
theorem Inv.obj1 {im : Nat -> Prop} {μ : Mu} {s : ASt} {a : Act} {w w' : World} (hi : Inv C im μ s a w) {o : Nat} {ct : aj} {pz : Pl}
  (fO : ∀ ob, s.hp o = some ob -> cA ob (μ o) ct pz) (hw : jk w w' (μ o).blk)
  (eg : ∀ b, pz.blk = some b -> b < w'.heap.size /\ ((μ o).blk = some b \/ w.heap.size <= b))
  (hrep : il w' im (jj μ o pz) (aG s.hp [(o, ct)]) pz ct) {dst : Option Nat} (hd : ∀ d, dst = some d -> d < C.n) {av : AV} {v : Value}
  (hv : bo w' im (jj μ o pz) (aG s.hp [(o, ct)]) av v) :
  Inv C im (jj μ o pz) ⟨(s.put dst av).fr, aG s.hp [(o, ct)]⟩ (a.put dst v) w' := by
 have ev := hi.evObj fO hw
 refine hi.step ev hw.os hw.tape hw.output hw.grow (fun b hb ho => hw.blk b hb (ho o)) (fun b h => .inl h) (fun b h => Nat.lt_of_lt_of_le (hi.imLt b h) hw.grow) ?_ ?_ ?_ ?_ dst hd av v hv
 ·intro x b hx
  by_cases e : x = o
  ·subst e
   rw [bE] at hx
   obtain ⟨h1, h2⟩ := eg b hx
   refine ⟨?_, h1, h2.imp (fun h => ⟨x, h⟩) id⟩
   rcases h2 with h2 | h2
   ·exact (hi.sep x b h2).1
   ·intro iC; have := hi.imLt b iC; omega
  ·rw [cE _ _ e] at hx
   obtain ⟨h1, h2, _⟩ := hi.sep x b hx
   exact ⟨h1, Nat.lt_of_lt_of_le h2 hw.grow, .inl ⟨x, hx⟩⟩
 ·intro x y b hx hy
  by_cases ex : x = o
  ·by_cases ey : y = o
   ·rw [ex, ey]
   ·subst ex
    rw [bE] at hx
    rw [cE _ _ ey] at hy
    rcases (eg b hx).2 with h | h
    ·exact hi.inj _ _ b h hy
    ·have := (hi.sep y b hy).2.1; omega
  ·by_cases ey : y = o
   ·subst ey
    rw [bE] at hy
    rw [cE _ _ ex] at hx
    rcases (eg b hy).2 with h | h
    ·exact hi.inj _ _ b hx h
    ·have := (hi.sep x b hx).2.1; omega
   ·rw [cE _ _ ex] at hx
    rw [cE _ _ ey] at hy
    exact hi.inj _ _ b hx hy
 ·intro x hx
  by_cases e : x = o
  ·grind [dz]
  ·rw [iU _ _ e] at hx
   rw [cE _ _ e]; exact hi.dom x hx
 ·intro x ob hx
  by_cases e : x = o
  ·subst e
   rw [dz] at hx
   obtain rfl := Option.some.inj hx
   rw [bE]; exact hrep
  ·rw [iU _ _ e] at hx
   rw [cE _ _ e]
   refine (hi.obj x ob hx).ev ev (fun b hb => hw.blk b (hi.sep x b hb).2.1 (fun dK => e (hi.inj _ _ b hb dK)))
theorem zG (w : World) (ob : Obj) (old : Option Nat) : jk w (w.alloc ob) old :=
 ⟨rfl, rfl, rfl, by simp, fun b hb _ => heap_alloc_old w ob hb⟩
theorem Dg (t : TypeId) (v : Value) (w : World) : (newVar t v).run P w = .ok ⟨w.heap.size, 0, none⟩ (w.alloc (.cells v.cells t)) := by
 rfl
theorem Inv.newBox {im : Nat -> Prop} {μ : Mu} {s : ASt} {a : Act} {w : World} (hi : Inv C im μ s a w) {d o : Nat} (hd : d < C.n) (h0 : s.hp o = none) {c : AV} {cells : Array Value} {T : TypeId}
  (hc : RepA w im μ s.hp c cells.toList) :
  Inv C im (jj μ o (.at w.heap.size)) ⟨(s.put (some d) (.op o [] 0)).fr, aG s.hp [(o, .box c)]⟩ (a.put (some d) (.pointer (some ⟨w.heap.size, 0, none⟩))) (w.alloc (.cells cells T)) := by
 have fO : ∀ ob, s.hp o = some ob -> cA ob (μ o) (.box c) (.at w.heap.size) := fun ob h => by rw [h0] at h; cases h
 have hw : jk w (w.alloc (.cells cells T)) (μ o).blk := zG _ _ _
 have ev := hi.evObj fO hw
 refine hi.obj1 fO hw ?_ ?_ (fun d' h => by cases h; exact hd) ?_
 ·simp [Pl.blk, Option.some.injEq, Nat.le_refl]
 ·exact ⟨w.heap.size, cells, T, rfl, heap_alloc_new w _, RepA.ev ev _ _ hc⟩
 ·refine ⟨?_, rfl⟩
  grind [RepA, Value.cells, bE, dz]
variable {s : ASt} {dst : Option Tmp} {ty : TypeId} {pos : String} {bT : Array Edge} {gd : Option (Nat × Bool)}
theorem bo.cells {w : World} {im : Nat -> Prop} {μ : Mu} {hp : Hp} {a : AV} {v : Value} (h : bo w im μ hp a v) (hu : match a with | .undef => false | .tup _ => false | _ => true) : RepA w im μ hp a v.cells.toList /\ aY v = a.isAgg := by
 cases a <;> first
  | exact h
  | (simp at hu)
def AV.plain : AV -> Bool
 | .undef => false
 | .tup _ => false
 | _ => true
theorem bo.toA {w : World} {im : Nat -> Prop} {μ : Mu} {hp : Hp} {a : AV} {v : Value} (h : bo w im μ hp a v) (hu : a.plain = true) : RepA w im μ hp a v.cells.toList /\ aY v = a.isAgg := by
 cases a <;> first
  | exact h
  | (simp [AV.plain] at hu)
theorem Xv {d o : Nat} {t : TypeId} {x : Operand} {c : AV} (hx : s.ev C x = c) (hc : c.plain = true) (h0 : s.hp o = none) :
  bB P C ⟨some d, .box t x, ty, pos, bT, gd⟩ ⟨some d, .op o [] 0, [], [(o, .box c)]⟩ s := by
 intro s1 fj fA im μ a w hi hd
 have rG : s1.ev C x = c := (fj x (by simp [Op.operands])).trans hx
 have EY : s1.hp o = none := (fA o (.inr (by simp))).trans h0
 have hr := (rG ▸ hi.ev x).toA hc
 refine ⟨_, _, im, _, .inl ?_, hi.newBox (cells := (a.eval x).cells) (T := t) (hd d rfl) EY hr.1⟩
 rfl
def kg : (t : Ty) -> t.den
 | .int _ => (0 : Int)
 | .bool => false
 | .str => []
 | .flt _ => (0 : Nat)
 | .slice _ => []
 | .unit => ()
 | .pair a b => (kg a, kg b)
 | .arr n e => List.replicate n (kg e)
def fe : Ty -> List Value
 | .int k => [.int k 0]
 | .bool => [.bool false]
 | .str => [.string ⟨#[]⟩]
 | .flt k => [.float k 0]
 | .slice _ => [.slice none 0 0]
 | .unit => []
 | .pair a b => fe a ++ fe b
 | .arr n e => (List.replicate n (fe e)).flatten
theorem aR.replicate {α : Type} {R : List Value -> α -> Prop} {cs : List Value} {x : α} (h : R cs x) : ∀ n, aR R (List.replicate n cs).flatten (List.replicate n x)
 | 0 => rfl
 | n + 1 => ⟨cs, (List.replicate n cs).flatten, by simp [List.replicate_succ], h, aR.replicate h n⟩
theorem bZ (w : World) (im : Nat -> Prop) : ∀ t : Ty, aM w im t (fe t) (kg t)
 | .int _ => rfl
 | .bool => rfl
 | .str => rfl
 | .flt k => ⟨0, rfl, by cases k <;> decide +kernel⟩
 | .slice _ => ⟨none, 0, rfl, Nat.le_refl _, Nat.zero_le _, fun _ => rfl, rfl⟩
 | .unit => rfl
 | .pair a b => ⟨fe a, fe b, rfl, bZ w im a, bZ w im b⟩
 | .arr n e => ⟨by simp [kg], aR.replicate (bZ w im e) n⟩
def TyZ (P : Program) (t : TypeId) (ty : Ty) : Prop := ∃ i z, P.info? t = some i /\ i.zero = some z /\ z.cells.toList = fe ty
theorem rV {t : TypeId} {ty : Ty} (h : TyZ P t ty) (w : World) : ∃ z : Value, (zeroValue t).run P w = .ok z w /\ z.cells.toList = fe ty := by
 obtain ⟨i, z, hi, hz, hc⟩ := h
 exact ⟨z, by simp [zeroValue, typeInfo, hi, hz], hc⟩
inductive Sub : AV -> List Nat -> Nat -> AV -> Prop
 | here {v : AV} : Sub v [] 0 v
 | prH {a b : AV} {p : List Nat} {off : Nat} {u : AV} : Sub a p off u -> Sub (.pr a b) (0 :: p) off u
 | prT {a b : AV} {i : Nat} {p : List Nat} {off : Nat} {u : AV} : Sub b (i :: p) off u -> Sub (.pr a b) ((i + 1) :: p) (a.asize + off) u
 | dH {a b : Ty} {x : (Ty.pair a b).den} {p : List Nat} {off : Nat} {u : AV} : Sub (.d a x.1) p off u -> Sub (.d (.pair a b) x) (0 :: p) off u
 | dT {a b : Ty} {x : (Ty.pair a b).den} {i : Nat} {p : List Nat} {off : Nat} {u : AV} : Sub (.d b x.2) (i :: p) off u -> Sub (.d (.pair a b) x) ((i + 1) :: p) (a.size + off) u
 | arr {n : Nat} {e : Ty} {xs : List e.den} {y : e.den} {i : Nat} {p : List Nat} {off : Nat} {u : AV} : xs[i]? = some y -> Sub (.d e y) p off u -> Sub (.d (.arr n e) xs) (i :: p) (i * e.size + off) u
theorem Sub.sound {w : World} {im : Nat -> Prop} {μ : Mu} {hp : Hp} {v : AV} {p : List Nat} {off : Nat} {u : AV} (h : Sub v p off u) :
  ∀ cs, RepA w im μ hp v cs -> ∃ c1 c2 c3, cs = c1 ++ (c2 ++ c3) /\ c1.length = off /\ RepA w im μ hp u c2 := by
 induction h with
 | here => exact fun cs hr => ⟨[], cs, [], by simp, rfl, hr⟩
 | prH _ ih =>
  grind [RepA]
 | prT _ ih =>
  grind [RepA, List.length_append, RepA.length]
 | dH _ ih =>
  intro cs hr
  simp only [RepA] at hr
  obtain ⟨d1, d2, rfl, h1, h2⟩ := hr
  obtain ⟨c1, c2, c3, rfl, hl, hu⟩ := ih d1 (by simp only [RepA]; exact h1)
  grind
 | dT _ ih =>
  intro cs hr
  simp only [RepA] at hr
  obtain ⟨d1, d2, rfl, h1, h2⟩ := hr
  obtain ⟨c1, c2, c3, rfl, hl, hu⟩ := ih d2 (by simp only [RepA]; exact h2)
  grind [List.length_append, aM.length]
 | @arr n e xs y i p off u hx _ ih =>
  intro cs hr
  simp only [RepA] at hr
  obtain ⟨hn, hl⟩ := hr
  have hlen := aR.length (aM.length e) _ _ hl
  have hi : i < xs.length := (List.getElem?_eq_some_iff.1 hx).1
  obtain ⟨hg, hgl⟩ := aR.get (aM.length e) hl hx
  obtain ⟨c1, c2, c3, he, Ho, hu⟩ := ih _ (by simp only [RepA]; exact hg)
  refine ⟨cs.take (i * e.size) ++ c1, c2, c3 ++ cs.drop (i * e.size + e.size), ?_, ?_, hu⟩
  all_goals grind [List.drop_drop, List.take_append_drop, List.length_append, List.length_take, Nat.min_eq_left, Nat.mul_le_mul_right]
theorem AV.plain_of_RepA {w : World} {im : Nat -> Prop} {μ : Mu} {hp : Hp} {a : AV} {cs : List Value} (h : RepA w im μ hp a cs) : a.plain = true := by
 cases a <;> first
  | rfl
  | (simp only [RepA] at h)
theorem Dh {t : TypeId} {x : Operand} {τ : Ty} {y : τ.den} (hx : s.ev C x = .ip τ y) (ht : TyS P t τ.size τ.isAgg) :
  bB P C ⟨dst, .load t x, ty, pos, bT, gd⟩ ⟨dst, .d τ y, [], []⟩ s :=
 aW fun w im μ hp ρ h => by
  obtain ⟨hr, cy⟩ := hx ▸ h x (by simp [Op.operands])
  simp only [RepA] at hr
  obtain ⟨b, off, e, iC, ds, hc, hd⟩ := hr
  have hv : ρ x = .pointer (some ⟨b, off, none⟩) := by
   generalize ρ x = v at e cy
   cases v <;> simp_all [Value.cells, aY, AV.isAgg]
  have hl := hd.length
  have hA : RepA w im μ hp (.d τ y) ds := by simp only [RepA]; exact hd
  refine ⟨iq τ.isAgg ds, ?_, hA.toV⟩
  simp only [execOp, hv, Instr.loadAt, Instr.sureAddr, Sem.run_bind, Sem.run_pure, Result.andThen_ok]
  rw [iT ht w hc hl (fun cy => by have := gG (a := .d τ y) cy; simpa [AV.asize] using this)]
  rfl
theorem pC {w : World} {im : Nat -> Prop} {μ : Mu} {hp : Hp} {o : Nat} {p : List Nat} {off : Nat} {v : Value} (h : bo w im μ hp (.op o p off) v) :
  ∃ b u, μ o = .at b /\ hp o = some (.box u) /\ v = .pointer (some ⟨b, off, none⟩) := by
 obtain ⟨hr, cy⟩ := h
 simp only [RepA] at hr
 obtain ⟨b, u, h1, h2, h3⟩ := hr
 refine ⟨b, u, h1, h2, ?_⟩
 cases v <;> simp_all [Value.cells, aY, AV.isAgg]
theorem cp {w : World} {b : Nat} {cells : Array Value} {T : TypeId} {fr : Nat × Nat} (h : w.heap[b]? = some (.cells cells T fr)) : bX w b 0 cells.toList := by
 intro j v hj
 rw [Array.getElem?_toList] at hj
 simp [World.cell?, h, hj]
theorem Di {t : TypeId} {x : Operand} {o : Nat} {p : List Nat} {off off' : Nat} {v u : AV} (hx : s.ev C x = .op o p off) (hp : s.hp o = some (.box v)) (hs : Sub v p off' u) (ho : off' = off)
  (ht : TyS P t u.asize u.isAgg) : bB P C ⟨dst, .load t x, ty, pos, bT, gd⟩ ⟨dst, u, [o], []⟩ s :=
 df [o] fun w im μ bp ρ h hk dK => by
  subst ho
  obtain ⟨b, u', h1, h2, hv⟩ := pC (hx ▸ h x (by simp [Op.operands]))
  have qE : bp o = some (.box v) := (hk o (by simp)).trans hp
  obtain ⟨b', cells, T, he, hc, hr⟩ := dK o _ qE
  obtain rfl : b' = b := by rw [h1] at he; cases he; rfl
  obtain ⟨c1, c2, c3, pw, hl, hu⟩ := hs.sound _ hr
  have hca := cp hc
  rw [pw] at hca
  have hca2 := (bX.append hca).2
  rw [Nat.zero_add, hl] at hca2
  have hca3 := (bX.append hca2).1
  refine ⟨iq u.isAgg c2, w, ?_, rfl, rfl, rfl, rfl, hu.toV⟩
  simp only [execOp, hv, Instr.loadAt, Instr.sureAddr, Sem.run_bind, Sem.run_pure, Result.andThen_ok]
  rw [iT ht w hca3 (RepA.length _ _ hu) (fun cy => gG cy)]
  rfl
def zH (P : Program) (t : TypeId) (f k : Nat) : Prop := ∃ fs fld i, P.underlying t = some (.struct fs) /\ fs[f]? = some fld /\ fld.offset = k /\ P.info? fld.type = some i /\ i.size ≠ 0
theorem lJ {t : TypeId} {f k : Nat} (h : zH P t f k) (w : World) (b off : Nat) : (Instr.fieldAt t (.pointer (some ⟨b, off, none⟩)) f).run P w = .ok (.pointer (some ⟨b, off + k, none⟩)) w := by
 obtain ⟨fs, fld, i, h1, h2, rfl, h4, h5⟩ := h
 simp [Instr.fieldAt, run_underlying h1, h2, Instr.sureAddr, fieldPlace, sizeOf, typeInfo, h4, h5, cT]
theorem zJ {t : TypeId} {x : Operand} {f k o : Nat} {p p' : List Nat} {off off' : Nat} (hx : s.ev C x = .op o p off) (hf : zH P t f k) (_hp : p ++ [f] = p') (ho : off + k = off') :
  bB P C ⟨dst, .fieldAddr t x f, ty, pos, bT, gd⟩ ⟨dst, .op o p' off', [], []⟩ s :=
 aW fun w im μ bp ρ h => by
  subst ho
  obtain ⟨b, u', h1, h2, hv⟩ := pC (hx ▸ h x (by simp [Op.operands]))
  refine ⟨.pointer (some ⟨b, off + k, none⟩), ?_, ⟨?_, rfl⟩⟩
  ·simp only [execOp, hv, Sem.run_bind, lJ hf, Result.andThen_ok]; rfl
  grind [RepA, Value.cells]
theorem zK {t : TypeId} {x : Operand} {f k off' : Nat} {τ Hq : Ty} {y : τ.den} {y' : Hq.den} (hx : s.ev C x = .ip τ y) (hf : zH P t f k) (hs : Sub (.d τ y) [f] off' (.d Hq y')) (ho : off' = k) :
  bB P C ⟨dst, .fieldAddr t x f, ty, pos, bT, gd⟩ ⟨dst, .ip Hq y', [], []⟩ s :=
 aW fun w im μ hp ρ h => by
  subst ho
  obtain ⟨hr, cy⟩ := hx ▸ h x (by simp [Op.operands])
  simp only [RepA] at hr
  obtain ⟨b, off, e, iC, ds, hc, hd⟩ := hr
  have hv : ρ x = .pointer (some ⟨b, off, none⟩) := by
   generalize ρ x = v at e cy
   cases v <;> simp_all [Value.cells, aY, AV.isAgg]
  obtain ⟨c1, c2, c3, pw, hl, hu⟩ := hs.sound (w := w) (im := im) (μ := μ) (hp := hp) ds (by simp only [RepA]; exact hd)
  subst pw
  have hca2 := (bX.append hc).2
  rw [hl] at hca2
  refine ⟨.pointer (some ⟨b, off + off', none⟩), ?_, ⟨?_, rfl⟩⟩
  ·simp only [execOp, hv, Sem.run_bind, lJ hf, Result.andThen_ok]; rfl
  ·simp only [RepA, Value.cells] at hu ⊢
   exact ⟨b, off + off', rfl, iC, c2, (bX.append hca2).1, hu⟩
inductive jl : AV -> List Nat -> Nat -> AV -> AV -> Prop
 | here {v u : AV} : u.asize = v.asize -> jl v [] 0 u u
 | prH {a b a' : AV} {p : List Nat} {off : Nat} {u : AV} : jl a p off u a' -> jl (.pr a b) (0 :: p) off u (.pr a' b)
 | prT {a b b' : AV} {i : Nat} {p : List Nat} {off : Nat} {u : AV} : jl b (i :: p) off u b' -> jl (.pr a b) ((i + 1) :: p) (a.asize + off) u (.pr a b')
 | dHp {a b : Ty} {x : (Ty.pair a b).den} {a' : AV} {p : List Nat} {off : Nat} {u : AV} : jl (.d a x.1) p off u a' -> jl (.d (.pair a b) x) (0 :: p) off u (.pr a' (.d b x.2))
 | dTp {a b : Ty} {x : (Ty.pair a b).den} {b' : AV} {i : Nat} {p : List Nat} {off : Nat} {u : AV} : jl (.d b x.2) (i :: p) off u b' -> jl (.d (.pair a b) x) ((i + 1) :: p) (a.size + off) u (.pr (.d a x.1) b')
 | dH {a b : Ty} {x : (Ty.pair a b).den} {y : a.den} {p : List Nat} {off : Nat} {u : AV} : jl (.d a x.1) p off u (.d a y) -> jl (.d (.pair a b) x) (0 :: p) off u (.d (.pair a b) (y, x.2))
 | dT {a b : Ty} {x : (Ty.pair a b).den} {y : b.den} {i : Nat} {p : List Nat} {off : Nat} {u : AV} : jl (.d b x.2) (i :: p) off u (.d b y) -> jl (.d (.pair a b) x) ((i + 1) :: p) (a.size + off) u (.d (.pair a b) (x.1, y))
 | arr {n : Nat} {e : Ty} {xs : List e.den} {y y' : e.den} {i : Nat} {p : List Nat} {off : Nat} {u : AV} : xs[i]? = some y -> jl (.d e y) p off u (.d e y') ->
   jl (.d (.arr n e) xs) (i :: p) (i * e.size + off) u (.d (.arr n e) (xs.set i y'))
theorem jl.sound {w : World} {im : Nat -> Prop} {μ : Mu} {hp : Hp} {v : AV} {p : List Nat} {off : Nat} {u v' : AV} (h : jl v p off u v') :
  ∀ cs, RepA w im μ hp v cs -> ∀ ds, RepA w im μ hp u ds -> ∃ c1 c2 c3, cs = c1 ++ (c2 ++ c3) /\ c1.length = off /\ c2.length = ds.length /\ RepA w im μ hp v' (c1 ++ (ds ++ c3)) := by
 induction h with
 | here fP => exact fun cs hr ds hd => ⟨[], cs, [], by simp, rfl, by rw [RepA.length _ _ hr, RepA.length _ _ hd, fP], by simpa using hd⟩
 | prH _ ih =>
  grind [RepA]
 | prT _ ih =>
  intro cs hr ds hd
  simp only [RepA] at hr
  obtain ⟨d1, d2, rfl, h1, h2⟩ := hr
  obtain ⟨c1, c2, c3, rfl, hl, j1, hu⟩ := ih d2 h2 ds hd
  exact ⟨d1 ++ c1, c2, c3, by simp, by rw [List.length_append, RepA.length _ _ h1, hl], j1, by simp only [RepA]; exact ⟨d1, _, by simp, h1, hu⟩⟩
 | dHp _ ih =>
  intro cs hr ds hd
  simp only [RepA] at hr
  obtain ⟨d1, d2, rfl, h1, h2⟩ := hr
  obtain ⟨c1, c2, c3, rfl, hl, j1, hu⟩ := ih d1 (by simp only [RepA]; exact h1) ds hd
  exact ⟨c1, c2, c3 ++ d2, by simp, hl, j1, by simp only [RepA]; exact ⟨_, d2, by simp, hu, h2⟩⟩
 | dTp _ ih =>
  intro cs hr ds hd
  simp only [RepA] at hr
  obtain ⟨d1, d2, rfl, h1, h2⟩ := hr
  obtain ⟨c1, c2, c3, rfl, hl, j1, hu⟩ := ih d2 (by simp only [RepA]; exact h2) ds hd
  exact ⟨d1 ++ c1, c2, c3, by simp, by rw [List.length_append, aM.length _ _ _ h1, hl], j1, by simp only [RepA]; exact ⟨d1, _, by simp, h1, hu⟩⟩
 | dH _ ih =>
  intro cs hr ds hd
  simp only [RepA] at hr
  obtain ⟨d1, d2, rfl, h1, h2⟩ := hr
  obtain ⟨c1, c2, c3, rfl, hl, j1, hu⟩ := ih d1 (by simp only [RepA]; exact h1) ds hd
  simp only [RepA] at hu
  exact ⟨c1, c2, c3 ++ d2, by simp, hl, j1, by simp only [RepA]; exact ⟨_, d2, by simp, hu, h2⟩⟩
 | dT _ ih =>
  intro cs hr ds hd
  simp only [RepA] at hr
  obtain ⟨d1, d2, rfl, h1, h2⟩ := hr
  obtain ⟨c1, c2, c3, rfl, hl, j1, hu⟩ := ih d2 (by simp only [RepA]; exact h2) ds hd
  simp only [RepA] at hu
  exact ⟨d1 ++ c1, c2, c3, by simp, by rw [List.length_append, aM.length _ _ _ h1, hl], j1, by simp only [RepA]; exact ⟨d1, _, by simp, h1, hu⟩⟩
 | @arr n e xs y y' i p off u hx _ ih =>
  intro cs hr ds hd
  simp only [RepA] at hr
  obtain ⟨hn, hl⟩ := hr
  have hlen := aR.length (aM.length e) _ _ hl
  have hi : i < xs.length := (List.getElem?_eq_some_iff.1 hx).1
  obtain ⟨hg, hgl⟩ := aR.get (aM.length e) hl hx
  obtain ⟨c1, c2, c3, he, Ho, j1, hu⟩ := ih _ (by simp only [RepA]; exact hg) ds hd
  simp only [RepA] at hu
  have e1 : cs = cs.take (i * e.size) ++ ((cs.drop (i * e.size)).take e.size ++ cs.drop (i * e.size + e.size)) := by
   rw [← List.drop_drop, List.take_append_drop, List.take_append_drop]
  refine ⟨cs.take (i * e.size) ++ c1, c2, c3 ++ cs.drop (i * e.size + e.size), ?_, ?_, j1, ?_⟩
  ·rw [he] at e1
   simpa using e1
  ·rw [List.length_append, List.length_take, hlen, Ho, Nat.min_eq_left]
   exact Nat.mul_le_mul_right _ (by omega)
  ·simp only [RepA]
   refine ⟨by simpa using hn, ?_⟩
   have := aR.set (aM.length e) hl hi hu
   rw [Nat.add_mul, Nat.one_mul] at this
   simpa using this
theorem nh {t : TypeId} {n : Nat} {agg : Bool} (h : TyS P t n agg) (w : World) {b off : Nat} {cells : Array Value} {T : TypeId} (hb : w.heap[b]? = some (.cells cells T (0, 0))) {v : Value} {c1 c2 c3 : List Value}
  (pw : cells.toList = c1 ++ (c2 ++ c3)) (Ho : c1.length = off) (j1 : c2.length = v.cells.toList.length) (hn : v.cells.toList.length = n) (h1 : ∀ x ∈ v.cells.toList, x.oneCell' = true) :
  (storeVar t ⟨b, off, none⟩ v).run P w = .ok () (w.setRow b (c1 ++ (v.cells.toList ++ c3)).toArray) := by
 have fP : v.cells.size = n := by rw [← hn]; simp
 have hfit : off + 0 + v.cells.toList.length <= cells.size := by
  grind [Array.length_toList, List.length_append]
 have kf := run_storeCells_at P b off T v.cells.toList 0 cells w hb hfit h1
 unfold storeVar
 simp only [Sem.run_bind, lI h, Result.andThen_ok, fP]
 grind
theorem zL {t : TypeId} {x y : Operand} {o : Nat} {p : List Nat} {off off' : Nat} {v u v' : AV} (hx : s.ev C x = .op o p off) (hy : s.ev C y = u) (hu : u.plain = true) (hp : s.hp o = some (.box v)) (hs : jl v p off' u v')
  (ho : off' = off) {agg : Bool} (ht : TyS P t u.asize agg) : bB P C ⟨none, .store t x y, ty, pos, bT, gd⟩ ⟨none, .undef, [], [(o, .box v')]⟩ s := by
 intro s1 fj fA im μ a w hi hd
 subst ho
 have rG : s1.ev C x = .op o p off' := (fj x (by simp [Op.operands])).trans hx
 have hy1 : s1.ev C y = u := (fj y (by simp [Op.operands])).trans hy
 have iQ : s1.hp o = some (.box v) := (fA o (.inr (by simp))).trans hp
 obtain ⟨b, u', h1, h2, hv⟩ := pC (rG ▸ hi.ev x)
 obtain ⟨PZ, hua⟩ := (hy1 ▸ hi.ev y).toA hu
 obtain ⟨b', cells, T, he, hc, hr⟩ := hi.obj o _ iQ
 obtain rfl : b' = b := by rw [h1] at he; cases he; rfl
 obtain ⟨c1, c2, c3, pw, Ho, j1, hnew⟩ := hs.sound _ hr _ PZ
 have hrun := nh ht w hc pw Ho j1 (RepA.length _ _ PZ) (RepA.one _ _ PZ)
 have fO : ∀ ob, s1.hp o = some ob -> cA ob (μ o) (.box v') (.at b') := by
  intro ob dK
  rw [iQ] at dK
  obtain rfl := Option.some.inj dK
  exact h1.symm
 have hw : jk w (w.setRow b' (c1 ++ ((a.eval y).cells.toList ++ c3)).toArray) (μ o).blk :=
  ⟨rfl, rfl, rfl, by simp [World.setRow], fun k _ hk => setRow_other w b' k _ (fun e => hk (by rw [h1, e]; rfl))⟩
 have ev := hi.evObj fO hw
 refine ⟨Go.undef, _, im, _, .inr ⟨rfl, ?_⟩, hi.obj1 (dst := none) fO hw ?_ ?_ (fun d h => by cases h) trivial⟩
 ·simp only [execOp, hv, Instr.storeAt, Instr.sureAddr, Sem.run_bind, Sem.run_pure, Result.andThen_ok, hrun]
 ·intro k hk
  cases hk
  have bJ : b' < w.heap.size := (Array.getElem?_eq_some_iff.1 hc).1
  exact ⟨by simpa [World.setRow] using bJ, .inl (by rw [h1]; rfl)⟩
 ·exact ⟨b', _, T, rfl, setRow_heap w b' _ _ _ _ hc, RepA.ev ev _ _ (by simpa using hnew)⟩
theorem RepFs.get {w : World} {im : Nat -> Prop} {μ : Mu} {hp : Hp} : ∀ {l : List AV} {vs : List Value} {i : Nat} {a : AV}, RepFs w im μ hp l vs -> l[i]? = some a -> ∃ v, vs[i]? = some v /\ RepA w im μ hp a v.cells.toList /\ aY v = a.isAgg
 | b :: l, vs, 0, a, h, ha => by
  grind [RepFs]
 | b :: l, vs, i + 1, a, h, ha => by
  simp only [RepFs] at h
  obtain ⟨v, us, rfl, _, _, h3⟩ := h
  obtain ⟨v', h4, h5⟩ := RepFs.get h3 (by simpa using ha)
  grind
 | [], _, _, _, _, ha => by simp at ha
theorem bo.ofA {w : World} {im : Nat -> Prop} {μ : Mu} {hp : Hp} {a : AV} {v : Value} (h : RepA w im μ hp a v.cells.toList) (cy : aY v = a.isAgg) : bo w im μ hp a v := by
 cases a <;> first
  | trivial
  | exact ⟨h, cy⟩
  | (simp only [RepA] at h)
theorem Dj {x : Operand} {i : Nat} {l : List AV} {av : AV} (hx : s.ev C x = .tup l) (hl : l[i]? = some av) : bB P C ⟨dst, .extract x i, ty, pos, bT, gd⟩ ⟨dst, av, [], []⟩ s :=
 aW fun w im μ hp ρ h => by
  obtain ⟨vs, hv, hr⟩ := hx ▸ h x (by simp [Op.operands])
  obtain ⟨v, h1, h2, h3⟩ := RepFs.get hr hl
  refine ⟨v, ?_, bo.ofA h2 h3⟩
  simp [execOp, hv, Instr.extract, h1]
def ad3 (P : Program) (t : TypeId) (f k n : Nat) (agg : Bool) : Prop := ∃ fs fld, P.underlying t = some (.struct fs) /\ fs[f]? = some fld /\ fld.offset = k /\ TyS P fld.type n agg
theorem zM {t : TypeId} {n : Nat} {agg : Bool} (h : TyS P t n agg) (w : World) {cs : Array Value} {c1 c2 c3 : List Value} (pw : cs.toList = c1 ++ (c2 ++ c3)) (hl : c2.length = n) (h1 : agg = false -> n = 1) :
  (part t cs c1.length).run P w = .ok (iq agg c2) w := by
 have hcs' : cs = (c1 ++ (c2 ++ c3)).toArray := by rw [← pw]
 unfold part
 simp only [Sem.run_bind, rU h, Result.andThen_ok]
 cases agg with
 | true =>
  simp only [if_true, Sem.run_bind, lI h, Result.andThen_ok, Sem.run_pure, iq]
  simp_all
 | false =>
  have hn := h1 rfl
  match c2, hl with
  | [c], _ =>
   simp_all [iq]
  | [], hl => simp at hl; omega
  | _ :: _ :: _, hl => simp at hl; omega
theorem HD {t : TypeId} {x : Operand} {f k off' : Nat} {v u : AV} (hx : s.ev C x = v) (hv : v.plain = true) (hva : v.isAgg = true) (hs : Sub v [f] off' u) (hf : ad3 P t f k u.asize u.isAgg) (ho : off' = k) :
  bB P C ⟨dst, .field t x f, ty, pos, bT, gd⟩ ⟨dst, u, [], []⟩ s :=
 aW fun w im μ hp ρ h => by
  subst ho
  obtain ⟨hr, cy⟩ := (hx ▸ h x (by simp [Op.operands])).toA hv
  obtain ⟨fs, fld, hu, hfl, hoff, hts⟩ := hf
  obtain ⟨c1, c2, c3, pw, hl, hu2⟩ := hs.sound _ hr
  obtain ⟨cells, hcell⟩ : ∃ cells, ρ x = .agg cells := by
   rw [hva] at cy
   generalize ρ x = v at cy
   cases v <;> simp_all [aY]
  rw [hcell] at pw
  refine ⟨iq u.isAgg c2, ?_, hu2.toV⟩
  have hp := zM hts w (cs := cells) pw (RepA.length _ _ hu2) (fun cy => gG cy)
  simp only [execOp, hcell, Instr.field, Sem.run_bind, run_underlying hu, Result.andThen_ok, hfl, hoff, asAgg, Sem.run_pure]
  simp_all
end
end Go.Vm
