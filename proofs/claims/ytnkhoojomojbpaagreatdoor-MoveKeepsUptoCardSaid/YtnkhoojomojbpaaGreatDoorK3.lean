/- Part C of the abstract machine: judgements on code (AW), on regions in the text's order and in whatever order (RunN, RunD), and their rules. -/
import Derived.Test.YtnkhoojomojbpaaGreatDoorK2
namespace Go.Vm
def iR : Value -> AV
 | .int k n => .d (.int k) n
 | .bool b => .d .bool b
 | .string s => .d .str s.data.toList
 | .float k b => .d (.flt k) (ca k b)
 | .slice none 0 0 => .nils
 | .pointer none => .nilp
 | .nilFunc => .nilfn
 | .nilIface => .nilif
 | _ => .undef
def ASt.ev (C : Ctx) (s : ASt) : Operand -> AV
 | .tmp t => s.fr t
 | .const v => iR v
 | .global g => (C.Γ g).getD .undef
 | .func f => .fn (.func f) [] []
theorem aP (w : World) (im : Nat -> Prop) (μ : Mu) (hp : Hp) (v : Value) : bo w im μ hp (iR v) v := by
 unfold iR
 split <;> first
  | trivial
  | (refine ⟨?_, rfl⟩; simp [RepA, aM, Value.cells]; done)
theorem Inv.ev {C : Ctx} {im : Nat -> Prop} {μ : Mu} {s : ASt} {a : Act} {w : World} (h : Inv C im μ s a w) (x : Operand) : bo w im μ s.hp (s.ev C x) (a.eval x) := by
 cases x with
 | tmp t => exact h.fr t
 | const v => exact aP _ _ _ _ _
 | global g =>
  simp only [ASt.ev, Act.eval]
  cases hg : C.Γ g with
  | none => trivial
  | some v => exact h.glob g v hg
 | func f =>
  refine ⟨?_, rfl⟩
  simp only [RepA, ASt.ev, Act.eval, Value.cells]
  grind [RepFs]
inductive AEx where
 | normal
 | exit (id : Nat)
 | ret
 | panic (t : TypeId) (n : Int)
def AEx.real : AEx -> Exit
 | .normal => .normal
 | .exit id => .exit id
 | .ret => .ret
 | .panic t n => .panic [{ v := .iface t (.int .i64 n), recovered := false }]
def AEx.thn (N : ASt -> Prop) (Q : AEx -> ASt -> Prop) : AEx -> ASt -> Prop
 | .normal, s => N s
 | .exit id, s => Q (.exit id) s
 | .ret, s => Q .ret s
 | .panic t n, s => Q (.panic t n) s
def AEx.inBlk (id : Nat) (Q : AEx -> ASt -> Prop) : AEx -> ASt -> Prop
 | .normal, s => Q .normal s
 | .exit i, s => bif Nat.beq i id then Q .normal s else Q (.exit i) s
 | .ret, s => Q .ret s
 | .panic t n, s => Q (.panic t n) s
def lft (C : Ctx) (Q : AEx -> ASt -> Prop) : Exit -> Act -> World -> Prop := fun e a w => ∃ ae s, e = ae.real /\ Q ae s /\ Rel C s a w
def fen (rd : Option Nat) : Fence := { Fence.wide with round := rd }
theorem nA (rd : Option Nat) (f : FuncId) : (fen rd).fn f := trivial
def AW (P : Program) (C : Ctx) (c : Code) (Q : AEx -> ASt -> Prop) (s : ASt) : Prop := ∀ a w, Rel C s a w -> c.wpIn (fen C.rd) 0 P (lft C Q) a w
theorem qF {P : Program} {ρ : Operand -> Value} {o : Oper} {w w' : World} {v : Value} (h : (execOp ρ o).run P w = .ok (.value v) w' \/ (execOp ρ o).run P w = .ok .skip w') : ∀ c, o.op ≠ .defer c := by
 intro c hc
 have key : ∀ x w'', (execOp ρ o).run P w = .ok x w'' -> ∃ d, x = .defer d := by
  intro x w'' hx
  simp only [execOp, hc, Sem.run_bind, Sem.run_pure] at hx
  cases hr : (resolve ρ c o.type).run P w with
  | ok d w1 => rw [hr] at hx; simp only [Result.andThen_ok] at hx; cases hx; exact ⟨_, rfl⟩
  | halt h w1 => rw [hr] at hx; simp [Result.andThen] at hx
 grind
def Le (C : Ctx) (s s' : ASt) : Prop := ∀ a w, Rel C s a w -> Rel C s' a w
section
variable {P : Program} {C : Ctx} {Q : AEx -> ASt -> Prop} {s : ASt}
theorem Le.refl (C : Ctx) (s : ASt) : Le C s s := fun _ _ h => h
theorem Le.trans {s1 s2 s3 : ASt} (h : Le C s1 s2) (h' : Le C s2 s3) : Le C s1 s3 := fun a w hr => h' a w (h a w hr)
theorem iZ {c : Code} {s' : ASt} (hl : Le C s s') (h : AW P C c Q s') : AW P C c Q s := fun a w hr => h a w (hl a w hr)
theorem q9 {c : Code} {Q' : AEx -> ASt -> Prop} (h : AW P C c Q s) (hq : ∀ e s', Q e s' -> Q' e s') : AW P C c Q' s :=
 fun a w hr => wpIn_mono (h a w hr) fun e a' w' hx => by obtain ⟨ae, s', he, hq', lj⟩ := hx; exact ⟨ae, s', he, hq _ _ hq', lj⟩
theorem P3 (h : Q .normal s) : AW P C .skip Q s := fun _ _ hr => wpIn_skip ⟨.normal, s, rfl, h, hr⟩
theorem Ka {l : Nat} (h : Q .normal s) : AW P C (.label l) Q s := fun _ _ hr => wpIn_label ⟨.normal, s, rfl, h, hr⟩
theorem Xl (h : Q .ret s) : AW P C .ret Q s := fun _ _ hr => wpIn_ret ⟨.ret, s, rfl, h, hr⟩
theorem P4 {id : Nat} (h : Q (.exit id) s) : AW P C (.exit id) Q s := fun _ _ hr => wpIn_exit ⟨.exit id, s, rfl, h, hr⟩
theorem Xm {x y : Code} (h : AW P C x (AEx.thn (fun s' => AW P C y Q s') Q) s) : AW P C (.seq x y) Q s := fun a w hr =>
 wpIn_seq (wpIn_mono (h a w hr) fun e a' w' hx => by
  obtain ⟨ae, s', rfl, hq, lj⟩ := hx
  cases ae with
  | normal => exact hq a' w' lj
  | exit id => exact ⟨.exit id, s', rfl, hq, lj⟩
  | ret => exact ⟨.ret, s', rfl, hq, lj⟩
  | panic t n => exact ⟨.panic t n, s', rfl, hq, lj⟩)
theorem Kb {id : Nat} {c : Code} (h : AW P C c (AEx.inBlk id Q) s) : AW P C (.block id c) Q s := fun a w hr =>
 wpIn_block (wpIn_mono (h a w hr) fun e a' w' hx => by
  obtain ⟨ae, s', rfl, hq, lj⟩ := hx
  cases ae with
  | normal => exact ⟨.normal, s', rfl, hq, lj⟩
  | exit i =>
   simp only [AEx.real, Exit.inBlock]
   simp only [AEx.inBlk] at hq
   by_cases hi : i = id
   ·subst hi
    simp only [if_true]
    simp at hq
    exact ⟨.normal, s', rfl, hq, lj⟩
   ·rw [if_neg hi]
    have : Nat.beq i id = false := by rw [← Bool.not_eq_true]; intro hb; exact hi (bj hb)
    rw [this] at hq
    exact ⟨.exit i, s', rfl, hq, lj⟩
  | ret => exact ⟨.ret, s', rfl, hq, lj⟩
  | panic t n => exact ⟨.panic t n, s', rfl, hq, lj⟩)
theorem P5 {c : Operand} {x y : Code} {b : Bool} (hc : s.ev C c = .d .bool b) (ht : b = true -> AW P C x Q s) (hf : b = false -> AW P C y Q s) : AW P C (.cond c x y) Q s := by
 intro a w hr
 have lj := hr
 obtain ⟨im, μ, hi⟩ := hr
 have he := hi.ev c
 rw [hc] at he
 have hv : a.eval c = .bool b := by
  generalize a.eval c = v at he
  obtain ⟨he, cy⟩ := he
  cases v <;> simp_all [RepA, aM, Value.cells, aY, AV.isAgg, Ty.isAgg]
 cases b with
 | true => exact wpIn_cond_true hv (ht rfl a w lj)
 | false => exact wpIn_cond_false hv (hf rfl a w lj)
theorem kQ {p : Nat -> Prop} (h : ∃ n, p n) : ∃ n, p n /\ ∀ m, p m -> n <= m := by
 obtain ⟨n, hn⟩ := h
 induction n using Nat.strongRecOn with
 | _ n ih =>
  grind
open Classical in
theorem zr {F : Fence} {N : Nat} {c : Code} {Q : Exit -> Act -> World -> Prop} (J : Nat -> Act -> World -> Prop) {n : Nat} {a : Act} {w : World} (h0 : J n a w)
  (round : ∀ n a w, J n a w -> c.wpIn F N P (Exit.then (fun a' w' => ∃ m, m < n /\ J m a' w') Q) a w) : (Code.loop c).wpIn F N P Q a w := by
 refine wpIn_loop (fun a w => ∃ n, J n a w) (fun a w => if h : ∃ n, J n a w then Classical.choose (kQ h) else 0) ⟨n, h0⟩ ?_
 intro a w hex
 have hmin := (Classical.choose_spec (kQ hex)).1
 refine wpIn_mono (round _ a w hmin) fun e a' w' hq => ?_
 cases e with
 | normal =>
  obtain ⟨m, hm, hj⟩ := hq
  have hex' : ∃ n, J n a' w' := ⟨m, hj⟩
  refine ⟨hex', ?_⟩
  simp only [dif_pos hex, dif_pos hex']
  exact Nat.lt_of_le_of_lt ((Classical.choose_spec (kQ hex')).2 _ hj) hm
 | _ => exact hq
theorem P6 {c : Code} (J : Nat -> ASt -> Prop) {n : Nat} (h0 : J n s)
  (round : ∀ n s, J n s -> AW P C c (AEx.thn (fun s' => ∃ m qD, m < n /\ Le C s' qD /\ J m qD) Q) s) : AW P C (.loop c) Q s := by
 intro a w hr
 refine zr (fun n a w => ∃ s, J n s /\ Rel C s a w) ⟨s, h0, hr⟩ ?_
 rintro n a w ⟨s, hj, hr⟩
 refine wpIn_mono (round n s hj a w hr) fun e a' w' hx => ?_
 obtain ⟨ae, s', rfl, hq, lj⟩ := hx
 cases ae with
 | normal =>
  obtain ⟨m, qD, hm, hle, hj'⟩ := hq
  exact ⟨m, hm, qD, hj', hle _ _ lj⟩
 | exit id => exact ⟨.exit id, s', rfl, hq, lj⟩
 | ret => exact ⟨.ret, s', rfl, hq, lj⟩
 | panic t n => exact ⟨.panic t n, s', rfl, hq, lj⟩
end
structure Eff where
 dst : Option Nat
 val : AV
 rd : List Nat
 wr : List (Nat × aj)
def aG (hp : Hp) (wr : List (Nat × aj)) : Hp := fun o => match wr.find? (fun p => Nat.beq p.1 o) with | some p => some p.2 | none => hp o
def Eff.app (e : Eff) (s : ASt) : ASt := ⟨(s.put e.dst e.val).fr, aG s.hp e.wr⟩
def jg (P : Program) (C : Ctx) (ops : Array Oper) (i : Nat) (s : ASt) (e : Eff) : Prop :=
 ∀ o, ops[i]? = some o -> (∀ d, o.dst = some d -> d < C.n) -> e.dst = o.dst /\
 ∀ s1 : ASt, (∀ x ∈ o.looksAt ops, s1.fr x = s.fr x) -> (∀ k, (k ∈ e.rd \/ k ∈ e.wr.map (·.1)) -> s1.hp k = s.hp k) ->
 ∀ a w, Rel C s1 a w -> ∀ (K : Act -> World -> Prop) (Q : Exit -> Act -> World -> Prop), (∀ a' w', Rel C (e.app s1) a' w' -> K a' w') -> wpOpIn (fen C.rd) 0 P ops Q i K a w
def cz (ops : Array Oper) (n : Nat) : Bool := ops.toList.all fun o => match o.dst with | some d => Nat.blt d n | none => true
theorem bK {ops : Array Oper} {n : Nat} (h : cz ops n = true) {i : Nat} {o : Oper} (ho : ops[i]? = some o) : ∀ d, o.dst = some d -> d < n := by
 intro d hd
 have hm : o ∈ ops.toList := Array.mem_toList_iff.2 (Array.mem_of_getElem? ho)
 have := List.all_eq_true.1 h o hm
 simp_all
section
variable {P : Program} {C : Ctx} {Q : AEx -> ASt -> Prop} {s : ASt} {ops : Array Oper} {K : ASt -> Prop}
def C5 (P : Program) (C : Ctx) (ops : Array Oper) (Q : AEx -> ASt -> Prop) (i : Nat) (s : ASt) (K : ASt -> Prop) : Prop :=
 ∀ a w, Rel C s a w -> wpOpsIn (fen C.rd) 0 P ops (lft C (AEx.thn K Q)) (List.range' i (ops.size - i)) a w
theorem Kc (h : K s) : C5 P C ops Q ops.size s K := by
 intro a w hr
 simp only [Nat.sub_self, List.range'_zero, wpOpsIn]
 exact ⟨.normal, s, rfl, h, hr⟩
theorem ve {i : Nat} {e : Eff} (hi : i < ops.size) (hn : cz ops C.n = true) (h : jg P C ops i s e) (hk : C5 P C ops Q (i + 1) (e.app s) K) : C5 P C ops Q i s K := by
 intro a w hr
 have ho : ops[i]? = some ops[i] := Array.getElem?_eq_getElem hi
 obtain ⟨_, h⟩ := h _ ho (bK hn ho)
 rw [show ops.size - i = (ops.size - (i + 1)) + 1 by omega, List.range'_succ, wpOpsIn_cons]
 exact h s (fun _ _ => rfl) (fun _ _ => rfl) a w hr _ _ fun a' w' lj => hk a' w' lj
theorem Hu {id : Nat} (h : C5 P C ops Q 0 s (fun s' => Q .normal s')) : AW P C (.region id ops false) Q s := by
 intro a w hr
 refine wpIn_region ?_
 have := h a w hr
 rw [Nat.sub_zero, ← List.range_eq_range'] at this
 have e : lft C (AEx.thn (fun s' => Q .normal s') Q) = lft C Q := by
  funext e a w
  simp only [lft, eq_iff_iff]
  constructor
  ·rintro ⟨ae, s', he, hq, hr⟩; exact ⟨ae, s', he, by cases ae <;> exact hq, hr⟩
  ·rintro ⟨ae, s', he, hq, hr⟩; exact ⟨ae, s', he, by cases ae <;> exact hq, hr⟩
 rwa [e] at this
def bY (s : ASt) : List Eff -> (Nat -> Bool) -> Nat -> ASt
 | [], _, _ => s
 | e :: es, L, i => bY (bif L i then e.app s else s) es L (i + 1)
def lE (P : Program) (C : Ctx) (ops : Array Oper) : Nat -> ASt -> List Eff -> Prop
 | _, _, [] => True
 | i, s, e :: es => jg P C ops i s e /\ lE P C ops (i + 1) (e.app s) es
def db (s : ASt) : List Eff -> ASt
 | [] => s
 | e :: es => db (e.app s) es
theorem Eff.app_fr_ne {e : Eff} {s : ASt} {x : Nat} (h : e.dst ≠ some x) : (e.app s).fr x = s.fr x := by
 obtain ⟨dst, val, rd, wr⟩ := e
 cases dst with
 | none => rfl
 | some d => exact wT _ _ (fun hx => h (by rw [hx]))
theorem Eff.app_fr_eq {e : Eff} {s : ASt} {x : Nat} (h : e.dst = some x) : (e.app s).fr x = e.val := by
 obtain ⟨dst, val, rd, wr⟩ := e
 simp only at h
 subst h
 exact pB _ _ _
theorem dL {hp : Hp} {wr : List (Nat × aj)} {o : Nat} (h : o ∉ wr.map (·.1)) : aG hp wr o = hp o := by
 unfold aG
 have : wr.find? (fun p => Nat.beq p.1 o) = none := by
  rw [List.find?_eq_none]
  grind [bj]
 rw [this]
theorem fI {hp bp : Hp} {wr : List (Nat × aj)} {o : Nat} (h : o ∈ wr.map (·.1)) : aG hp wr o = aG bp wr o := by
 unfold aG
 cases hf : wr.find? (fun p => Nat.beq p.1 o) with
 | some p => rfl
 | none =>
  rw [List.find?_eq_none] at hf
  grind [Nat.beq_refl]
theorem fo {x : Nat} {L L' : Nat -> Bool} : ∀ (es : List Eff) (s s' : ASt) (i : Nat), s.fr x = s'.fr x -> (∀ j e, es[j]? = some e -> e.dst = some x -> L (i + j) = L' (i + j)) ->
  (bY s es L i).fr x = (bY s' es L' i).fr x
 | [], _, _, _, h, _ => h
 | e :: es, s, s', i, h, hl => by
  simp only [bY]
  refine fo es _ _ (i + 1) ?_ (fun j e' he hd => by have := hl (j + 1) e' (by simpa using he) hd; rwa [show i + (j + 1) = i + 1 + j by omega] at this)
  by_cases hd : e.dst = some x
  ·have h0 := hl 0 e (by simp) hd
   grind [Eff.app_fr_eq]
  grind [Eff.app_fr_ne]
theorem fp {k : Nat} {L L' : Nat -> Bool} : ∀ (es : List Eff) (s s' : ASt) (i : Nat), s.hp k = s'.hp k -> (∀ j e, es[j]? = some e -> k ∈ e.wr.map (·.1) -> L (i + j) = L' (i + j)) ->
  (bY s es L i).hp k = (bY s' es L' i).hp k
 | [], _, _, _, h, _ => h
 | e :: es, s, s', i, h, hl => by
  simp only [bY]
  refine fp es _ _ (i + 1) ?_ (fun j e' he hd => by have := hl (j + 1) e' (by simpa using he) hd; rwa [show i + (j + 1) = i + 1 + j by omega] at this)
  by_cases hd : k ∈ e.wr.map (·.1)
  ·have h0 := hl 0 e (by simp) hd
   simp only [Nat.add_zero] at h0
   rw [h0]
   cases L' i with
   | true => simp only [ai, Eff.app]; exact fI hd
   | false => simpa using h
  ·have j2 : ∀ s : ASt, (e.app s).hp k = s.hp k := fun s => dL hd
   grind
theorem lF : ∀ (es : List Eff) (s : ASt) (L : Nat -> Bool) (i : Nat), (∀ j, j < es.length -> L (i + j) = true) -> bY s es L i = db s es
 | [], _, _, _, _ => rfl
 | e :: es, s, L, i, h => by
  have h0 := h 0 (by simp)
  simp only [Nat.add_zero] at h0
  simp only [bY, db, h0, ai]
  exact lF es _ L (i + 1) (fun j hj => by have := h (j + 1) (by simp; omega); rwa [show i + (j + 1) = i + 1 + j by omega] at this)
theorem eU : ∀ (es : List Eff) (s : ASt) (L : Nat -> Bool) (i : Nat), (∀ j, j < es.length -> L (i + j) = false) -> bY s es L i = s
 | [], _, _, _, _ => rfl
 | e :: es, s, L, i, h => by
  have h0 := h 0 (by simp)
  simp only [Nat.add_zero] at h0
  simp only [bY, h0, ax]
  exact eU es _ L (i + 1) (fun j hj => by have := h (j + 1) (by simp; omega); rwa [show i + (j + 1) = i + 1 + j by omega] at this)
theorem lE.get : ∀ (es : List Eff) (s : ASt) (i j : Nat) (e : Eff), lE P C ops i s es -> es[j]? = some e -> jg P C ops (i + j) (bY s es (fun k => Nat.blt k (i + j)) i) e
 | e0 :: es, s, i, 0, e, h, he => by
  simp only [List.getElem?_cons_zero, Option.some.injEq] at he
  subst he
  have : bY s (e0 :: es) (fun k => Nat.blt k (i + 0)) i = s := eU _ _ _ _ (fun j _ => by rw [← Bool.not_eq_true]; intro hb; have := Nat.le_of_ble_eq_true hb; omega)
  rw [this]; exact h.1
 | e0 :: es, s, i, j + 1, e, h, he => by
  have h2 := lE.get es (e0.app s) (i + 1) j e h.2 (by simpa using he)
  rw [show i + 1 + j = i + (j + 1) by omega] at h2
  have : bY s (e0 :: es) (fun k => Nat.blt k (i + (j + 1))) i = bY (e0.app s) es (fun k => Nat.blt k (i + (j + 1))) (i + 1) := by
   have hb : Nat.blt i (i + (j + 1)) = true := by simp [Nat.blt]
   simp only [bY, hb, ai]
  rw [this]; exact h2
 | [], _, _, _, _, _, he => by simp at he
def wU (ops : Array Oper) (oi oj : Oper) (ei ej : Eff) : Bool :=
 (match oi.dst with | some d => !((oj.looksAt ops).any (Nat.beq d)) && (match oj.dst with | some d' => !(Nat.beq d d') | none => true) | none => true) &&
 (match oj.dst with | some d => !((oi.looksAt ops).any (Nat.beq d)) | none => true) &&
 ei.wr.all (fun p => !(ej.rd.any (Nat.beq p.1)) && !(ej.wr.any fun q => Nat.beq p.1 q.1)) &&
 ej.wr.all (fun p => !(ei.rd.any (Nat.beq p.1)))
def n3 (o : Oper) (cl : List Nat) : Nat := o.after.foldl (fun acc e => if Region.binds .any e then acc ||| (2 ^ e.on ||| cl.getD e.on 0) else acc) 0
def dU (ops : Array Oper) (es : List Eff) (cl : List Nat) : Bool :=
 Nat.beq es.length ops.size && Nat.beq cl.length ops.size &&
 (List.range ops.size).all fun j =>
  match ops[j]? with
  | none => true
  | some o =>
   (Nat.beq (cl.getD j 0 ||| n3 o cl) (n3 o cl)) && (o.after.toList.all fun e => !Region.binds .any e || Nat.blt e.on j) &&
   (List.range j).all fun i => (cl.getD j 0).testBit i || (match ops[i]?, es[i]?, es[j]? with | some oi, some ei, some ej => wU ops oi o ei ej | _, _, _ => true)
end
end Go.Vm
