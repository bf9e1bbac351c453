/- Part QA of the abstract machine: the executor's operations go on as they are told: each is its bare answer, and then the rest. -/
import Derived.Test.YtnkhoojomojbpaaGreatDoorQ19
namespace Go.Vm
universe u
variable {R : Type}
theorem KV {α : Type} (x : Option α) (k : α -> Option R) {β : Type} (f : α -> β) (g : β -> Option R) (h : ∀ a, g (f a) = k a) : x.bind k = (x.bind fun a => some (f a)).bind g := by
 cases x with
 | none => rfl
 | some a => exact (h a).symm
theorem km : ∀ (t : Ty) (x : t.den) (p : List Nat) (R : Type) (k : Nat -> AV -> Option R), fQ t x p k = (fQ t x p (fun o u => some (o, u))).bind fun z => k z.1 z.2
 | .pair a b, x, 0 :: p, _, k => by simp only [fQ]; exact km a x.1 p _ k
 | .pair a b, x, (i + 1) :: p, _, k => by
  simp only [fQ]
  rw [km b x.2 (i :: p), km b x.2 (i :: p) _ (fun off u => some (a.size + off, u)), Option.bind_assoc]
  rfl
 | .arr n e, xs, i :: p, _, k => by
  simp only [fQ]
  cases xs[i]? with
  | none => rfl
  | some y =>
   simp only [aA]
   rw [km e y p, km e y p _ (fun off u => some (i * e.size + off, u)), Option.bind_assoc]
   rfl
 | .pair _ _, _, [], _, _ => rfl
 | .arr _ _, _, [], _, _ => rfl
 | .int _, _, [], _, _ => rfl
 | .bool, _, [], _, _ => rfl
 | .str, _, [], _, _ => rfl
 | .flt _, _, [], _, _ => rfl
 | .slice _, _, [], _, _ => rfl
 | .unit, _, [], _, _ => rfl
 | .int _, _, _ :: _, _, _ => rfl
 | .bool, _, _ :: _, _, _ => rfl
 | .str, _, _ :: _, _, _ => rfl
 | .flt _, _, _ :: _, _, _ => rfl
 | .slice _, _, _ :: _, _, _ => rfl
 | .unit, _, _ :: _, _, _ => rfl
theorem pc : ∀ (a : AV) (p : List Nat) (R : Type) (k : Nat -> AV -> Option R), dg a p k = (dg a p (fun o u => some (o, u))).bind fun z => k z.1 z.2
 | .d t x, p, _, k => by simp only [dg]; exact km t x p _ k
 | .pr a b, 0 :: p, _, k => by simp only [dg]; exact pc a p _ k
 | .pr a b, (i + 1) :: p, _, k => by
  simp only [dg]
  rw [pc b (i :: p), pc b (i :: p) _ (fun off u => some (a.asize + off, u)), Option.bind_assoc]
  rfl
 | .pr _ _, [], _, _ => rfl
 | .undef, [], _, _ => rfl
 | .ip _ _, [], _, _ => rfl
 | .op _ _ _, [], _, _ => rfl
 | .os _ _, [], _, _ => rfl
 | .oe _ _ _, [], _, _ => rfl
 | .ow _ _ _ _, [], _, _ => rfl
 | .nils, [], _, _ => rfl
 | .emp, [], _, _ => rfl
 | .tup _, [], _, _ => rfl
 | .fn _ _ _, [], _, _ => rfl
 | .nilfn, [], _, _ => rfl
 | .iface _ _, [], _, _ => rfl
 | .nilif, [], _, _ => rfl
 | .nilp, [], _, _ => rfl
 | .ref _, [], _, _ => rfl
 | .undef, _ :: _, _, _ => rfl
 | .ip _ _, _ :: _, _, _ => rfl
 | .op _ _ _, _ :: _, _, _ => rfl
 | .os _ _, _ :: _, _, _ => rfl
 | .oe _ _ _, _ :: _, _, _ => rfl
 | .ow _ _ _ _, _ :: _, _, _ => rfl
 | .nils, _ :: _, _, _ => rfl
 | .emp, _ :: _, _, _ => rfl
 | .tup _, _ :: _, _, _ => rfl
 | .fn _ _ _, _ :: _, _, _ => rfl
 | .nilfn, _ :: _, _, _ => rfl
 | .iface _ _, _ :: _, _, _ => rfl
 | .nilif, _ :: _, _, _ => rfl
 | .nilp, _ :: _, _, _ => rfl
 | .ref _, _ :: _, _, _ => rfl
theorem bJ {c : Bool} {a : Nat} {v : AV} (k : Nat -> AV -> Option R) : (bif c then k a v else none) = (bif c then some (a, v) else none).bind fun z => k z.1 z.2 := by cases c <;> rfl
theorem lN : ∀ (t : Ty) (x : t.den) (p : List Nat) (u : AV) (R : Type) (k : Nat -> AV -> Option R), kF t x p u k = (kF t x p u (fun o u => some (o, u))).bind fun z => k z.1 z.2
 | .pair a b, x, 0 :: p, u, _, k => by
  simp only [kF]
  rw [lN a x.1 p u, lN a x.1 p u _ (fun off a' => some (off, mkL a b a' x.2)), Option.bind_assoc]
  rfl
 | .pair a b, x, (i + 1) :: p, u, _, k => by
  simp only [kF]
  rw [lN b x.2 (i :: p) u, lN b x.2 (i :: p) u _ (fun off b' => some (a.size + off, mkR a b x.1 b')), Option.bind_assoc]
  rfl
 | .arr n e, xs, i :: p, u, _, k => by
  simp only [kF]
  cases xs[i]? with
  | none => rfl
  | some y =>
   simp only [aA]
   rw [lN e y p u]
   conv => rhs; rw [lN, Option.bind_assoc]
   congr 1
   funext z
   cases z.2.asD e <;> rfl
 | .pair _ _, _, [], _, _, k => bJ k
 | .arr _ _, _, [], _, _, k => bJ k
 | .int _, _, [], _, _, k => bJ k
 | .bool, _, [], _, _, k => bJ k
 | .str, _, [], _, _, k => bJ k
 | .flt _, _, [], _, _, k => bJ k
 | .slice _, _, [], _, _, k => bJ k
 | .unit, _, [], _, _, k => bJ k
 | .int _, _, _ :: _, _, _, _ => rfl
 | .bool, _, _ :: _, _, _, _ => rfl
 | .str, _, _ :: _, _, _, _ => rfl
 | .flt _, _, _ :: _, _, _, _ => rfl
 | .slice _, _, _ :: _, _, _, _ => rfl
 | .unit, _, _ :: _, _, _, _ => rfl
theorem ko : ∀ (a : AV) (p : List Nat) (u : AV) (R : Type) (k : Nat -> AV -> Option R), fx a p u k = (fx a p u (fun o u => some (o, u))).bind fun z => k z.1 z.2
 | .d t x, p, u, _, k => by simp only [fx]; exact lN t x p u _ k
 | .pr a b, 0 :: p, u, _, k => by
  simp only [fx]
  rw [ko a p u, ko a p u _ (fun off a' => some (off, AV.pr a' b)), Option.bind_assoc]
  rfl
 | .pr a b, (i + 1) :: p, u, _, k => by
  simp only [fx]
  rw [ko b (i :: p) u, ko b (i :: p) u _ (fun off b' => some (a.asize + off, AV.pr a b')), Option.bind_assoc]
  rfl
 | .pr _ _, [], _, _, k => bJ k
 | .undef, [], _, _, k => bJ k
 | .ip _ _, [], _, _, k => bJ k
 | .op _ _ _, [], _, _, k => bJ k
 | .os _ _, [], _, _, k => bJ k
 | .oe _ _ _, [], _, _, k => bJ k
 | .ow _ _ _ _, [], _, _, k => bJ k
 | .nils, [], _, _, k => bJ k
 | .emp, [], _, _, k => bJ k
 | .tup _, [], _, _, k => bJ k
 | .fn _ _ _, [], _, _, k => bJ k
 | .nilfn, [], _, _, k => bJ k
 | .iface _ _, [], _, _, k => bJ k
 | .nilif, [], _, _, k => bJ k
 | .nilp, [], _, _, k => bJ k
 | .ref _, [], _, _, k => bJ k
 | .undef, _ :: _, _, _, _ => rfl
 | .ip _ _, _ :: _, _, _, _ => rfl
 | .op _ _ _, _ :: _, _, _, _ => rfl
 | .os _ _, _ :: _, _, _, _ => rfl
 | .oe _ _ _, _ :: _, _, _, _ => rfl
 | .ow _ _ _ _, _ :: _, _, _, _ => rfl
 | .nils, _ :: _, _, _, _ => rfl
 | .emp, _ :: _, _, _, _ => rfl
 | .tup _, _ :: _, _, _, _ => rfl
 | .fn _ _ _, _ :: _, _, _, _ => rfl
 | .nilfn, _ :: _, _, _, _ => rfl
 | .iface _ _, _ :: _, _, _, _ => rfl
 | .nilif, _ :: _, _, _, _ => rfl
 | .nilp, _ :: _, _, _, _ => rfl
 | .ref _, _ :: _, _, _, _ => rfl
section
variable {E : Env} {s : LSt}
theorem D6 {ps : List (Nat × Nat)} : ∀ (l : List (Nat × Operand)) (v : AV) (R : Type) (k : AV -> Option R), bld E s ps l v k = (bld E s ps l v some).bind k
 | [], _, _, _ => rfl
 | (i, x) :: l, v, _, k => by
  simp only [bld]
  cases (s.ev E x).plain with
  | false => rfl
  | true =>
   simp only [ak]
   cases ps[i]? with
   | none => rfl
   | some q =>
    simp only
    cases Nat.beq (s.ev E x).asize q.2 with
    | false => rfl
    | true =>
     simp only [ak]
     rw [ko, ko (k := fun off' v' => bif Nat.beq off' q.1 then bld E s ps l v' some else none), Option.bind_assoc]
     congr 1
     funext z
     cases Nat.beq z.1 q.1 with
     | false => rfl
     | true => exact D6 l z.2 _ k
theorem nq {hp : LHp} {o : Nat} {e : E1} (k : E1 -> Option R) : lY hp o (k e) = (lY hp o (some e)).bind k := by
 unfold lY; cases az hp o <;> rfl
theorem wJ (c x y : Operand) (k : E1 -> Option R) : qk E c x y s k = (qk E c x y s some).bind k := by
 unfold qk
 simp only [Bool.cond_eq_ite]
 repeat' (first | rfl | split)
theorem Fq (u : UnOp) (x : Operand) (k : E1 -> Option R) : HZ E u x s k = (HZ E u x s some).bind k := by
 unfold HZ
 simp only [Bool.cond_eq_ite]
 repeat' (first | rfl | split)
theorem KW (b : BinOp) (t : TypeId) (a : AV) (k : E1 -> Option R) : wv E b t a s k = (wv E b t a s some).bind k := by
 unfold wv
 repeat' (first | rfl | split)
theorem Qu (b : BinOp) (t : TypeId) (τ : Ty) (a : τ.den) (v : AV) (k : E1 -> Option R) : HY E b t τ a v s k = (HY E b t τ a v s some).bind k := by
 unfold HY
 simp only [Bool.cond_eq_ite]
 repeat' (first | rfl | split)
theorem AT (b : BinOp) (t : TypeId) (x y : Operand) (k : E1 -> Option R) : wx E b t x y s k = (wx E b t x y s some).bind k := by
 unfold wx
 simp only [Bool.cond_eq_ite]
 repeat' (first | rfl | exact KV _ _ _ _ (fun _ => rfl) | exact KW _ _ _ _ | exact Qu _ _ _ _ _ _ | split)
theorem wK (a b : TypeId) (x : Operand) (k : E1 -> Option R) : ql E a b x s k = (ql E a b x s some).bind k := by
 unfold ql
 simp only [Bool.cond_eq_ite]
 repeat' (first | rfl | exact KV _ _ _ _ (fun _ => rfl) | split)
theorem AU (x : Operand) (k : E1 -> Option R) : wy E x s k = (wy E x s some).bind k := by
 unfold wy
 simp only [Bool.cond_eq_ite]
 repeat' (first | rfl | exact nq _ | split)
theorem tM (t : TypeId) (k : E1 -> Option R) : m7 E t s k = (m7 E t s some).bind k := by
 unfold m7
 repeat' (first | rfl | exact nq _ | split)
end
end Go.Vm
