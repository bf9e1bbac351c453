/- Part QA of the abstract machine: the executor's operations go on as they are told: each is its bare answer, and then the rest. -/
import Derived.Test.YtnkhoojomojbpaaGreatDoorK19
namespace Go.Vm
universe u
variable {R : Type}
theorem KP {α : Type} (x : Option α) (k : α -> Option R) {β : Type} (f : α -> β) (g : β -> Option R) (h : ∀ a, g (f a) = k a) : x.bind k = (x.bind fun a => some (f a)).bind g := by
 cases x with
 | none => rfl
 | some a => exact (h a).symm
theorem jT : ∀ (t : Ty) (x : t.den) (p : List Nat) (R : Type) (k : Nat -> AV -> Option R), fC t x p k = (fC t x p (fun o u => some (o, u))).bind fun z => k z.1 z.2
 | .pair a b, x, 0 :: p, _, k => by simp only [fC]; exact jT a x.1 p _ k
 | .pair a b, x, (i + 1) :: p, _, k => by
  simp only [fC]
  rw [jT b x.2 (i :: p), jT b x.2 (i :: p) _ (fun off u => some (a.size + off, u)), Option.bind_assoc]
  rfl
 | .arr n e, xs, i :: p, _, k => by
  simp only [fC]
  cases xs[i]? with
  | none => rfl
  | some y =>
   simp only [aB]
   rw [jT e y p, jT e y p _ (fun off u => some (i * e.size + off, u)), Option.bind_assoc]
   rfl
 | .pair _ _, _, [], _, _ => rfl
 | .arr _ _, _, [], _, _ => rfl
 | .int _, _, [], _, _ => rfl
 | .bool, _, [], _, _ => rfl
 | .str, _, [], _, _ => rfl
 | .flt _, _, [], _, _ => rfl
 | .slice _, _, [], _, _ => rfl
 | .unit, _, [], _, _ => rfl
 | .int _, _, _ :: _, _, _ => rfl
 | .bool, _, _ :: _, _, _ => rfl
 | .str, _, _ :: _, _, _ => rfl
 | .flt _, _, _ :: _, _, _ => rfl
 | .slice _, _, _ :: _, _, _ => rfl
 | .unit, _, _ :: _, _, _ => rfl
theorem oz : ∀ (a : AV) (p : List Nat) (R : Type) (k : Nat -> AV -> Option R), cU a p k = (cU a p (fun o u => some (o, u))).bind fun z => k z.1 z.2
 | .d t x, p, _, k => by simp only [cU]; exact jT t x p _ k
 | .pr a b, 0 :: p, _, k => by simp only [cU]; exact oz a p _ k
 | .pr a b, (i + 1) :: p, _, k => by
  simp only [cU]
  rw [oz b (i :: p), oz b (i :: p) _ (fun off u => some (a.asize + off, u)), Option.bind_assoc]
  rfl
 | .pr _ _, [], _, _ => rfl
 | .undef, [], _, _ => rfl
 | .ip _ _, [], _, _ => rfl
 | .op _ _ _, [], _, _ => rfl
 | .os _ _, [], _, _ => rfl
 | .oe _ _ _, [], _, _ => rfl
 | .ow _ _ _ _, [], _, _ => rfl
 | .nils, [], _, _ => rfl
 | .emp, [], _, _ => rfl
 | .tup _, [], _, _ => rfl
 | .fn _ _ _, [], _, _ => rfl
 | .nilfn, [], _, _ => rfl
 | .iface _ _, [], _, _ => rfl
 | .nilif, [], _, _ => rfl
 | .nilp, [], _, _ => rfl
 | .ref _, [], _, _ => rfl
 | .undef, _ :: _, _, _ => rfl
 | .ip _ _, _ :: _, _, _ => rfl
 | .op _ _ _, _ :: _, _, _ => rfl
 | .os _ _, _ :: _, _, _ => rfl
 | .oe _ _ _, _ :: _, _, _ => rfl
 | .ow _ _ _ _, _ :: _, _, _ => rfl
 | .nils, _ :: _, _, _ => rfl
 | .emp, _ :: _, _, _ => rfl
 | .tup _, _ :: _, _, _ => rfl
 | .fn _ _ _, _ :: _, _, _ => rfl
 | .nilfn, _ :: _, _, _ => rfl
 | .iface _ _, _ :: _, _, _ => rfl
 | .nilif, _ :: _, _, _ => rfl
 | .nilp, _ :: _, _, _ => rfl
 | .ref _, _ :: _, _, _ => rfl
theorem bA {c : Bool} {a : Nat} {v : AV} (k : Nat -> AV -> Option R) : (bif c then k a v else none) = (bif c then some (a, v) else none).bind fun z => k z.1 z.2 := by cases c <;> rfl
theorem kY : ∀ (t : Ty) (x : t.den) (p : List Nat) (u : AV) (R : Type) (k : Nat -> AV -> Option R), j8 t x p u k = (j8 t x p u (fun o u => some (o, u))).bind fun z => k z.1 z.2
 | .pair a b, x, 0 :: p, u, _, k => by
  simp only [j8]
  rw [kY a x.1 p u, kY a x.1 p u _ (fun off a' => some (off, mkL a b a' x.2)), Option.bind_assoc]
  rfl
 | .pair a b, x, (i + 1) :: p, u, _, k => by
  simp only [j8]
  rw [kY b x.2 (i :: p) u, kY b x.2 (i :: p) u _ (fun off b' => some (a.size + off, mkR a b x.1 b')), Option.bind_assoc]
  rfl
 | .arr n e, xs, i :: p, u, _, k => by
  simp only [j8]
  cases xs[i]? with
  | none => rfl
  | some y =>
   simp only [aB]
   rw [kY e y p u]
   conv => rhs; rw [kY, Option.bind_assoc]
   congr 1
   funext z
   cases z.2.asD e <;> rfl
 | .pair _ _, _, [], _, _, k => bA k
 | .arr _ _, _, [], _, _, k => bA k
 | .int _, _, [], _, _, k => bA k
 | .bool, _, [], _, _, k => bA k
 | .str, _, [], _, _, k => bA k
 | .flt _, _, [], _, _, k => bA k
 | .slice _, _, [], _, _, k => bA k
 | .unit, _, [], _, _, k => bA k
 | .int _, _, _ :: _, _, _, _ => rfl
 | .bool, _, _ :: _, _, _, _ => rfl
 | .str, _, _ :: _, _, _, _ => rfl
 | .flt _, _, _ :: _, _, _, _ => rfl
 | .slice _, _, _ :: _, _, _, _ => rfl
 | .unit, _, _ :: _, _, _, _ => rfl
theorem jU : ∀ (a : AV) (p : List Nat) (u : AV) (R : Type) (k : Nat -> AV -> Option R), fg a p u k = (fg a p u (fun o u => some (o, u))).bind fun z => k z.1 z.2
 | .d t x, p, u, _, k => by simp only [fg]; exact kY t x p u _ k
 | .pr a b, 0 :: p, u, _, k => by
  simp only [fg]
  rw [jU a p u, jU a p u _ (fun off a' => some (off, AV.pr a' b)), Option.bind_assoc]
  rfl
 | .pr a b, (i + 1) :: p, u, _, k => by
  simp only [fg]
  rw [jU b (i :: p) u, jU b (i :: p) u _ (fun off b' => some (a.asize + off, AV.pr a b')), Option.bind_assoc]
  rfl
 | .pr _ _, [], _, _, k => bA k
 | .undef, [], _, _, k => bA k
 | .ip _ _, [], _, _, k => bA k
 | .op _ _ _, [], _, _, k => bA k
 | .os _ _, [], _, _, k => bA k
 | .oe _ _ _, [], _, _, k => bA k
 | .ow _ _ _ _, [], _, _, k => bA k
 | .nils, [], _, _, k => bA k
 | .emp, [], _, _, k => bA k
 | .tup _, [], _, _, k => bA k
 | .fn _ _ _, [], _, _, k => bA k
 | .nilfn, [], _, _, k => bA k
 | .iface _ _, [], _, _, k => bA k
 | .nilif, [], _, _, k => bA k
 | .nilp, [], _, _, k => bA k
 | .ref _, [], _, _, k => bA k
 | .undef, _ :: _, _, _, _ => rfl
 | .ip _ _, _ :: _, _, _, _ => rfl
 | .op _ _ _, _ :: _, _, _, _ => rfl
 | .os _ _, _ :: _, _, _, _ => rfl
 | .oe _ _ _, _ :: _, _, _, _ => rfl
 | .ow _ _ _ _, _ :: _, _, _, _ => rfl
 | .nils, _ :: _, _, _, _ => rfl
 | .emp, _ :: _, _, _, _ => rfl
 | .tup _, _ :: _, _, _, _ => rfl
 | .fn _ _ _, _ :: _, _, _, _ => rfl
 | .nilfn, _ :: _, _, _, _ => rfl
 | .iface _ _, _ :: _, _, _, _ => rfl
 | .nilif, _ :: _, _, _, _ => rfl
 | .nilp, _ :: _, _, _, _ => rfl
 | .ref _, _ :: _, _, _, _ => rfl
section
variable {E : Env} {s : LSt}
theorem DR {ps : List (Nat × Nat)} : ∀ (l : List (Nat × Operand)) (v : AV) (R : Type) (k : AV -> Option R), bld E s ps l v k = (bld E s ps l v some).bind k
 | [], _, _, _ => rfl
 | (i, x) :: l, v, _, k => by
  simp only [bld]
  cases (s.ev E x).plain with
  | false => rfl
  | true =>
   simp only [ai]
   cases ps[i]? with
   | none => rfl
   | some q =>
    simp only
    cases Nat.beq (s.ev E x).asize q.2 with
    | false => rfl
    | true =>
     simp only [ai]
     rw [jU, jU (k := fun off' v' => bif Nat.beq off' q.1 then bld E s ps l v' some else none), Option.bind_assoc]
     congr 1
     funext z
     cases Nat.beq z.1 q.1 with
     | false => rfl
     | true => exact DR l z.2 _ k
theorem mI {hp : LHp} {o : Nat} {e : E1} (k : E1 -> Option R) : lr hp o (k e) = (lr hp o (some e)).bind k := by
 unfold lr; cases aA hp o <;> rfl
theorem vO (c x y : Operand) (k : E1 -> Option R) : pG E c x y s k = (pG E c x y s some).bind k := by
 unfold pG
 simp only [Bool.cond_eq_ite]
 repeat' (first | rfl | split)
theorem Fk (u : UnOp) (x : Operand) (k : E1 -> Option R) : HP E u x s k = (HP E u x s some).bind k := by
 unfold HP
 simp only [Bool.cond_eq_ite]
 repeat' (first | rfl | split)
theorem KQ (b : BinOp) (t : TypeId) (a : AV) (k : E1 -> Option R) : vB E b t a s k = (vB E b t a s some).bind k := by
 unfold vB
 repeat' (first | rfl | split)
theorem Qy (b : BinOp) (t : TypeId) (τ : Ty) (a : τ.den) (v : AV) (k : E1 -> Option R) : HO E b t τ a v s k = (HO E b t τ a v s some).bind k := by
 unfold HO
 simp only [Bool.cond_eq_ite]
 repeat' (first | rfl | split)
theorem Az (b : BinOp) (t : TypeId) (x y : Operand) (k : E1 -> Option R) : vC E b t x y s k = (vC E b t x y s some).bind k := by
 unfold vC
 simp only [Bool.cond_eq_ite]
 repeat' (first | rfl | exact KP _ _ _ _ (fun _ => rfl) | exact KQ _ _ _ _ | exact Qy _ _ _ _ _ _ | split)
theorem vP (a b : TypeId) (x : Operand) (k : E1 -> Option R) : pH E a b x s k = (pH E a b x s some).bind k := by
 unfold pH
 simp only [Bool.cond_eq_ite]
 repeat' (first | rfl | exact KP _ _ _ _ (fun _ => rfl) | split)
theorem AA (x : Operand) (k : E1 -> Option R) : vD E x s k = (vD E x s some).bind k := by
 unfold vD
 simp only [Bool.cond_eq_ite]
 repeat' (first | rfl | exact mI _ | split)
theorem sP (t : TypeId) (k : E1 -> Option R) : mv E t s k = (mv E t s some).bind k := by
 unfold mv
 repeat' (first | rfl | exact mI _ | split)
end
end Go.Vm
