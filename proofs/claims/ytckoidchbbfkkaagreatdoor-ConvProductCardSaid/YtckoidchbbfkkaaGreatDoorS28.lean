/- Part QA of the abstract machine: the executor's operations go on as they are told: each is its bare answer, and then the rest. -/
import Derived.Test.YtckoidchbbfkkaaGreatDoorS20
namespace Go.Vm
universe u
variable {R : Type}

theorem bind_k {α : Type} (x : Option α) (k : α → Option R) {β : Type} (f : α → β) (g : β → Option R) (h : ∀ a, g (f a) = k a) : x.bind k = (x.bind fun a => some (f a)).bind g := by
  cases x with
  | none => rfl
  | some a => exact (h a).symm

theorem subD_eq : ∀ (t : Ty) (x : t.den) (p : List Nat) (R : Type) (k : Nat → AV → Option R), subD t x p k = (subD t x p (fun o u => some (o, u))).bind fun z => k z.1 z.2
  | .pair a b, x, 0 :: p, _, k => by simp only [subD]; exact subD_eq a x.1 p _ k
  | .pair a b, x, (i + 1) :: p, _, k => by
    simp only [subD]
    rw [subD_eq b x.2 (i :: p), subD_eq b x.2 (i :: p) _ (fun off u => some (a.size + off, u)), Option.bind_assoc]
    rfl
  | .arr n e, xs, i :: p, _, k => by
    simp only [subD]
    cases xs[i]? with
    | none => rfl
    | some y =>
      simp only [Option.bind_some]
      rw [subD_eq e y p, subD_eq e y p _ (fun off u => some (i * e.size + off, u)), Option.bind_assoc]
      rfl
  | .pair _ _, _, [], _, _ => rfl
  | .arr _ _, _, [], _, _ => rfl
  | .int _, _, [], _, _ => rfl
  | .bool, _, [], _, _ => rfl
  | .str, _, [], _, _ => rfl
  | .flt _, _, [], _, _ => rfl
  | .slice _, _, [], _, _ => rfl
  | .unit, _, [], _, _ => rfl
  | .int _, _, _ :: _, _, _ => rfl
  | .bool, _, _ :: _, _, _ => rfl
  | .str, _, _ :: _, _, _ => rfl
  | .flt _, _, _ :: _, _, _ => rfl
  | .slice _, _, _ :: _, _, _ => rfl
  | .unit, _, _ :: _, _, _ => rfl

theorem subA_eq : ∀ (a : AV) (p : List Nat) (R : Type) (k : Nat → AV → Option R), subA a p k = (subA a p (fun o u => some (o, u))).bind fun z => k z.1 z.2
  | .d t x, p, _, k => by simp only [subA]; exact subD_eq t x p _ k
  | .pr a b, 0 :: p, _, k => by simp only [subA]; exact subA_eq a p _ k
  | .pr a b, (i + 1) :: p, _, k => by
    simp only [subA]
    rw [subA_eq b (i :: p), subA_eq b (i :: p) _ (fun off u => some (a.asize + off, u)), Option.bind_assoc]
    rfl
  | .pr _ _, [], _, _ => rfl
  | .undef, [], _, _ => rfl
  | .ip _ _, [], _, _ => rfl
  | .op _ _ _, [], _, _ => rfl
  | .os _ _, [], _, _ => rfl
  | .oe _ _ _, [], _, _ => rfl
  | .ow _ _ _ _, [], _, _ => rfl
  | .nils, [], _, _ => rfl
  | .emp, [], _, _ => rfl
  | .tup _, [], _, _ => rfl
  | .fn _ _ _, [], _, _ => rfl
  | .nilfn, [], _, _ => rfl
  | .iface _ _, [], _, _ => rfl
  | .nilif, [], _, _ => rfl
  | .nilp, [], _, _ => rfl
  | .ref _, [], _, _ => rfl
  | .undef, _ :: _, _, _ => rfl
  | .ip _ _, _ :: _, _, _ => rfl
  | .op _ _ _, _ :: _, _, _ => rfl
  | .os _ _, _ :: _, _, _ => rfl
  | .oe _ _ _, _ :: _, _, _ => rfl
  | .ow _ _ _ _, _ :: _, _, _ => rfl
  | .nils, _ :: _, _, _ => rfl
  | .emp, _ :: _, _, _ => rfl
  | .tup _, _ :: _, _, _ => rfl
  | .fn _ _ _, _ :: _, _, _ => rfl
  | .nilfn, _ :: _, _, _ => rfl
  | .iface _ _, _ :: _, _, _ => rfl
  | .nilif, _ :: _, _, _ => rfl
  | .nilp, _ :: _, _, _ => rfl
  | .ref _, _ :: _, _, _ => rfl

theorem cond_leaf {c : Bool} {a : Nat} {v : AV} (k : Nat → AV → Option R) : (bif c then k a v else none) = (bif c then some (a, v) else none).bind fun z => k z.1 z.2 := by cases c <;> rfl

theorem setD_eq : ∀ (t : Ty) (x : t.den) (p : List Nat) (u : AV) (R : Type) (k : Nat → AV → Option R), setD t x p u k = (setD t x p u (fun o u => some (o, u))).bind fun z => k z.1 z.2
  | .pair a b, x, 0 :: p, u, _, k => by
    simp only [setD]
    rw [setD_eq a x.1 p u, setD_eq a x.1 p u _ (fun off a' => some (off, mkL a b a' x.2)), Option.bind_assoc]
    rfl
  | .pair a b, x, (i + 1) :: p, u, _, k => by
    simp only [setD]
    rw [setD_eq b x.2 (i :: p) u, setD_eq b x.2 (i :: p) u _ (fun off b' => some (a.size + off, mkR a b x.1 b')), Option.bind_assoc]
    rfl
  | .arr n e, xs, i :: p, u, _, k => by
    simp only [setD]
    cases xs[i]? with
    | none => rfl
    | some y =>
      simp only [Option.bind_some]
      rw [setD_eq e y p u]
      conv => rhs; rw [setD_eq, Option.bind_assoc]
      congr 1
      funext z
      cases z.2.asD e <;> rfl
  | .pair _ _, _, [], _, _, k => cond_leaf k
  | .arr _ _, _, [], _, _, k => cond_leaf k
  | .int _, _, [], _, _, k => cond_leaf k
  | .bool, _, [], _, _, k => cond_leaf k
  | .str, _, [], _, _, k => cond_leaf k
  | .flt _, _, [], _, _, k => cond_leaf k
  | .slice _, _, [], _, _, k => cond_leaf k
  | .unit, _, [], _, _, k => cond_leaf k
  | .int _, _, _ :: _, _, _, _ => rfl
  | .bool, _, _ :: _, _, _, _ => rfl
  | .str, _, _ :: _, _, _, _ => rfl
  | .flt _, _, _ :: _, _, _, _ => rfl
  | .slice _, _, _ :: _, _, _, _ => rfl
  | .unit, _, _ :: _, _, _, _ => rfl

theorem setA_eq : ∀ (a : AV) (p : List Nat) (u : AV) (R : Type) (k : Nat → AV → Option R), setA a p u k = (setA a p u (fun o u => some (o, u))).bind fun z => k z.1 z.2
  | .d t x, p, u, _, k => by simp only [setA]; exact setD_eq t x p u _ k
  | .pr a b, 0 :: p, u, _, k => by
    simp only [setA]
    rw [setA_eq a p u, setA_eq a p u _ (fun off a' => some (off, AV.pr a' b)), Option.bind_assoc]
    rfl
  | .pr a b, (i + 1) :: p, u, _, k => by
    simp only [setA]
    rw [setA_eq b (i :: p) u, setA_eq b (i :: p) u _ (fun off b' => some (a.asize + off, AV.pr a b')), Option.bind_assoc]
    rfl
  | .pr _ _, [], _, _, k => cond_leaf k
  | .undef, [], _, _, k => cond_leaf k
  | .ip _ _, [], _, _, k => cond_leaf k
  | .op _ _ _, [], _, _, k => cond_leaf k
  | .os _ _, [], _, _, k => cond_leaf k
  | .oe _ _ _, [], _, _, k => cond_leaf k
  | .ow _ _ _ _, [], _, _, k => cond_leaf k
  | .nils, [], _, _, k => cond_leaf k
  | .emp, [], _, _, k => cond_leaf k
  | .tup _, [], _, _, k => cond_leaf k
  | .fn _ _ _, [], _, _, k => cond_leaf k
  | .nilfn, [], _, _, k => cond_leaf k
  | .iface _ _, [], _, _, k => cond_leaf k
  | .nilif, [], _, _, k => cond_leaf k
  | .nilp, [], _, _, k => cond_leaf k
  | .ref _, [], _, _, k => cond_leaf k
  | .undef, _ :: _, _, _, _ => rfl
  | .ip _ _, _ :: _, _, _, _ => rfl
  | .op _ _ _, _ :: _, _, _, _ => rfl
  | .os _ _, _ :: _, _, _, _ => rfl
  | .oe _ _ _, _ :: _, _, _, _ => rfl
  | .ow _ _ _ _, _ :: _, _, _, _ => rfl
  | .nils, _ :: _, _, _, _ => rfl
  | .emp, _ :: _, _, _, _ => rfl
  | .tup _, _ :: _, _, _, _ => rfl
  | .fn _ _ _, _ :: _, _, _, _ => rfl
  | .nilfn, _ :: _, _, _, _ => rfl
  | .iface _ _, _ :: _, _, _, _ => rfl
  | .nilif, _ :: _, _, _, _ => rfl
  | .nilp, _ :: _, _, _, _ => rfl
  | .ref _, _ :: _, _, _, _ => rfl

section
variable {E : Env} {s : LSt}

theorem bld_eq {ps : List (Nat × Nat)} : ∀ (l : List (Nat × Operand)) (v : AV) (R : Type) (k : AV → Option R), bld E s ps l v k = (bld E s ps l v some).bind k
  | [], _, _, _ => rfl
  | (i, x) :: l, v, _, k => by
    simp only [bld]
    cases (s.ev E x).plain with
    | false => rfl
    | true =>
      simp only [cond_true]
      cases ps[i]? with
      | none => rfl
      | some q =>
        simp only
        cases Nat.beq (s.ev E x).asize q.2 with
        | false => rfl
        | true =>
          simp only [cond_true]
          rw [setA_eq, setA_eq (k := fun off' v' => bif Nat.beq off' q.1 then bld E s ps l v' some else none), Option.bind_assoc]
          congr 1
          funext z
          cases Nat.beq z.1 q.1 with
          | false => rfl
          | true => exact bld_eq l z.2 _ k

theorem free_eq {hp : LHp} {o : Nat} {e : E1} (k : E1 → Option R) : free? hp o (k e) = (free? hp o (some e)).bind k := by
  unfold free?; cases hget hp o <;> rfl

theorem opPick_eq (c x y : Operand) (k : E1 → Option R) : opPick E c x y s k = (opPick E c x y s some).bind k := by
  unfold opPick
  simp only [Bool.cond_eq_ite]
  repeat' (first | rfl | split)
theorem opUn_eq (u : UnOp) (x : Operand) (k : E1 → Option R) : opUn E u x s k = (opUn E u x s some).bind k := by
  unfold opUn
  repeat' (first | rfl | split)
theorem slNil_eq (b : BinOp) (t : TypeId) (a : AV) (k : E1 → Option R) : slNil E b t a s k = (slNil E b t a s some).bind k := by
  unfold slNil
  repeat' (first | rfl | split)
theorem stEq_eq (b : BinOp) (t : TypeId) (τ : Ty) (a : τ.den) (v : AV) (k : E1 → Option R) : stEq E b t τ a v s k = (stEq E b t τ a v s some).bind k := by
  unfold stEq
  simp only [Bool.cond_eq_ite]
  repeat' (first | rfl | split)
theorem opBin_eq (b : BinOp) (t : TypeId) (x y : Operand) (k : E1 → Option R) : opBin E b t x y s k = (opBin E b t x y s some).bind k := by
  unfold opBin
  simp only [Bool.cond_eq_ite]
  repeat' (first | rfl | exact bind_k _ _ _ _ (fun _ => rfl) | exact slNil_eq _ _ _ _ | exact stEq_eq _ _ _ _ _ _ | split)
theorem opConv_eq (a b : TypeId) (x : Operand) (k : E1 → Option R) : opConv E a b x s k = (opConv E a b x s some).bind k := by
  unfold opConv
  repeat' (first | rfl | split)
theorem opBox_eq (x : Operand) (k : E1 → Option R) : opBox E x s k = (opBox E x s some).bind k := by
  unfold opBox
  simp only [Bool.cond_eq_ite]
  repeat' (first | rfl | exact free_eq _ | split)
theorem opAlloc_eq (t : TypeId) (k : E1 → Option R) : opAlloc E t s k = (opAlloc E t s some).bind k := by
  unfold opAlloc
  repeat' (first | rfl | exact free_eq _ | split)
end
end Go.Vm
