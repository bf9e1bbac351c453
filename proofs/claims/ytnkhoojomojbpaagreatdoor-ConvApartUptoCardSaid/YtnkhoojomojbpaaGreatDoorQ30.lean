/- Part QB of the abstract machine: the executor's operations go on as they are told (2). -/
import Derived.Test.YtnkhoojomojbpaaGreatDoorQ29
namespace Go.Vm
universe u
variable {R : Type}
theorem D7 {a : AV} {p : List Nat} {G : Nat -> AV -> Option R} {g : Nat -> AV -> Option E1} {k : E1 -> Option R} (h : ∀ o u, G o u = (g o u).bind k) : dg a p G = (dg a p g).bind k := by
 rw [pc]
 conv => rhs; rw [pc, Option.bind_assoc]
 congr 1
 funext z
 exact h z.1 z.2
theorem XG {t : Ty} {x : t.den} {p : List Nat} {G : Nat -> AV -> Option R} {g : Nat -> AV -> Option E1} {k : E1 -> Option R} (h : ∀ o u, G o u = (g o u).bind k) : fQ t x p G = (fQ t x p g).bind k := by
 rw [km]
 conv => rhs; rw [km, Option.bind_assoc]
 congr 1
 funext z
 exact h z.1 z.2
theorem XH {a u : AV} {p : List Nat} {G : Nat -> AV -> Option R} {g : Nat -> AV -> Option E1} {k : E1 -> Option R} (h : ∀ o u, G o u = (g o u).bind k) : fx a p u G = (fx a p u g).bind k := by
 rw [ko]
 conv => rhs; rw [ko, Option.bind_assoc]
 congr 1
 funext z
 exact h z.1 z.2
theorem kH {α : Type} {x : Option α} {G : α -> Option R} {g : α -> Option E1} {k : E1 -> Option R} (h : ∀ a, G a = (g a).bind k) : x.bind G = (x.bind g).bind k := by
 cases x with
 | none => rfl
 | some a => exact h a
section
variable {E : Env} {s : LSt}
theorem adA {ps : List (Nat × Nat)} {l : List (Nat × Operand)} {v : AV} {G : AV -> Option R} {g : AV -> Option E1} {k : E1 -> Option R} (h : ∀ a, G a = (g a).bind k) : bld E s ps l v G = (bld E s ps l v g).bind k := by
 rw [D6]
 conv => rhs; rw [D6, Option.bind_assoc]
 congr 1
 funext z
 exact h z
theorem wL (t : TypeId) (x : Operand) (k : E1 -> Option R) : qm E t x s k = (qm E t x s some).bind k := by
 unfold qm
 simp only [Bool.cond_eq_ite]
 repeat' (first | rfl | exact kH (fun _ => rfl) | (refine D7 fun _ _ => ?_) | split)
theorem tN (t : TypeId) (x y : Operand) (k : E1 -> Option R) : m8 E t x y s k = (m8 E t x y s some).bind k := by
 unfold m8
 simp only [Bool.cond_eq_ite]
 repeat' (first | rfl | exact kH (fun _ => rfl) | (refine XH fun _ _ => ?_) | split)
theorem AX (x : Operand) (k : E1 -> Option R) : wF E x s k = (wF E x s some).bind k := by
 unfold wF
 simp only [Bool.cond_eq_ite]
 repeat' (first | rfl | split)
theorem tO (t : TypeId) (x : Operand) (k : E1 -> Option R) : nf E t x s k = (nf E t x s some).bind k := by
 unfold nf
 simp only [Bool.cond_eq_ite]
 repeat' (first | rfl | split)
theorem wN (f : Fn) (a b : Array Operand) (k : E1 -> Option R) : qp E f a b s k = (qp E f a b s some).bind k := by
 unfold qp
 simp only [Bool.cond_eq_ite]
 repeat' (first | rfl | split)
theorem wO (t : TypeId) (x y : Operand) (k : E1 -> Option R) : qo E t x y s k = (qo E t x y s some).bind k := by
 unfold qo
 simp only [Bool.cond_eq_ite]
 repeat' (first | rfl | exact kH (fun _ => nq _) | split)
theorem AY (t : TypeId) (x : Operand) (lo : Option Operand) (h m : Operand) (k : E1 -> Option R) : kT E t x lo h m s k = (kT E t x lo h m s some).bind k := by
 unfold kT
 simp only [Bool.cond_eq_ite]
 repeat' (first | rfl | exact kH (fun _ => rfl) | split)
theorem tP (tr kp : Bool) (t : TypeId) (x : Operand) (lo hi mx : Option Operand) (k : E1 -> Option R) : nc E tr kp t x lo hi mx s k = (nc E tr kp t x lo hi mx s some).bind k := by
 unfold nc
 simp only [Bool.cond_eq_ite]
 repeat' (first | rfl | exact kH (fun _ => rfl) | exact AY _ _ _ _ _ _ | split)
theorem mF (t : TypeId) (x : Operand) (f : Nat) (k : E1 -> Option R) : fZ E t x f s k = (fZ E t x f s some).bind k := by
 unfold fZ
 simp only [Bool.cond_eq_ite]
 repeat' (first | rfl | exact kH (fun _ => rfl) | (refine XG fun _ _ => ?_) | split)
theorem tQ (t : TypeId) (x : Operand) (f : Nat) (k : E1 -> Option R) : m9 E t x f s k = (m9 E t x f s some).bind k := by
 unfold m9
 simp only [Bool.cond_eq_ite]
 repeat' (first | rfl | (refine D7 fun _ _ => ?_) | split)
theorem mG (t : TypeId) (x y : Operand) (k : E1 -> Option R) : ga E t x y s k = (ga E t x y s some).bind k := by
 unfold ga
 simp only [Bool.cond_eq_ite]
 repeat' (first | rfl | exact kH (fun _ => rfl) | (refine D7 fun _ _ => ?_) | split)
theorem tR (t : TypeId) (x y : Operand) (k : E1 -> Option R) : na E t x y s k = (na E t x y s some).bind k := by
 unfold na
 simp only [Bool.cond_eq_ite]
 repeat' (first | rfl | exact kH (fun _ => rfl) | split)
theorem re (x : Operand) (t : TypeId) (b : Bool) (k : E1 -> Option R) : kV E x t b s k = (kV E x t b s some).bind k := by
 unfold kV
 simp only [Bool.cond_eq_ite]
 repeat' (first | rfl | split)
theorem pd (x : Operand) (i : Nat) (k : E1 -> Option R) : jw E x i s k = (jw E x i s some).bind k := by
 unfold jw
 repeat' (first | rfl | split)
theorem AZ (t : TypeId) (x : Operand) (k : E1 -> Option R) : wA E t x s k = (wA E t x s some).bind k := by
 unfold wA
 simp only [Bool.cond_eq_ite]
 repeat' (first | rfl | split)
theorem A0 (t : TypeId) (x : Operand) (k : E1 -> Option R) : wz E t x s k = (wz E t x s some).bind k := by
 unfold wz
 repeat' (first | rfl | split)
theorem A1 (x y : Operand) (k : E1 -> Option R) : wB E x y s k = (wB E x y s some).bind k := by
 unfold wB
 split <;> rfl
theorem A2 (x y : Operand) (k : E1 -> Option R) : wC E x y s k = (wC E x y s some).bind k := by
 unfold wC
 split <;> rfl
theorem rh (t t2 : TypeId) (x y : Operand) (k : E1 -> Option R) : kU E t t2 x y s k = (kU E t t2 x y s some).bind k := by
 unfold kU
 simp only [Bool.cond_eq_ite]
 repeat' (first | rfl | exact kH (fun _ => nq _) | exact kH (fun _ => rfl) | split)
theorem pe (t t2 : TypeId) (x y : Operand) (k : E1 -> Option R) : jv E t t2 x y s k = (jv E t t2 x y s some).bind k := by
 unfold jv
 simp only [Bool.cond_eq_ite]
 repeat' (first | rfl | exact nq _ | split)
theorem tS (t : TypeId) (ps : Array (Nat × Operand)) (k : E1 -> Option R) : nd E t ps s k = (nd E t ps s some).bind k := by
 unfold nd
 simp only [Bool.cond_eq_ite]
 repeat' (first | rfl | (refine adA fun _ => ?_) | split)
theorem A3 (t : TypeId) (n : Nat) (ps : Array (Nat × Operand)) (k : E1 -> Option R) : wD E t n ps s k = (wD E t n ps s some).bind k := by
 unfold wD
 simp only [Bool.cond_eq_ite]
 repeat' (first | rfl | exact nq _ | split)
end
end Go.Vm
