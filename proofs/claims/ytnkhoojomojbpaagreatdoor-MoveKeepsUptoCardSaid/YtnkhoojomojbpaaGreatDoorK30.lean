/- Part QB of the abstract machine: the executor's operations go on as they are told (2). -/
import Derived.Test.YtnkhoojomojbpaaGreatDoorK29
namespace Go.Vm
universe u
variable {R : Type}
theorem DS {a : AV} {p : List Nat} {G : Nat -> AV -> Option R} {g : Nat -> AV -> Option E1} {k : E1 -> Option R} (h : ∀ o u, G o u = (g o u).bind k) : cU a p G = (cU a p g).bind k := by
 rw [oz]
 conv => rhs; rw [oz, Option.bind_assoc]
 congr 1
 funext z
 exact h z.1 z.2
theorem XJ {t : Ty} {x : t.den} {p : List Nat} {G : Nat -> AV -> Option R} {g : Nat -> AV -> Option E1} {k : E1 -> Option R} (h : ∀ o u, G o u = (g o u).bind k) : fC t x p G = (fC t x p g).bind k := by
 rw [jT]
 conv => rhs; rw [jT, Option.bind_assoc]
 congr 1
 funext z
 exact h z.1 z.2
theorem XK {a u : AV} {p : List Nat} {G : Nat -> AV -> Option R} {g : Nat -> AV -> Option E1} {k : E1 -> Option R} (h : ∀ o u, G o u = (g o u).bind k) : fg a p u G = (fg a p u g).bind k := by
 rw [jU]
 conv => rhs; rw [jU, Option.bind_assoc]
 congr 1
 funext z
 exact h z.1 z.2
theorem ka {α : Type} {x : Option α} {G : α -> Option R} {g : α -> Option E1} {k : E1 -> Option R} (h : ∀ a, G a = (g a).bind k) : x.bind G = (x.bind g).bind k := by
 cases x with
 | none => rfl
 | some a => exact h a
section
variable {E : Env} {s : LSt}
theorem ad5 {ps : List (Nat × Nat)} {l : List (Nat × Operand)} {v : AV} {G : AV -> Option R} {g : AV -> Option E1} {k : E1 -> Option R} (h : ∀ a, G a = (g a).bind k) : bld E s ps l v G = (bld E s ps l v g).bind k := by
 rw [DR]
 conv => rhs; rw [DR, Option.bind_assoc]
 congr 1
 funext z
 exact h z
theorem vQ (t : TypeId) (x : Operand) (k : E1 -> Option R) : pI E t x s k = (pI E t x s some).bind k := by
 unfold pI
 simp only [Bool.cond_eq_ite]
 repeat' (first | rfl | exact ka (fun _ => rfl) | (refine DS fun _ _ => ?_) | split)
theorem sQ (t : TypeId) (x y : Operand) (k : E1 -> Option R) : mw E t x y s k = (mw E t x y s some).bind k := by
 unfold mw
 simp only [Bool.cond_eq_ite]
 repeat' (first | rfl | exact ka (fun _ => rfl) | (refine XK fun _ _ => ?_) | split)
theorem AB (x : Operand) (k : E1 -> Option R) : vK E x s k = (vK E x s some).bind k := by
 unfold vK
 simp only [Bool.cond_eq_ite]
 repeat' (first | rfl | split)
theorem sR (t : TypeId) (x : Operand) (k : E1 -> Option R) : mC E t x s k = (mC E t x s some).bind k := by
 unfold mC
 simp only [Bool.cond_eq_ite]
 repeat' (first | rfl | split)
theorem vR (f : Fn) (a b : Array Operand) (k : E1 -> Option R) : pL E f a b s k = (pL E f a b s some).bind k := by
 unfold pL
 simp only [Bool.cond_eq_ite]
 repeat' (first | rfl | split)
theorem vS (t : TypeId) (x y : Operand) (k : E1 -> Option R) : pK E t x y s k = (pK E t x y s some).bind k := by
 unfold pK
 simp only [Bool.cond_eq_ite]
 repeat' (first | rfl | exact ka (fun _ => mI _) | split)
theorem AD (t : TypeId) (x : Operand) (lo : Option Operand) (h m : Operand) (k : E1 -> Option R) : kl E t x lo h m s k = (kl E t x lo h m s some).bind k := by
 unfold kl
 simp only [Bool.cond_eq_ite]
 repeat' (first | rfl | exact ka (fun _ => rfl) | split)
theorem sS (tr kp : Bool) (t : TypeId) (x : Operand) (lo hi mx : Option Operand) (k : E1 -> Option R) : mA E tr kp t x lo hi mx s k = (mA E tr kp t x lo hi mx s some).bind k := by
 unfold mA
 simp only [Bool.cond_eq_ite]
 repeat' (first | rfl | exact ka (fun _ => rfl) | exact AD _ _ _ _ _ _ | split)
theorem lV (t : TypeId) (x : Operand) (f : Nat) (k : E1 -> Option R) : fJ E t x f s k = (fJ E t x f s some).bind k := by
 unfold fJ
 simp only [Bool.cond_eq_ite]
 repeat' (first | rfl | exact ka (fun _ => rfl) | (refine XJ fun _ _ => ?_) | split)
theorem sT (t : TypeId) (x : Operand) (f : Nat) (k : E1 -> Option R) : my E t x f s k = (my E t x f s some).bind k := by
 unfold my
 simp only [Bool.cond_eq_ite]
 repeat' (first | rfl | (refine DS fun _ _ => ?_) | split)
theorem lW (t : TypeId) (x y : Operand) (k : E1 -> Option R) : fK E t x y s k = (fK E t x y s some).bind k := by
 unfold fK
 simp only [Bool.cond_eq_ite]
 repeat' (first | rfl | exact ka (fun _ => rfl) | (refine DS fun _ _ => ?_) | split)
theorem sU (t : TypeId) (x y : Operand) (k : E1 -> Option R) : mz E t x y s k = (mz E t x y s some).bind k := by
 unfold mz
 simp only [Bool.cond_eq_ite]
 repeat' (first | rfl | exact ka (fun _ => rfl) | split)
theorem qw (x : Operand) (t : TypeId) (b : Bool) (k : E1 -> Option R) : ko E x t b s k = (ko E x t b s some).bind k := by
 unfold ko
 simp only [Bool.cond_eq_ite]
 repeat' (first | rfl | split)
theorem oA (x : Operand) (i : Nat) (k : E1 -> Option R) : jd E x i s k = (jd E x i s some).bind k := by
 unfold jd
 repeat' (first | rfl | split)
theorem AF (t : TypeId) (x : Operand) (k : E1 -> Option R) : vF E t x s k = (vF E t x s some).bind k := by
 unfold vF
 simp only [Bool.cond_eq_ite]
 repeat' (first | rfl | split)
theorem AG (t : TypeId) (x : Operand) (k : E1 -> Option R) : vE E t x s k = (vE E t x s some).bind k := by
 unfold vE
 repeat' (first | rfl | split)
theorem AH (x y : Operand) (k : E1 -> Option R) : vG E x y s k = (vG E x y s some).bind k := by
 unfold vG
 split <;> rfl
theorem AI (x y : Operand) (k : E1 -> Option R) : vH E x y s k = (vH E x y s some).bind k := by
 unfold vH
 split <;> rfl
theorem vT (t : TypeId) (x y : Operand) (k : E1 -> Option R) : pM E t x y s k = (pM E t x y s some).bind k := by
 unfold pM
 simp only [Bool.cond_eq_ite]
 repeat' (first | rfl | split)
theorem qx (t t2 : TypeId) (x y : Operand) (k : E1 -> Option R) : km E t t2 x y s k = (km E t t2 x y s some).bind k := by
 unfold km
 simp only [Bool.cond_eq_ite]
 repeat' (first | rfl | exact ka (fun _ => mI _) | exact ka (fun _ => rfl) | split)
theorem oB (t t2 : TypeId) (x y : Operand) (k : E1 -> Option R) : jb E t t2 x y s k = (jb E t t2 x y s some).bind k := by
 unfold jb
 simp only [Bool.cond_eq_ite]
 repeat' (first | rfl | exact mI _ | split)
theorem sV (t : TypeId) (ps : Array (Nat × Operand)) (k : E1 -> Option R) : mB E t ps s k = (mB E t ps s some).bind k := by
 unfold mB
 simp only [Bool.cond_eq_ite]
 repeat' (first | rfl | (refine ad5 fun _ => ?_) | split)
theorem AJ (t : TypeId) (n : Nat) (ps : Array (Nat × Operand)) (k : E1 -> Option R) : vI E t n ps s k = (vI E t n ps s some).bind k := by
 unfold vI
 simp only [Bool.cond_eq_ite]
 repeat' (first | rfl | exact mI _ | split)
end
end Go.Vm
