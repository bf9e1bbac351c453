/- Part QB of the abstract machine: the executor's operations go on as they are told (2). -/
import Derived.Test.YtckoidchbbfkkaaGreatDoorS28
namespace Go.Vm
universe u
variable {R : Type}

theorem subA_b {a : AV} {p : List Nat} {G : Nat → AV → Option R} {g : Nat → AV → Option E1} {k : E1 → Option R} (h : ∀ o u, G o u = (g o u).bind k) : subA a p G = (subA a p g).bind k := by
  rw [subA_eq]
  conv => rhs; rw [subA_eq, Option.bind_assoc]
  congr 1
  funext z
  exact h z.1 z.2
theorem subD_b {t : Ty} {x : t.den} {p : List Nat} {G : Nat → AV → Option R} {g : Nat → AV → Option E1} {k : E1 → Option R} (h : ∀ o u, G o u = (g o u).bind k) : subD t x p G = (subD t x p g).bind k := by
  rw [subD_eq]
  conv => rhs; rw [subD_eq, Option.bind_assoc]
  congr 1
  funext z
  exact h z.1 z.2
theorem setA_b {a u : AV} {p : List Nat} {G : Nat → AV → Option R} {g : Nat → AV → Option E1} {k : E1 → Option R} (h : ∀ o u, G o u = (g o u).bind k) : setA a p u G = (setA a p u g).bind k := by
  rw [setA_eq]
  conv => rhs; rw [setA_eq, Option.bind_assoc]
  congr 1
  funext z
  exact h z.1 z.2
theorem bind_b {α : Type} {x : Option α} {G : α → Option R} {g : α → Option E1} {k : E1 → Option R} (h : ∀ a, G a = (g a).bind k) : x.bind G = (x.bind g).bind k := by
  cases x with
  | none => rfl
  | some a => exact h a

section
variable {E : Env} {s : LSt}
theorem bld_b {ps : List (Nat × Nat)} {l : List (Nat × Operand)} {v : AV} {G : AV → Option R} {g : AV → Option E1} {k : E1 → Option R} (h : ∀ a, G a = (g a).bind k) : bld E s ps l v G = (bld E s ps l v g).bind k := by
  rw [bld_eq]
  conv => rhs; rw [bld_eq, Option.bind_assoc]
  congr 1
  funext z
  exact h z

theorem opLoad_eq (t : TypeId) (x : Operand) (k : E1 → Option R) : opLoad E t x s k = (opLoad E t x s some).bind k := by
  unfold opLoad
  simp only [Bool.cond_eq_ite]
  repeat' (first | rfl | exact bind_b (fun _ => rfl) | (refine subA_b fun _ _ => ?_) | split)
theorem opStore_eq (t : TypeId) (x y : Operand) (k : E1 → Option R) : opStore E t x y s k = (opStore E t x y s some).bind k := by
  unfold opStore
  simp only [Bool.cond_eq_ite]
  repeat' (first | rfl | exact bind_b (fun _ => rfl) | (refine setA_b fun _ _ => ?_) | split)
theorem opNil_eq (x : Operand) (k : E1 → Option R) : opNil E x s k = (opNil E x s some).bind k := by
  unfold opNil
  simp only [Bool.cond_eq_ite]
  repeat' (first | rfl | split)
theorem opIface_eq (t : TypeId) (x : Operand) (k : E1 → Option R) : opIface E t x s k = (opIface E t x s some).bind k := by
  unfold opIface
  simp only [Bool.cond_eq_ite]
  repeat' (first | rfl | split)
theorem opFunc_eq (f : Fn) (a b : Array Operand) (k : E1 → Option R) : opFunc E f a b s k = (opFunc E f a b s some).bind k := by
  unfold opFunc
  simp only [Bool.cond_eq_ite]
  repeat' (first | rfl | split)
theorem opMake_eq (t : TypeId) (x y : Operand) (k : E1 → Option R) : opMake E t x y s k = (opMake E t x y s some).bind k := by
  unfold opMake
  simp only [Bool.cond_eq_ite]
  repeat' (first | rfl | exact bind_b (fun _ => free_eq _) | split)
theorem opSlice3_eq (t : TypeId) (x : Operand) (lo : Option Operand) (h m : Operand) (k : E1 → Option R) : opSlice3 E t x lo h m s k = (opSlice3 E t x lo h m s some).bind k := by
  unfold opSlice3
  simp only [Bool.cond_eq_ite]
  repeat' (first | rfl | exact bind_b (fun _ => rfl) | split)
theorem opSlice_eq (tr kp : Bool) (t : TypeId) (x : Operand) (lo hi mx : Option Operand) (k : E1 → Option R) : opSlice E tr kp t x lo hi mx s k = (opSlice E tr kp t x lo hi mx s some).bind k := by
  unfold opSlice
  simp only [Bool.cond_eq_ite]
  repeat' (first | rfl | exact bind_b (fun _ => rfl) | exact opSlice3_eq _ _ _ _ _ _ | split)
theorem opFieldAddr_eq (t : TypeId) (x : Operand) (f : Nat) (k : E1 → Option R) : opFieldAddr E t x f s k = (opFieldAddr E t x f s some).bind k := by
  unfold opFieldAddr
  simp only [Bool.cond_eq_ite]
  repeat' (first | rfl | exact bind_b (fun _ => rfl) | (refine subD_b fun _ _ => ?_) | split)
theorem opField_eq (t : TypeId) (x : Operand) (f : Nat) (k : E1 → Option R) : opField E t x f s k = (opField E t x f s some).bind k := by
  unfold opField
  simp only [Bool.cond_eq_ite]
  repeat' (first | rfl | (refine subA_b fun _ _ => ?_) | split)
theorem opIndexAddr_eq (t : TypeId) (x y : Operand) (k : E1 → Option R) : opIndexAddr E t x y s k = (opIndexAddr E t x y s some).bind k := by
  unfold opIndexAddr
  simp only [Bool.cond_eq_ite]
  repeat' (first | rfl | exact bind_b (fun _ => rfl) | (refine subA_b fun _ _ => ?_) | split)
theorem opIndex_eq (t : TypeId) (x y : Operand) (k : E1 → Option R) : opIndex E t x y s k = (opIndex E t x y s some).bind k := by
  unfold opIndex
  simp only [Bool.cond_eq_ite]
  repeat' (first | rfl | exact bind_b (fun _ => rfl) | split)
theorem opAssert_eq (x : Operand) (t : TypeId) (b : Bool) (k : E1 → Option R) : opAssert E x t b s k = (opAssert E x t b s some).bind k := by
  unfold opAssert
  simp only [Bool.cond_eq_ite]
  repeat' (first | rfl | split)
theorem opExtract_eq (x : Operand) (i : Nat) (k : E1 → Option R) : opExtract E x i s k = (opExtract E x i s some).bind k := by
  unfold opExtract
  repeat' (first | rfl | split)
theorem opMakeMap_eq (k : E1 → Option R) : opMakeMap s k = (opMakeMap s some).bind k := free_eq _
theorem opMapSet_eq (t : TypeId) (x y z : Operand) (k : E1 → Option R) : opMapSet E t x y z s k = (opMapSet E t x y z s some).bind k := by
  unfold opMapSet
  simp only [Bool.cond_eq_ite]
  repeat' (first | rfl | split)
theorem opLookup_eq (t : TypeId) (x y : Operand) (k : E1 → Option R) : opLookup E t x y s k = (opLookup E t x y s some).bind k := by
  unfold opLookup
  repeat' (first | rfl | split)
theorem opLen_eq (t : TypeId) (x : Operand) (k : E1 → Option R) : opLen E t x s k = (opLen E t x s some).bind k := by
  unfold opLen
  simp only [Bool.cond_eq_ite]
  repeat' (first | rfl | split)
theorem opCap_eq (t : TypeId) (x : Operand) (k : E1 → Option R) : opCap E t x s k = (opCap E t x s some).bind k := by
  unfold opCap
  repeat' (first | rfl | split)
theorem opMax_eq (x y : Operand) (k : E1 → Option R) : opMax E x y s k = (opMax E x y s some).bind k := by
  unfold opMax
  split <;> rfl
theorem opMin_eq (x y : Operand) (k : E1 → Option R) : opMin E x y s k = (opMin E x y s some).bind k := by
  unfold opMin
  split <;> rfl
theorem opCopy_eq (t : TypeId) (x y : Operand) (k : E1 → Option R) : opCopy E t x y s k = (opCopy E t x y s some).bind k := by
  unfold opCopy
  simp only [Bool.cond_eq_ite]
  repeat' (first | rfl | split)
theorem opAppend_eq (t t2 : TypeId) (x y : Operand) (k : E1 → Option R) : opAppend E t t2 x y s k = (opAppend E t t2 x y s some).bind k := by
  unfold opAppend
  simp only [Bool.cond_eq_ite]
  repeat' (first | rfl | exact bind_b (fun _ => free_eq _) | exact bind_b (fun _ => rfl) | split)
theorem opAppendZ_eq (t t2 : TypeId) (x y : Operand) (k : E1 → Option R) : opAppendZ E t t2 x y s k = (opAppendZ E t t2 x y s some).bind k := by
  unfold opAppendZ
  simp only [Bool.cond_eq_ite]
  repeat' (first | rfl | exact free_eq _ | split)
theorem opBuild_eq (t : TypeId) (ps : Array (Nat × Operand)) (k : E1 → Option R) : opBuild E t ps s k = (opBuild E t ps s some).bind k := by
  unfold opBuild
  simp only [Bool.cond_eq_ite]
  repeat' (first | rfl | (refine bld_b fun _ => ?_) | split)
theorem opLit_eq (t : TypeId) (n : Nat) (ps : Array (Nat × Operand)) (k : E1 → Option R) : opLit E t n ps s k = (opLit E t n ps s some).bind k := by
  unfold opLit
  simp only [Bool.cond_eq_ite]
  repeat' (first | rfl | exact free_eq _ | split)
end
end Go.Vm
