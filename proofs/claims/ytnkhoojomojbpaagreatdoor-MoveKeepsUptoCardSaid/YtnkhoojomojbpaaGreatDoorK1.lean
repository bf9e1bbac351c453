/- Part A of an abstract machine over the model: typed data (Ty, Ty.den), and how typed data lies in memory (RepD); its plain lemmas. No program in sight. -/
import Derived.Below
import Derived.CallsIn
import Derived.Laws.AppendOwn
import Derived.Orders
import Derived.OrdersIn
import Derived.WalkKit
namespace Go.Vm
theorem aB {α : Type _} {β : Type _} (a : α) (f : α -> Option β) : (some a).bind f = f a := rfl
theorem aK (n : Nat) : Int.ofNat n = (n : Int) := rfl
theorem bj {n m : Nat} (h : Nat.beq n m = true) : n = m := Nat.eq_of_beq_eq_true h
theorem ai {α : Type _} {a b : α} : (bif true then a else b) = a := rfl
theorem ax {α : Type _} {a b : α} : (bif false then a else b) = b := rfl
theorem ba (a b : Bool) : ((a && b) = true) = (a = true /\ b = true) := Bool.and_eq_true a b
theorem aD {p : Prop} [Decidable p] (h : p) : decide p = true := decide_eq_true h
theorem bU {p : Prop} [Decidable p] (h : ¬ p) : decide p = false := decide_eq_false h
theorem aU {p : Prop} [Decidable p] (h : decide p = true) : p := of_decide_eq_true h
theorem nz {p : Prop} [Decidable p] (h : decide p = false) : ¬ p := of_decide_eq_false h
abbrev af := List Int
abbrev ak := List UInt8
inductive Ty where
 | int (k : IntKind) | bool | str | flt (k : FloatKind) | slice (e : Ty) | unit | pair (a b : Ty) | arr (n : Nat) (e : Ty)
 deriving DecidableEq
@[reducible] def Ty.den : Ty -> Type
 | .int _ => Int
 | .bool => Bool
 | .str => ak
 | .flt _ => Nat
 | .slice e => List e.den
 | .unit => Unit
 | .pair a b => a.den × b.den
 | .arr _ e => List e.den
def Ty.size : Ty -> Nat
 | .unit => 0
 | .pair a b => a.size + b.size
 | .arr n e => n * e.size
 | _ => 1
def Ty.isAgg : Ty -> Bool
 | .unit | .pair _ _ | .arr _ _ => true
 | _ => false
def zp (k : FloatKind) (b : Nat) : Bool := (k.format.read b).isNaN
def J8 : FloatKind -> Nat
 | .f32 => 0x7fc00000
 | .f64 => 0x7ff8000000000000
def ca (k : FloatKind) (b : Nat) : Nat := if zp k b then J8 k else b
def bX (w : World) (b off : Nat) (cs : List Value) : Prop := ∀ j v, cs[j]? = some v -> w.cell? ⟨b, off + j, none⟩ = some v
def aR {α : Type} (R : List Value -> α -> Prop) : List Value -> List α -> Prop
 | cs, [] => cs = []
 | cs, x :: xs => ∃ c1 c2, cs = c1 ++ c2 /\ R c1 x /\ aR R c2 xs
def kP {α : Type} (w : World) (im : Nat -> Prop) (R : List Value -> α -> Prop) (a : Option Addr) (xs : List α) : Prop :=
 match a with
 | none => xs = []
 | some ad => xs = [] \/ (ad.spot = none /\ im ad.block /\ ∃ cs, bX w ad.block ad.off cs /\ aR R cs xs)
def aM (w : World) (im : Nat -> Prop) : (t : Ty) -> List Value -> t.den -> Prop
 | .int k, cs, n => cs = [.int k n]
 | .bool, cs, b => cs = [.bool b]
 | .str, cs, s => cs = [.string ⟨s.toArray⟩]
 | .flt k, cs, b => ∃ r, cs = [.float k r] /\ ca k r = b
 | .slice e, cs, xs => ∃ a cap, cs = [.slice a xs.length cap] /\ xs.length <= cap /\ cap <= maxLen /\ (a = none -> cap = 0) /\ kP w im (aM w im e) a xs
 | .unit, cs, _ => cs = []
 | .pair a b, cs, x => ∃ c1 c2, cs = c1 ++ c2 /\ aM w im a c1 x.1 /\ aM w im b c2 x.2
 | .arr n e, cs, xs => xs.length = n /\ aR (aM w im e) cs xs
theorem bX.mono {w w' : World} {b off : Nat} {cs : List Value} (h : bX w b off cs) (hb : w'.heap[b]? = w.heap[b]?) : bX w' b off cs :=
 fun j v hj => (World.cell?_of_block (a := ⟨b, off + j, none⟩) hb).trans (h j v hj)
theorem bX.append {w : World} {b off : Nat} {c1 c2 : List Value} (h : bX w b off (c1 ++ c2)) : bX w b off c1 /\ bX w b (off + c1.length) c2 := by
 refine ⟨fun j v hj => h j v ?_, fun j v hj => ?_⟩
 ·rw [List.getElem?_append_left (by have := (List.getElem?_eq_some_iff.1 hj).1; omega)]; exact hj
 ·have := h (c1.length + j) v (by rw [List.getElem?_append_right (by omega)]; simpa using hj)
  rw [Nat.add_assoc]; exact this
theorem bX.sub {w : World} {b off : Nat} {cs : List Value} (h : bX w b off cs) (i n : Nat) : bX w b (off + i) ((cs.drop i).take n) := by
 intro j v hj
 rw [List.getElem?_take] at hj
 split at hj
 ·rw [List.getElem?_drop] at hj
  have := h (i + j) v hj
  rw [Nat.add_assoc]; exact this
 ·cases hj
section
variable {α : Type} {R R' : List Value -> α -> Prop}
theorem aR.mono (hr : ∀ cs x, R cs x -> R' cs x) : ∀ (xs : List α) (cs : List Value), aR R cs xs -> aR R' cs xs
 | [], _, h => h
 | _ :: xs, _, ⟨c1, c2, e, h1, h2⟩ => ⟨c1, c2, e, hr _ _ h1, aR.mono hr xs c2 h2⟩
theorem aR.length {sz : Nat} (hr : ∀ cs x, R cs x -> cs.length = sz) : ∀ (xs : List α) (cs : List Value), aR R cs xs -> cs.length = xs.length * sz
 | [], cs, h => by have h' : cs = [] := h; simp [h']
 | _ :: xs, cs, ⟨c1, c2, e, h1, h2⟩ => by
  have := hr _ _ h1
  have := aR.length hr xs c2 h2
  subst e
  rw [List.length_append, List.length_cons, Nat.add_mul]; omega
theorem aR.one (hr : ∀ cs x, R cs x -> ∀ v ∈ cs, v.oneCell' = true) : ∀ (xs : List α) (cs : List Value), aR R cs xs -> ∀ v ∈ cs, v.oneCell' = true
 | [], cs, h => by have h' : cs = [] := h; simp [h']
 | _ :: xs, cs, ⟨c1, c2, e, h1, h2⟩ => by
  subst e
  intro v hv
  rcases List.mem_append.1 hv with hv | hv
  ·exact hr _ _ h1 v hv
  ·exact aR.one hr xs c2 h2 v hv
theorem aR.append : ∀ (xs ys : List α) (c1 c2 : List Value), aR R c1 xs -> aR R c2 ys -> aR R (c1 ++ c2) (xs ++ ys)
 | [], ys, c1, c2, h1, h2 => by have h' : c1 = [] := h1; subst h'; exact h2
 | x :: xs, ys, _, c2, ⟨a1, a2, e, h1, wN⟩, h2 => by
  subst e
  exact ⟨a1, a2 ++ c2, by simp, h1, aR.append xs ys a2 c2 wN h2⟩
theorem aR.split : ∀ (xs ys : List α) (cs : List Value), aR R cs (xs ++ ys) -> ∃ c1 c2, cs = c1 ++ c2 /\ aR R c1 xs /\ aR R c2 ys
 | [], _, cs, h => ⟨[], cs, rfl, rfl, h⟩
 | _ :: xs, ys, cs, ⟨a1, a2, e, h1, h2⟩ => by
  obtain ⟨c1, c2, e', h3, h4⟩ := aR.split xs ys a2 h2
  exact ⟨a1 ++ c1, c2, by simp [e, e'], ⟨a1, c1, rfl, h1, h3⟩, h4⟩
theorem aR.get {sz : Nat} (hr : ∀ cs x, R cs x -> cs.length = sz) {xs : List α} {cs : List Value} (h : aR R cs xs) {i : Nat} {x : α} (hx : xs[i]? = some x) :
  R ((cs.drop (i * sz)).take sz) x /\ ((cs.drop (i * sz)).take sz).length = sz := by
 obtain ⟨hi, he⟩ := List.getElem?_eq_some_iff.1 hx
 have hsplit : xs = xs.take i ++ (x :: xs.drop (i + 1)) := by
  rw [← he, List.getElem_cons_drop, List.take_append_drop]
 rw [hsplit] at h
 obtain ⟨c1, c2, e, h1, a1, a2, e2, h2, h3⟩ := aR.split _ _ _ h
 have l1 := aR.length hr _ _ h1
 have l2 := hr _ _ h2
 rw [List.length_take, Nat.min_eq_left (by omega)] at l1
 subst e; subst e2
 have : (((c1 ++ (a1 ++ a2)).drop (i * sz)).take sz) = a1 := by
  rw [← l1, List.drop_left, ← l2, List.take_left]
 rw [this]; exact ⟨h2, l2⟩
theorem aR.take {sz : Nat} (hr : ∀ cs x, R cs x -> cs.length = sz) {xs : List α} {cs : List Value} (h : aR R cs xs) (n : Nat) : aR R (cs.take (n * sz)) (xs.take n) := by
 by_cases hn : n <= xs.length
 ·rw [← List.take_append_drop n xs] at h
  obtain ⟨c1, c2, e, h1, h2⟩ := aR.split _ _ _ h
  have l1 := aR.length hr _ _ h1
  rw [List.length_take, Nat.min_eq_left hn] at l1
  subst e
  rw [← l1, List.take_left]; exact h1
 ·have l := aR.length hr _ _ h
  have hle : cs.length <= n * sz := by rw [l]; exact Nat.mul_le_mul_right _ (by omega)
  rw [List.take_of_length_le hle, List.take_of_length_le (by omega)]; exact h
theorem aR.drop {sz : Nat} (hr : ∀ cs x, R cs x -> cs.length = sz) {xs : List α} {cs : List Value} (h : aR R cs xs) (n : Nat) : aR R (cs.drop (n * sz)) (xs.drop n) := by
 by_cases hn : n <= xs.length
 ·rw [← List.take_append_drop n xs] at h
  obtain ⟨c1, c2, e, h1, h2⟩ := aR.split _ _ _ h
  have l1 := aR.length hr _ _ h1
  rw [List.length_take, Nat.min_eq_left hn] at l1
  subst e
  rw [← l1, List.drop_left]; exact h2
 ·have l := aR.length hr _ _ h
  have hle : cs.length <= n * sz := by rw [l]; exact Nat.mul_le_mul_right _ (by omega)
  rw [List.drop_eq_nil_of_le hle, List.drop_eq_nil_of_le (by omega)]; rfl
theorem aR.set {sz : Nat} (hr : ∀ cs x, R cs x -> cs.length = sz) {xs : List α} {cs : List Value} (h : aR R cs xs) {i : Nat} (hi : i < xs.length) {y : α} {ds : List Value} (hy : R ds y) :
  aR R (cs.take (i * sz) ++ ds ++ cs.drop ((i + 1) * sz)) (xs.set i y) := by
 have e : xs.set i y = xs.take i ++ (y :: xs.drop (i + 1)) := by
  rw [List.set_eq_take_append_cons_drop, if_pos hi]
 rw [e, List.append_assoc]
 exact aR.append _ _ _ _ (aR.take hr h i) ⟨ds, _, rfl, hy, aR.drop hr h (i + 1)⟩
end
theorem aM.length {w : World} {im : Nat -> Prop} : ∀ (t : Ty) (cs : List Value) (x : t.den), aM w im t cs x -> cs.length = t.size
 | .int _, _, _, h => by have h' := h; simp only [aM] at h'; subst h'; rfl
 | .bool, _, _, h => by have h' := h; simp only [aM] at h'; subst h'; rfl
 | .str, _, _, h => by have h' := h; simp only [aM] at h'; subst h'; rfl
 | .flt _, _, _, ⟨_, h, _⟩ => by subst h; rfl
 | .slice _, _, _, ⟨_, _, h, _⟩ => by subst h; rfl
 | .unit, _, _, h => by have h' := h; simp only [aM] at h'; subst h'; rfl
 | .pair a b, _, _, ⟨c1, c2, h, h1, h2⟩ => by
  subst h
  rw [List.length_append, aM.length a _ _ h1, aM.length b _ _ h2]; rfl
 | .arr n e, _, _, ⟨hn, h⟩ => by
  rw [aR.length (aM.length e) _ _ h, hn]; rfl
theorem aM.one {w : World} {im : Nat -> Prop} : ∀ (t : Ty) (cs : List Value) (x : t.den), aM w im t cs x -> ∀ v ∈ cs, v.oneCell' = true
 | .int _, _, _, h => by have h' := h; simp only [aM] at h'; subst h'; simp [Value.oneCell']
 | .bool, _, _, h => by have h' := h; simp only [aM] at h'; subst h'; simp [Value.oneCell']
 | .str, _, _, h => by have h' := h; simp only [aM] at h'; subst h'; simp [Value.oneCell']
 | .flt _, _, _, ⟨_, h, _⟩ => by subst h; simp [Value.oneCell']
 | .slice _, _, _, ⟨_, _, h, _⟩ => by subst h; simp [Value.oneCell']
 | .unit, _, _, h => by have h' := h; simp only [aM] at h'; subst h'; simp
 | .pair a b, _, _, ⟨c1, c2, h, h1, h2⟩ => by
  subst h
  intro v hv
  rcases List.mem_append.1 hv with hv | hv
  ·exact aM.one a _ _ h1 v hv
  ·exact aM.one b _ _ h2 v hv
 | .arr n e, _, _, ⟨hn, h⟩ => aR.one (aM.one e) _ _ h
theorem aM.mono {w w' : World} {im bI : Nat -> Prop} (hi : ∀ b, im b -> bI b) (hb : ∀ b, im b -> w'.heap[b]? = w.heap[b]?) :
  ∀ (t : Ty) (cs : List Value) (x : t.den), aM w im t cs x -> aM w' bI t cs x
 | .int _, _, _, h => h
 | .bool, _, _, h => h
 | .str, _, _, h => h
 | .flt _, _, _, h => h
 | .slice e, _, xs, ⟨a, cap, h, h1, h2, h0, h3⟩ => by
  refine ⟨a, cap, h, h1, h2, h0, ?_⟩
  cases a with
  | none => exact h3
  | some ad =>
   rcases h3 with h3 | ⟨hs, iC, cs, hc, hl⟩
   ·exact .inl h3
   ·exact .inr ⟨hs, hi _ iC, cs, hc.mono (hb _ iC), aR.mono (aM.mono hi hb e) _ _ hl⟩
 | .unit, _, _, h => h
 | .pair a b, _, _, ⟨c1, c2, h, h1, h2⟩ => ⟨c1, c2, h, aM.mono hi hb a _ _ h1, aM.mono hi hb b _ _ h2⟩
 | .arr n e, _, _, ⟨hn, h⟩ => ⟨hn, aR.mono (aM.mono hi hb e) _ _ h⟩
def Ty.val (t : Ty) (cs : List Value) : Value := if t.isAgg then .agg cs.toArray else cs.headD undef
end Go.Vm
